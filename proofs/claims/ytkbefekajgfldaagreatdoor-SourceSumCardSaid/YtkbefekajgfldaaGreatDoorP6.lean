/- RdI, FlA, FlB, FlC, FlD, FlE, FlF, FlG, CvX, MvA, McB, McC, MvB, LxP, GdA, GdB, GdC -/
import Derived.Test.YtkbefekajgfldaaGreatDoorP5
set_option maxHeartbeats 1000000
namespace Go.Pg
open Go.Proofs Go.Utf8 Go.Lib
set_option linter.unusedSimpArgs false
section
variable {σ σ':aB} {B lo:Nat} {p:Option Addr} {cap:Nat} {ws:List Wd} {e:Nat} {r:Rs}
theorem wd_small (hW:∀ w∈ws,w.t.length≤1000000) (i:Nat):(wdM ws e i).t.length≤1000000:=by
 unfold wdM
 split
 ·exact hW _ (List.getElem_mem _)
 ·simp
theorem wp_reader (hW:∀ w∈ws,w.t.length≤1000000):∀ n,RIH B lo p cap ws e n:=by
 intro n
 induction n using Nat.strongRecOn with
 |ind n ih=>
  cases n with
  |zero=>
   intro f r x σ _ _ h _
   cases h
  |succ n=>
   have ih':∀ m,m≤n→RIH B lo p cap ws e m:=fun m hm=>ih m (by omega)
   have ihn:=ih' n (Nat.le_refl _)
   intro f r x σ he hp h hR
   cases f with
   |expr=>exact wp_expr ihn h hR
   |set=>exact wp_set' ihn h hR
   |cmp=>exact wp_cmp ihn h hR
   |sum=>exact wp_sum ih' h hR
   |mul=>exact wp_mul ih' h hR
   |app=>exact wp_app ih' h hR
   |pre=>exact wp_pre ihn h hR
   |atom=>exact wp_atom ihn h hR (wd_small hW _)
   |con=>exact wp_con ih' hp h hR
   |bracket=>exact wp_bracket ihn h hR
   |long=>exact wp_long ih' h hR
   |pat=>exact wp_pat ih' h hR (wd_small hW _)
   |sumL a=>cases he
   |mulL a=>cases he
   |appL a=>cases he
   |conL a=>cases he
   |armL k m=>cases he
   |patL a=>cases he
def qZ (_:aB) (_:Nat→Prop) (cs:List Value) (t:List UInt8):Prop:=cs=[.string (mkB t)]
def cnR (σ:aB) (Y:Nat→Prop) (cs:List Value) (c:Cn):Prop:=∃ q k,cs=[.string (mkB c.nm),.slice q c.args.length k]∧aR σ Y 1 (qZ σ Y) q c.args∧Emp σ Y q
def dcR (σ:aB) (Y:Nat→Prop) (cs:List Value) (d:Dc):Prop:=∃ q k,cs=[.string (mkB d.nm),.slice q d.cons.length k]∧aR σ Y 2 (cnR σ Y) q d.cons
theorem jI:xB qZ:=fun _ _ _ _ _ _ _ _ _ _ h=>h
theorem eB:xB cnR:=by
 rintro σ σ' S Y Y' cs c f hS hY ⟨q,k,h1,h2,h3⟩
 exact ⟨q,k,h1,h2.step f hS hY fun _ _ h=>h,h3.step f hS hY⟩
theorem cU:xB dcR:=by
 rintro σ σ' S Y Y' cs c f hS hY ⟨q,k,h1,h2⟩
 exact ⟨q,k,h1,h2.step f hS hY fun _ _ h=>eB _ _ _ _ _ _ _ f hS hY h⟩
theorem wp_decls {n:Nat} {x:List Dc × Rs} (h:iY ws e n [] r=some x) (hR:Rdr σ B lo p cap ws e r):
  WpF aG ovD 42 [bP B] σ fun v σ'=>∃ q k,v=.slice q x.1.length k∧aR σ' (cF B σ.n) 2 (dcR σ' (cF B σ.n)) q x.1∧Rdr σ' B lo p cap ws e x.2∧Frm σ σ' (· =B):=by
 refine WpF.of (T42_eq _) rfl ?_
 rw [T42]
 have hB:=hR.st.1
 have hlo:=hR.low
 have k1:=hR.len
 refine Wp.loop (fun m st σ'=>∃ (l:List Dc) (r':Rs) (rb:Nat) (css:List (List Value)) (q:Option Addr) (c:Nat),st=[.slice q l.length c]∧iY ws e m l r'=some x∧GR dcR 2 σ' (cF B σ.n) rb l css q c∧Rdr σ' B lo p cap ws e r'∧Frm σ σ' (· =B)∧l.length≤r'.p) n
  ⟨[],r,0,[],none,0,rfl,h,.zero,hR,Frm.refl _ _,by simp⟩ ?_
 clear h
 rintro m st σ1 ⟨l,r',rb,css,q,c,rfl,h,hG,i2,j2,hl⟩
 cases m with
 |zero=>cases h
 |succ m=>
 have m9:=j2.n
 have l2:=i2.pl
 rw [iY] at h
 unfold T42b2
 simp only [wpS]
 rw [aD]
 refine WpF.mono (bY i2 kType) ?_
 rintro _ σ2 ⟨rfl,b2,f6⟩
 simp only [wpS]
 rw [aC]
 unfold gK at b2
 have c0:=j2.seq f6
 have d6:=hG.frm cU f6 fun _ _ h=>.inl h
 by_cases hm:isM ws e kType r'=true
 case neg=>
  rw [if_neg hm] at h b2
  have hx:=ofS h
  subst hx
  rw [if_neg hm]
  simp only [wpS,T42k7]
  exact ⟨_,rfl,_,_,rfl,d6.close cU (by decide),b2,c0⟩
 rw [if_pos hm] at h b2
 rw [if_pos hm,aI,aD]
 obtain ⟨cs,h1,h⟩:=aU h
 refine WpF.mono (gF b2 (by decide)) ?_
 rintro _ σ3 ⟨rfl,k6,j1⟩
 simp only [wpS]
 refine aP fun σ4 l0 k0 g8=>?_
 refine bC g8 rfl rfl fun σ5 j0 m6 g7=>?_
 have m8:=f6.n
 have m7:=j1.n
 generalize hA:σ3.n=A at g8 g7 j0 k0
 have c1:A≠B:=by omega
 have b7:Frm σ3 σ5 NoB:=l0.fresh j0 fun j hj h=>by omega
 have f5:Frm σ2 σ5 (· =B):=j1.seq b7.no
 rw [aD]
 refine WpF.mono (cK (k6.frm b7) [61]) ?_
 rintro _ σ6 ⟨rfl,i1,e2⟩
 simp only [wpS]
 have b9:=f5.seq e2
 have e5:=e2.st g7 c1
 have j9:=e2.n
 have g0:r'.p+1≤(bM ws e [61] (bI ws e 2 r'.next).2).p:=by
  have q1:=(cJ (ws:=ws) (e:=e) (k:=2) (by decide) r'.next).1.le
  have q2:=(bH (ws:=ws) (e:=e) [61] (bI ws e 2 r'.next).2).1.le
  have q3:r'.next.p=r'.p+1:=rfl
  omega
 have gc:=(sP _ _ _ _ _ h1).le
 generalize l5:(bI ws e 2 r'.next).1=nm at e5 h
 refine Wp.loop (fun m2 st σ'=>∃ (lc:List Cn) (more:Bool) (r2:Rs) (rc:Nat) (cc:List (List Value)) (qc:Option Addr) (kc:Nat),st=[.bool more]∧pN ws e m2 lc more r2=some cs∧St σ' A [.string (mkB nm),.slice qc lc.length kc]∧GR cnR 2 σ' (cF B (A+1)) rc lc cc qc kc∧Rdr σ' B lo p cap ws e r2∧Frm σ2 σ' (· =B)∧A+1≤σ'.n∧lc.length≤r2.p+1∧(r2.bad=false→lc.length≤r2.p)) m
  ⟨[],true,_,0,[],none,0,rfl,h1,e5,.zero,i1,b9,by omega,by simp,fun _=>by simp⟩ ?_
 clear h1 e5 i1 b9 e2 j9
 rintro m2 st σ7 ⟨lc,more,r2,rc,cc,qc,kc,rfl,h1,g6,d5,d0,i9,m5,n2,k3⟩
 cases m2 with
 |zero=>cases h1
 |succ m2=>
 rw [pN] at h1
 unfold T42b1
 simp only [wpS]
 have l4:=d0.pl
 have done:¬ (more=true∧r2.bad=false)→Wp aG ovD (T42k5 (some ⟨B,0,some 0⟩) ⟨A,0,some 0⟩ q l.length c (.exit 2) [.bool more]) σ7 fun e_1 vs σ'=>Wp aG ovD (T42k6 e_1 vs) σ' fun e_1 st' σ'=>match e_1 with
   | .normal=>∃ m',m'<m+1∧∃ (l:List Dc) (r':Rs) (rb:Nat) (css:List (List Value)) (q:Option Addr) (c:Nat),st'=[.slice q l.length c]∧iY ws e m' l r'=some x∧GR dcR 2 σ' (cF B σ.n) rb l css q c∧Rdr σ' B lo p cap ws e r'∧Frm σ σ' (· =B)∧l.length≤r'.p
   |e_1=>Wp aG ovD (T42k7 e_1 st') σ' fun _ vs σ'=>∃ v,vs=[v]∧∃ q k,v=.slice q x.1.length k∧aR σ' (cF B σ.n) 2 (dcR σ' (cF B σ.n)) q x.1∧Rdr σ' B lo p cap ws e x.2∧Frm σ σ' (· =B):=by
  intro hc
  rw [if_neg hc] at h1
  have hx:=ofS h1
  subst hx
  simp only [wpS,T42k5]
  rw [aD]
  refine WpF.mono (cK d0 kIn) ?_
  rintro _ σ8 ⟨rfl,c8,a3⟩
  simp only [wpS]
  rw [aS (a3.st g6 c1) 2 rfl]
  simp only [wpS]
  have b8:=i9.seq a3
  have j8:=a3.n
  have e7:=d5.frm eB a3 fun _ _ h=>.inl h
  have a1:∀ j,j<σ8.n→(cF B σ.n j∨q≠none∧j=rb)→cF B (A+1) j:=by
   rintro j _ ((h1|h1)|⟨h1,h2⟩)
   ·exact .inl h1
   ·exact .inr (by omega)
   ·exact .inr (by have:=d6.lt h1;omega)
  have hb:dcR σ8 (fun j=>cF B σ.n j∨q≠none∧j=rb) [.string (mkB nm),.slice qc lc.length kc] ⟨nm,lc⟩:=
   cU _ _ _ _ _ _ _ (Frm.refl σ8 NoB) (fun _ _ h=>h.elim) a1 ⟨qc,kc,rfl,e7.close eB (by decide)⟩
  refine uj cU (kM c8 (by omega)) (d6.frm cU b8 fun _ _ h=>.inl h) (by decide) (by decide) rfl (by intro y hy;simp at hy;rcases hy with rfl|rfl<;>rfl) hb (by omega) (by decide) fun σ9 rb9 p9 c9 e1 j3 k9=>?_
  simp only [wpS,T42k6]
  have e3:q≠none→σ.n≤rb∧rb≠B:=fun hq=>by
   have:=d6.hr hq
   simp only [cF,not_or] at this
   exact ⟨by omega,this.1⟩
  have ge:=(bH (ws:=ws) (e:=e) kIn r2).1.le
  refine ⟨m,by omega,l++[⟨nm,lc⟩],_,rb9,_,_,c9,by simp,h,k9,c8.frmS e1 (fun h=>(e3 h.1).2 h.2.symm) (fun j hj=>by have:=(e3 hj.1).1;omega),(c0.seq b8).trans e1 (fun _ _ h=>h) fun j hj h=>by have:=(e3 h.1).1;omega,?_⟩
  show (l++[(⟨nm,lc⟩:Dc)]).length≤(bM ws e kIn r2).p
  rw [List.length_append,List.length_singleton]
  have gc':(bM ws e [61] (bI ws e 2 r'.next).2).p≤r2.p:=gc
  omega
 rw [aC]
 by_cases d1:more=true
 case neg=>
  rw [if_neg (by simpa using d1)]
  simp only [wpS,T42k4]
  rw [aC,if_neg (by simp)]
  simp only [wpS]
  exact done fun h=>d1 h.1
 rw [if_pos (by simpa using d1),aE d0.st rfl]
 simp only [wpS,T42k4]
 rw [aC]
 by_cases d2:r2.bad=true
 ·rw [if_neg (by simp [d2])]
  simp only [wpS]
  exact done fun h=>by rw [d2] at h;exact absurd h.2 (by simp)
 have d2':r2.bad=false:=by simpa using d2
 clear done
 rw [if_pos ⟨d1,d2'⟩] at h1
 obtain ⟨ar,h3,h1⟩:=aU h1
 rw [if_pos (by simp [d2']),aI,aD]
 refine WpF.mono (gF d0 (by decide)) ?_
 rintro _ σ8 ⟨rfl,c8,a3⟩
 simp only [wpS]
 refine aP fun σ9 e1 j7 g5=>?_
 refine bC g5 rfl rfl fun σa i8 m4 g2=>?_
 have j8:=a3.n
 generalize hC:σ8.n=C at g5 g2 i8 j7
 have a8:C≠B:=by omega
 have n5:A<C:=by omega
 have b3:Frm σ8 σa NoB:=e1.fresh i8 fun j hj h=>by omega
 have f4:Frm σ7 σa (· =B):=a3.seq b3.no
 rw [aD]
 refine WpF.mono (bY (c8.frm b3) kOf) ?_
 rintro _ σb ⟨rfl,b1,f0⟩
 simp only [wpS]
 unfold gK at b1
 have b6:=f4.seq f0
 have c5:=f0.st g2 a8
 have m1:=f0.n
 generalize n4:(bI ws e 3 r2).1=cn at c5 h1
 have gname:=cJ (ws:=ws) (e:=e) (k:=3) (by decide) r2
 have put:∀ (r3:Rs) (ra:Nat) (ca:List (List Value)) (qa:Option Addr) (ka:Nat) (σ':aB),ar.2=r3→Frm σ7 σ' (· =B)→Rdr σ' B lo p cap ws e r3→St σ' C [.string (mkB cn),.slice qa ar.1.length ka]→GR qZ 1 σ' (cF B (C+1)) ra ar.1 ca qa ka→C+1≤σ'.n→Go2 ws r2 r3→
   Wp aG ovD (T42k2 ⟨A,0,some 0⟩ ⟨C,0,some 0⟩ .normal []) σ' fun e_1 vs σ'=>Wp aG ovD (T42k3 (some ⟨B,0,some 0⟩) e_1 vs) σ' fun e_1 st' σ'=>match e_1 with
    | .normal=>∃ m',m'<m2+1∧∃ (lc:List Cn) (more:Bool) (r2:Rs) (rc:Nat) (cc:List (List Value)) (qc:Option Addr) (kc:Nat),st'=[.bool more]∧pN ws e m' lc more r2=some cs∧St σ' A [.string (mkB nm),.slice qc lc.length kc]∧GR cnR 2 σ' (cF B (A+1)) rc lc cc qc kc∧Rdr σ' B lo p cap ws e r2∧Frm σ2 σ' (· =B)∧A+1≤σ'.n∧lc.length≤r2.p+1∧(r2.bad=false→lc.length≤r2.p)
    |e_1=>Wp aG ovD (T42k5 (some ⟨B,0,some 0⟩) ⟨A,0,some 0⟩ q l.length c e_1 st') σ' fun e_1 vs σ'=>Wp aG ovD (T42k6 e_1 vs) σ' fun e_1 st' σ'=>match e_1 with
     | .normal=>∃ m',m'<m+1∧∃ (l:List Dc) (r':Rs) (rb:Nat) (css:List (List Value)) (q:Option Addr) (c:Nat),st'=[.slice q l.length c]∧iY ws e m' l r'=some x∧GR dcR 2 σ' (cF B σ.n) rb l css q c∧Rdr σ' B lo p cap ws e r'∧Frm σ σ' (· =B)∧l.length≤r'.p
     |e_1=>Wp aG ovD (T42k7 e_1 st') σ' fun _ vs σ'=>∃ v,vs=[v]∧∃ q k,v=.slice q x.1.length k∧aR σ' (cF B σ.n) 2 (dcR σ' (cF B σ.n)) q x.1∧Rdr σ' B lo p cap ws e x.2∧Frm σ σ' (· =B):=by
  rintro r3 ra ca qa ka σ' rfl a4 i3 k5 i7 n1 a9
  simp only [wpS,T42k2]
  have g3:=a4.st g6 c1
  rw [aE g3 (v:=.slice qc lc.length kc) rfl]
  simp only [wpS]
  rw [aS k5 2 rfl]
  simp only [wpS]
  have a1:∀ j,j<σ'.n→(cF B (A+1) j∨qc≠none∧j=rc)→cF B (C+1) j:=by
   rintro j _ ((h1|h1)|⟨h1,h2⟩)
   ·exact .inl h1
   ·exact .inr (by omega)
   ·exact .inr (by have:=d5.lt h1;omega)
  have hb:cnR σ' (fun j=>cF B (A+1) j∨qc≠none∧j=rc) [.string (mkB cn),.slice qa ar.1.length ka] ⟨cn,ar.1⟩:=
   eB _ _ _ _ _ _ _ (Frm.refl σ' NoB) (fun _ _ h=>h.elim) a1 ⟨qa,ka,rfl,i7.close jI (by decide),i7.emp⟩
  have c3:qc≠none→A+1≤rc∧rc≠B:=fun hq=>by
   have:=d5.hr hq
   simp only [cF,not_or] at this
   exact ⟨by omega,this.1⟩
  refine uj eB (kM i3 (by omega)) (d5.frm eB a4 fun _ _ h=>.inl h) (by decide) (by decide) rfl (by intro y hy;simp at hy;rcases hy with rfl|rfl<;>rfl) hb (by omega) (by decide) fun σd rd pd kd a7 l1 e6=>?_
  have j6:=a7.n
  refine bB (a7.st g3 fun h=>by have:=(c3 h.1).1;omega) (by simp) rfl fun σe a2 j5 a6=>?_
  simp only [List.set_cons_succ,List.set_cons_zero] at a6
  have c7:=(i3.frmS a7 (fun h=>(c3 h.1).2 h.2.symm) fun j hj=>by have:=(c3 hj.1).1;omega).frmS a2 (fun h=>c1 h.symm) fun j hj=>by omega
  simp only [wpS,T42k3]
  rw [aD]
  refine WpF.mono (bY c7 [124]) ?_
  rintro _ σf ⟨rfl,c6,e0⟩
  simp only [wpS]
  have j4:=e0.n
  have g4:ar.2.p≤(gK ws e [124] ar.2).p∧(gK ws e [124] ar.2).bad=ar.2.bad:=by
   unfold gK
   split
   ·exact ⟨Nat.le_succ _,rfl⟩
   ·exact ⟨Nat.le_refl _,rfl⟩
  have k2:=k3 d2'
  have q3:=a9.1.le
  have a5:(lc++[(⟨cn,ar.1⟩:Cn)]).length=lc.length+1:=by simp
  refine ⟨m2,by omega,lc++[⟨cn,ar.1⟩],_,gK ws e [124] ar.2,rd,_,_,kd,rfl,h1,?_,(e6.step (Y':=cF B (A+1)) eB a2 (fun j hj h=>.inr (by omega)) fun _ _ h=>h).frm eB e0 fun _ _ h=>.inl h,c6,?_,by omega,?_,?_⟩
  ·rw [a5]
   exact e0.st a6 c1
  ·refine ((i9.seq a4).trans a7 (fun _ _ h=>h) ?_ |>.trans a2 (fun _ _ h=>h) ?_).seq e0
   ·intro j hj h
    have:=(c3 h.1).1
    omega
   ·intro j hj h
    omega
  ·rw [a5]
   omega
  ·rw [a5]
   intro hb
   rw [g4.2] at hb
   rcases a9.2 with h|h
   ·rw [hb] at h;cases h
   ·omega
 rw [aC]
 by_cases d3:isM ws e kOf (bI ws e 3 r2).2=true
 case neg=>
  rw [if_neg d3] at h3 b1
  have hx:=ofS h3
  subst hx
  rw [if_neg d3]
  simp only [wpS]
  exact put _ 0 [] none 0 σb rfl b6 b1 c5 .zero (by omega) gname
 rw [if_pos d3] at h3 b1
 rw [if_pos d3,aE c5 (v:=.slice none 0 0) rfl]
 simp only [wpS]
 rw [aD]
 refine WpF.mono (gF b1 (by decide)) ?_
 rintro _ σc ⟨rfl,i0,e9⟩
 simp only [wpS]
 have f3:=b6.seq e9
 have g1:=e9.st c5 a8
 have m0:=e9.n
 refine wp_gaddC (R:=qZ) (k:=1) (l:=[]) (css:=[]) (p:=none) (c:=0) (Y:=cF B (C+1)) (rb:=0) jI (kM i0 (by omega)) .zero (by decide) (by decide) rfl (by intro y hy;simp at hy;subst hy;rfl) (b:=(bI ws e 2 (bI ws e 3 r2).2.next).1) rfl (by simp) (by decide) (fun σ' f7=>jM ((f7.stN g1).ldF rfl)) fun σd rd pd kd a7 _ e6=>?_
 have a0:Frm σc σd NoB:=a7.mono fun j _ h=>h.1 rfl
 refine bB (a0.stN g1) (by simp) rfl fun σe a2 j5 a6=>?_
 simp only [List.set_cons_succ,List.set_cons_zero] at a6
 have j6:=a0.n
 have b5:Frm σ7 σe (· =B):=(f3.seq a0.no).trans a2 (fun _ _ h=>h) fun j hj h=>by omega
 have c7:=(i0.frm a0).frmS a2 (fun h=>a8 h.symm) fun j hj=>by omega
 have i6:=e6.step (Y':=cF B (C+1)) jI a2 (fun j hj h=>.inr (by omega)) fun _ _ h=>h
 have q0:Go2 ws r2 (bI ws e 2 (bI ws e 3 r2).2.next).2:=gname.then ((Go1.next (aZ d3).2).trans (cJ (by decide) _).1)
 have q1:1≤(bI ws e 2 (bI ws e 3 r2).2.next).2.p:=by
  have h1:=(cJ (ws:=ws) (e:=e) (k:=2) (by decide) (bI ws e 3 r2).2.next).1.le
  have h2:(bI ws e 3 r2).2.next.p=(bI ws e 3 r2).2.p+1:=rfl
  omega
 refine Wp.loop (fun m3 st σ'=>∃ (la:List (List UInt8)) (r3:Rs) (ra:Nat) (ca:List (List Value)) (qa:Option Addr) (ka:Nat),st=[]∧pK ws e m3 la r3=some ar∧St σ' C [.string (mkB cn),.slice qa la.length ka]∧GR qZ 1 σ' (cF B (C+1)) ra la ca qa ka∧Rdr σ' B lo p cap ws e r3∧Frm σ7 σ' (· =B)∧C+1≤σ'.n∧la.length≤r3.p∧Go2 ws r2 r3) m2
  ⟨_,_,rd,_,_,kd,rfl,h3,a6,i6,c7,b5,by omega,by simpa using q1,q0⟩ ?_
 clear h3 a6 i6 c7 b5 q0 q1
 rintro m3 st σf ⟨la,r3,ra,ca,qa,ka,rfl,h3,k4,k8,c6,f2,j4,n3,a9⟩
 cases m3 with
 |zero=>cases h3
 |succ m3=>
 rw [pK] at h3
 unfold T42b0
 simp only [wpS]
 have l3:=c6.pl
 rw [aD]
 refine WpF.mono (bY c6 [44]) ?_
 rintro _ σg ⟨rfl,b0,d9⟩
 simp only [wpS]
 rw [aC]
 unfold gK at b0
 have b4:=f2.seq d9
 have e4:=d9.st k4 a8
 have i5:=k8.frm jI d9 fun _ _ h=>.inl h
 have l9:=d9.n
 by_cases d4:isM ws e [44] r3=true
 case neg=>
  rw [if_neg d4] at h3 b0
  have hx:=ofS h3
  subst hx
  rw [if_neg d4]
  simp only [wpS,T42k1]
  exact put _ ra ca qa ka σg rfl b4 b0 e4 i5 (by omega) a9
 rw [if_pos d4] at h3 b0
 rw [if_pos d4,aI,aE e4 (v:=.slice qa la.length ka) rfl]
 simp only [wpS]
 rw [aD]
 refine WpF.mono (gF b0 (by decide)) ?_
 rintro _ σh ⟨rfl,g9,d8⟩
 simp only [wpS]
 have f1:=b4.seq d8
 have f9:=d8.st e4 a8
 have i4:=i5.frm jI d8 fun _ _ h=>.inl h
 have l8:=d8.n
 have c4:qa≠none→C+1≤ra∧ra≠B:=fun hq=>by
  have:=i4.hr hq
  simp only [cF,not_or] at this
  exact ⟨by omega,this.1⟩
 refine wp_gaddC jI (kM g9 (by omega)) i4 (by decide) (by decide) rfl (by intro y hy;simp at hy;subst hy;rfl) (b:=(bI ws e 2 r3.next).1) rfl (by omega) (by decide) (fun σ' f7=>jM ((f7.stN f9).ldF rfl)) fun σi ri pi ki d7 _ k7=>?_
 have l7:=d7.n
 refine bB (d7.st f9 fun h=>by have:=(c4 h.1).1;omega) (by simp) rfl fun σj e8 l6 f8=>?_
 simp only [List.set_cons_succ,List.set_cons_zero] at f8
 simp only [wpS,T42k0]
 have a5:(la++[(bI ws e 2 r3.next).1]).length=la.length+1:=by simp
 have q2:=(cJ (ws:=ws) (e:=e) (k:=2) (by decide) r3.next).1.le
 have q3:r3.next.p=r3.p+1:=rfl
 refine ⟨m3,by omega,la++[(bI ws e 2 r3.next).1],(bI ws e 2 r3.next).2,ri,_,_,ki,trivial,h3,?_,k7.step (Y':=cF B (C+1)) jI e8 (fun j hj h=>.inr (by omega)) fun _ _ h=>h,(g9.frmS d7 (fun h=>(c4 h.1).2 h.2.symm) fun j hj=>by have:=(c4 hj.1).1;omega).frmS e8 (fun h=>a8 h.symm) fun j hj=>by omega,?_,by omega,?_,a9.then ((Go1.next (aZ d4).2).trans (cJ (by decide) _).1)⟩
 ·rw [a5];exact f8
 ·refine (f1.trans d7 (fun _ _ h=>h) ?_).trans e8 (fun _ _ h=>h) ?_
  ·intro j hj h
   have:=(c4 h.1).1
   omega
  ·intro j hj h
   omega
 ·rw [a5]
  omega
end
end Go.Pg
namespace Go.Pg
open Go.Proofs Go.Utf8 Go.Lib
set_option linter.unusedSimpArgs false
theorem pW:∀ (l:List Tm) (i:Nat),szL (l.take i)≤szL l
 |[],i=>by simp
 |t::l,0=>by simp [szL]
 |t::l,i+1=>by rw [List.take_succ_cons,szL,szL];have:=pW l i;omega
theorem szL_take (l:List Tm) (i:Nat) (h:i<l.length):szL (l.take (i+1))=szL (l.take i)+szT l[i]:=by
 rw [List.take_succ_eq_append_getElem h,tH,nN]
theorem flL_app:∀ (a b:List Tm) (q:Nat),flL q (a++b)=flL q a++flL (q+szL a) b
 |[],b,q=>by simp [flL,szL]
 |t::a,b,q=>by rw [List.cons_append,flL,flL,flL_app a b,List.append_assoc,szL,Nat.add_assoc]
theorem flL_one (t:Tm) (q:Nat):flL q [t]=flT q t:=by simp [flL]
theorem yD:∀ (a b:List Tm) (q:Nat),fM q (a++b)=fM q a++fM (q+szL a) b
 |[],b,q=>by simp [fM,szL]
 |t::a,b,q=>by rw [List.cons_append,fM,fM,yD a b,List.cons_append,szL,Nat.add_assoc]
theorem dpL_app:∀ (a b:List Tm) (q d:Nat) (c:Int),dpL q d c (a++b)=dpL (q+szL a) d (dpL q d c a) b
 |[],b,q,d,c=>by simp [dpL,szL]
 |t::a,b,q,d,c=>by rw [List.cons_append,dpL,dpL,dpL_app a b,szL,Nat.add_assoc]
theorem flat_set {k:Nat} (o:Nat) (v:Value) (ho:o<k):∀ (css:List (List Value)) (i:Nat) (hi:i<css.length),(∀ cs∈css,cs.length=k)→(css.set i (css[i].set o v)).flatten=css.flatten.set (i*k+o) v
 |[],i,hi,_=>absurd hi (Nat.not_lt_zero _)
 |cs::css,0,hi,hc=>by
  have hl:=hc cs (by simp)
  rw [List.set_cons_zero,List.flatten_cons,List.flatten_cons,List.getElem_cons_zero,Nat.zero_mul,Nat.zero_add,List.set_append_left _ _ (by omega)]
 |cs::css,i+1,hi,hc=>by
  have hl:=hc cs (by simp)
  have e:(i+1)*k+o=cs.length+(i*k+o):=by rw [hl,Nat.add_mul,Nat.one_mul];omega
  rw [List.set_cons_succ,List.flatten_cons,List.flatten_cons,List.getElem_cons_succ,flat_set o v ho css i (by simpa using hi) (fun x hx=>hc x (by simp [hx])),e,List.set_append_right _ _ (by omega),Nat.add_sub_cancel_left]
def kO (cs:List Value) (j:Nat):Prop:=cs=[.int .i64 ((j:Nat):Int)]
def nvR (σ:aB) (Y:Nat→Prop) (cs:List Value) (v:NV):Prop:=∃ q k,cs=[.int .i64 v.x.k,.int .i64 v.x.n,.string (mkB v.x.nm),.string (mkB v.x.pm),.slice q v.kids.length k,.int .i64 v.x.fr,.int .i64 v.x.to]∧aR σ Y 1 kO q v.kids∧Emp σ Y q
theorem dE:xB nvR:=by
 rintro σ σ' S Y Y' cs c f hS hY ⟨q,k,h1,h2,h3⟩
 exact ⟨q,k,h1,h2.step f hS hY fun _ _ h=>h,h3.step f hS hY⟩
section
variable {σ σ':aB}
abbrev ql (j:Nat):Value:=.int .i64 ((j:Nat):Int)
theorem row_nats {Y:Nat→Prop} {b off s c:Nat} {bl:List Nat} (h:Row σ b off s c 1 (bl.map ql)) (hb:¬ Y b):aR σ Y 1 kO (some ⟨b,off,some s⟩) bl:=
 aR.own (css:=bl.map fun j=>[ql j]) (by
  have e:(bl.map fun j=>[ql j]).flatten=bl.map ql:=by
   clear h
   induction bl with
   |nil=>rfl
   |cons j r ih=>rw [List.map_cons,List.flatten_cons,List.map_cons,←ih];try rfl
  rw [e];exact h) hb (by simp) (by intro cs a0;obtain ⟨t,_,rfl⟩:=List.mem_map.1 a0;rfl) (fun i h1 h2=>by simp [kO])
theorem slE_nats {Y:Nat→Prop} {b c:Nat} {p:Option Addr} {bl:List Nat} (h:SlE σ b p c 1 (bl.map ql)) (hb:p≠none→¬ Y b):aR σ Y 1 kO p bl:=by
 rcases h with ⟨rfl,_,h0⟩|⟨off,s,rfl,hR⟩
 ·have:bl=[]:=by simpa using h0
  rw [this]
  exact aR.nil
 ·exact row_nats hR (hb (by simp))
variable {P:Program} {ov:Ov}
theorem qE {b cap len byt esz:Nat} {p:Option Addr} {xs ys:List Value} {ck:List (Act × Value)} {g:Option Addr→Nat→Nat→Pg} {Q:cN} (h:SlE σ b p cap esz xs) (a0:xs.length=len*esz) (h0:1≤esz) (he:esz<64) (hy:ys.length=esz) (a1:∀ y∈ys,one y=true)
  (hb:2*(len+1)*byt≤281474976710656) (a3:len+1≤4611686018427387904) (a2:∀ σ',Frm σ σ' NoB→chks ck σ'=true)
  (k:∀ σ' b' off s cap',Frm σ σ' (fun j=>p≠none∧j=b)→((p≠none∧b'=b)∨σ.n≤b')→Row σ' b' off s cap' esz (xs++ys)→Wp P ov (g (some ⟨b',off,some s⟩) (len+1) cap') σ' Q):
  Wp P ov (.act (wW esz 1 ys) fun v=>aN v fun p' n' c'=>.get fun h2=>grd (chks ck h2) (.act (apS esz byt p len cap p' n' c') fun w=>aN w g)) σ Q:=by
 have key:=kJ (P:=P) (ov:=ov) (g:=g) (Q:=Q) h a0 h0 he hy a1 hb a3 k
 rw [aY,cT] at key ⊢
 simp only [bT] at key ⊢
 rw [bK,aQ]
 exact ⟨a2 _ (Frm.new _ _ _ _),key⟩
theorem wp_gset {Y:Nat→Prop} {rb:Nat} {l:List NV} {css:List (List Value)} {p:Option Addr} {c i:Nat} {x:Nd} {kids:List Nat} {q:Option Addr} {k:Nat} {K:Pg} {Q:cN} (hG:GR nvR 7 σ Y rb l css p c) (hi:i<l.length) (hl:l[i]=⟨x,[]⟩) (hk:aR σ (fun j=>Y j∨p≠none∧j=rb) 1 kO q kids) (hz:Emp σ (fun j=>Y j∨p≠none∧j=rb) q)
  (kk:∀ σ' css',Frm σ σ' (· =rb)→GR nvR 7 σ' Y rb (l.set i ⟨x,kids⟩) css' p c→Wp P ov K σ' Q):
  ∃ a,p=some a∧Wp P ov (.act (stC (aadd (aadd a (i*7)) 4) [(.slice q kids.length k)]) fun v=>cE v fun l=>aA l K) σ Q:=by
 rcases hG.row with ⟨hp,_,_⟩|⟨off,s,rfl,hR⟩
 ·have:=(hG.nil (by decide) hp).1
  rw [this] at hi
  exact absurd hi (Nat.not_lt_zero _)
 have a2:i<css.length:=by rw [hG.len];exact hi
 have a5:=hG.cl _ (List.getElem_mem a2)
 have a3:=fB hG.cl
 have a7:i*7+7≤css.flatten.length:=by rw [a3];omega
 have a6:=hR.len
 obtain ⟨σ1,h1,h2,h3,h4,h5⟩:=hR.wrN (i:=i*7+4) (vs:=[.slice q kids.length k]) (by omega) (by simp only [List.length_singleton];omega) (by intro y hy;simp at hy;subst hy;rfl)
 refine ⟨_,rfl,?_⟩
 have e:stC (aadd (aadd ⟨rb,off,some s⟩ (i*7)) 4) [.slice q kids.length k] σ=some (.tuple #[],σ1):=by
  unfold stC
  rw [show aadd (aadd ⟨rb,off,some s⟩ (i*7)) 4=⟨rb,off+(i*7+4),some s⟩ by simp [aadd,Nat.add_assoc],h1]
 rw [aY,e]
 simp only [dA,aJ]
 have hF:Frm σ σ1 (· =rb):=Frm.of1 hR.lt h2 h3 h4
 have a0:css.flatten.take (i*7+4)++[.slice q kids.length k]++css.flatten.drop (i*7+4+[Value.slice q kids.length k].length)=(css.set i (css[i].set 4 (.slice q kids.length k))).flatten:=by
  rw [flat_set 4 _ (by decide) css i a2 hG.cl,List.set_eq_take_append_cons_drop,if_pos (by omega)]
  simp
 rw [a0] at h5
 have hS:∀ j,j<σ.n→j=rb→(Y j∨some (⟨rb,off,some s⟩:Addr)≠none∧j=rb):=fun j _ h=>.inr ⟨by simp,h⟩
 refine kk σ1 _ hF ⟨.inr ⟨off,s,rfl,h5⟩,hG.hr,by simp [hG.len],?_,?_⟩
 ·intro cs a4
  rcases List.mem_or_eq_of_mem_set a4 with h|h
  ·exact hG.cl cs h
  ·rw [h,List.length_set];exact a5
 ·intro j h6 h7
  rw [List.length_set] at h6 h7
  by_cases a1:i=j
  ·subst a1
   rw [List.getElem_set_self,List.getElem_set_self]
   obtain ⟨q',k',h8,_,_⟩:=hG.el i h6 h7
   rw [hl] at h8
   exact ⟨q,k,by rw [h8];rfl,hk.step hF hS (fun _ _ h=>h) (fun _ _ h=>h),hz.step hF hS fun _ _ h=>h⟩
  ·rw [List.getElem_set_ne a1,List.getElem_set_ne a1]
   exact dE _ _ _ _ _ _ _ hF hS (fun _ _ h=>h) (hG.el j h6 h7)
end
theorem wp_put (F m0:Nat) (ty:Value) (_hty:one ty=true):∀ (s:Nat) (t:Tm),szT t≤s→∀ (σ:aB) (a rb:Nat) (N:List NV) (css:List (List Value)) (p:Option Addr) (c:Nat) (Y:Nat→Prop) (cur:Int) (deep:Nat),
  TmB σ (fun j=>m0≤j) a t→m0≤F→(p≠none→m0≤rb)→m0≤σ.n→St σ F [.slice p N.length c,ty,.int .i64 cur]→GR nvR 7 σ Y rb N css p c→(∀ j,Y j→j<σ.n)→Y F→N.length+szT t≤100000→deep+szT t≤100000→
  WpF aG ovD 45 [bP F,bP a,.int .i64 ((deep:Nat):Int)] σ fun v σ'=>∃ p' c' rb' css',v=.int .i64 ((N.length:Nat):Int)∧St σ' F [.slice (some p') (N.length+szT t) c',ty,.int .i64 (dpT N.length deep cur t)]∧GR nvR 7 σ' Y rb' (N++flT N.length t) css' (some p') c'∧
   Frm σ σ' (fun j=>j=F∨p≠none∧j=rb)∧((p≠none∧rb'=rb)∨σ.n≤rb'):=by
 intro s
 induction s with
 |zero=>
  intro t ht
  have:=szT_pos t
  omega
 |succ s ih=>
  intro t ht σ a rb N css p c Y cur deep hT i1 f5 k2 d0 hG e5 b1 k4 k3
  obtain ⟨x,l⟩:=t
  cases hT with
  | @mk _ _ _ tp tc bl c9 e4 d6 i5 b8=>
  have g5:szT (.mk x l)=1+szL l:=by rw [szT]
  have i2:=ut l
  refine WpF.of (T45_eq _ _ _) rfl ?_
  rw [T45]
  simp only [wpS,cG]
  rw [aE d0 rfl]
  simp only [wpS]
  rw [aE d0 rfl]
  simp only [wpS]
  have i6:a≠F:=fun h=>c9 (by omega)
  have g8:p≠none→rb≠F:=fun hp h=>hG.hr hp (by rw [h];exact b1)
  have main:∀ (σ1:aB) (cur1:Int),Frm σ σ1 (· =F)→σ1.n=σ.n→St σ1 F [.slice p N.length c,ty,.int .i64 cur1]→cur1=(if cur<0∧(1000≤N.length∨60<deep) then x.fr else cur)→
    Wp aG ovD (T45k2 (some ⟨F,0,some 0⟩) (some ⟨a,0,some 0⟩) ((deep:Nat):Int) N.length .normal []) σ1 fun _ vs σ'=>∃ v,vs=[v]∧∃ p' c' rb' css',v=.int .i64 ((N.length:Nat):Int)∧St σ' F [.slice (some p') (N.length+szT (.mk x l)) c',ty,.int .i64 (dpT N.length deep cur (.mk x l))]∧GR nvR 7 σ' Y rb' (N++flT N.length (.mk x l)) css' (some p') c'∧
     Frm σ σ' (fun j=>j=F∨p≠none∧j=rb)∧((p≠none∧rb'=rb)∨σ.n≤rb'):=by
   intro σ1 cur1 c8 f4 b2 e2
   simp only [wpS,T45k2,cG]
   rw [aE b2 rfl]
   simp only [wpS]
   have e3:=c8.st e4 i6
   rw [aY,show aadd ⟨a,0,some 0⟩ 0=⟨a,0,some 0⟩ from rfl,e3.ldN (off:=0) (k:=7) (by rw [ndc_len];decide)]
   have e7:(((ndc x tp l.length tc).drop 0).take 7)=[.int .i64 x.k,.int .i64 x.n,.string (mkB x.nm),.string (mkB x.pm),.slice none 0 0,.int .i64 x.fr,.int .i64 x.to]:=rfl
   rw [e7]
   simp only [wpS]
   have d1:=hG.frm dE c8 fun j _ h=>by rw [h];exact b1
   refine qE (len:=N.length) d1.row (by rw [fB d1.cl,d1.len]) (by decide) (by decide) rfl (by intro y hy;simp at hy;rcases hy with rfl|rfl|rfl|rfl|rfl|rfl|rfl<;>rfl) (by omega) (by omega) (fun σ' j6=>jM ((j6.stN b2).ldF rfl)) fun σ2 rb2 off2 s2 c2 d3 a7 j2=>?_
   have g1:=d1.more dE (fun j h=>by have:=e5 j h;omega) (b:=⟨x,[]⟩) rfl ⟨none,0,rfl,aR.nil,Emp.none⟩ d3 a7 j2
   have k1:=d3.n
   have f3:rb2≠F:=fun h=>g1.hr (by simp) (by rw [h];exact b1)
   refine bB (d3.st b2 fun h=>(g8 h.1) h.2.symm) (by simp) rfl fun σ3 g2 k0 e8=>?_
   simp only [List.set_cons_zero] at e8
   have j5:=g1.frm dE g2 fun j _ h=>by rw [h];exact b1
   have a0:Frm σ σ3 (fun j=>j=F∨p≠none∧j=rb):=(c8.trans d3 (fun _ _ h=>.inl h) fun _ _ h=>.inr h).trans g2 (fun _ _ h=>h) fun _ _ h=>.inl h
   have f2:m0≤rb2:=by
    rcases a7 with ⟨h1,rfl⟩|h
    ·exact f5 h1
    ·omega
   have a1:(p≠none∧rb2=rb)∨σ.n≤rb2:=a7.imp id fun h=>by omega
   have f9:∀ {τ τ':aB} {S:Nat→Prop} {b:Nat} {u:Tm},Frm τ τ' S→(∀ j,S j→m0≤j)→TmB τ (fun j=>m0≤j) b u→TmB τ' (fun j=>m0≤j) b u:=fun f hS h=>h.step f (fun j _ h=>hS j h) fun _ _ h=>h
   have e6:∀ j,(j=F∨p≠none∧j=rb)→m0≤j:=fun j h=>by
    rcases h with h|⟨h1,h2⟩
    ·omega
    ·have:=f5 h1;omega
   have c3:=a0.st e4 fun h=>c9 (e6 _ h)
   have b7:=d6.step a0 (fun j _ h=>e6 j h) (fun _ _ h=>h) (fun _ _ h=>h)
   have a8:∀ i (h:i<bl.length) (h':i<l.length),TmB σ3 (fun j=>m0≤j) bl[i] l[i]:=fun i h1 h2=>f9 a0 e6 (b8 i h1 h2)
   have e0:dpT N.length deep cur (.mk x l)=dpL (N.length+1) (deep+1) cur1 l:=by rw [dpT,e2]
   have e1:N++flT N.length (.mk x l)=N++[⟨x,fM (N.length+1) l⟩]++flL (N.length+1) l:=by rw [flT];simp
   refine Wp.count l.length (fun i st σ'=>∃ (q:Addr) (cc rq:Nat) (cssq:List (List Value)) (kp:Option Addr) (kc kb:Nat),st=[.int .i64 ((i:Nat):Int),.slice kp i kc]∧St σ' F [.slice (some q) (N.length+1+szL (l.take i)) cc,ty,.int .i64 (dpL (N.length+1) (deep+1) cur1 (l.take i))]∧
     GR nvR 7 σ' (fun j=>Y j∨kp≠none∧j=kb) rq (N++[⟨x,[]⟩]++flL (N.length+1) (l.take i)) cssq (some q) cc∧SlE σ' kb kp kc 1 ((fM (N.length+1) (l.take i)).map ql)∧(kp≠none→σ3.n≤kb)∧Frm σ3 σ' (fun j=>j=F∨j=rb2)∧((rq=rb2)∨σ3.n≤rq))
    ⟨_,c2,rb2,_,none,0,0,rfl,by simpa [szL,dpL] using e8,by simpa [flL] using j5.step (Y':=fun j=>Y j∨(none:Option Addr)≠none∧j=0) (S:=NoB) dE (Frm.refl _ _) (fun _ _ h=>h.elim) (fun j _ h=>h.elim id fun h=>absurd rfl h.1),.inl ⟨rfl,rfl,by simp [fM]⟩,fun h=>absurd rfl h,Frm.refl _ _,.inl rfl⟩ ?_ ?_
   ·rintro i st σ4 hi ⟨q,cc,rq,cssq,kp,kc,kb,rfl,c4,a9,b3,c1,a6,b0⟩
    have f8:i<bl.length:=by rw [i5];exact hi
    have a3:∀ j,(j=F∨j=rb2)→m0≤j:=fun j h=>by rcases h with h|h<;>omega
    have a5:=a6.st c3 fun h=>c9 (a3 _ h)
    have b6:=b7.step a6 (fun j _ h=>a3 j h) (fun _ _ h=>h) (fun _ _ h=>h)
    have b9:=f9 a6 a3 (a8 i f8 hi)
    have g4:=pW l i
    have f1:=szL_take l i hi
    have f0:=pW l (i+1)
    have g9:=a6.n
    have ej:aT ((i:Int)+1)=((i+1:Nat):Int):=by rw [aV (by omega)];omega
    have ed:aT (((deep:Nat):Int)+1)=((deep+1:Nat):Int):=by rw [aV (by omega)];omega
    unfold T45b0
    simp only [wpS]
    rw [aE a5 (v:=.slice tp l.length tc) rfl]
    simp only [wpS]
    rw [aC,if_pos (by simp;omega),aI]
    rw [aE a5 (v:=.slice tp l.length tc) rfl]
    simp only [wpS]
    obtain ⟨y,cs,rfl,_,g7,i4⟩:=b6 i f8
    simp only [wpS]
    rw [aQ]
    refine ⟨by simp;omega,?_⟩
    have el:ld1 (aadd y (i*1)) σ4=some (bP bl[i],σ4):=by
     unfold ld1
     rw [g7,i4]
    rw [Int.toNat_natCast,aY,el]
    simp only [wpS,ed]
    rw [aD]
    have a2:(N++[(⟨x,[]⟩:NV)]++flL (N.length+1) (l.take i)).length=N.length+1+szL (l.take i):=by rw [List.length_append,List.length_append,flL_len];try rfl
    have i9:∀ j,(Y j∨kp≠none∧j=kb)→j<σ4.n:=by
     rintro j (h|⟨h1,h2⟩)
     ·have:=e5 j h;omega
     ·rw [h2];exact b3.lt h1
    have d7:=ih l[i] (by omega) σ4 bl[i] rq _ cssq (some q) cc (fun j=>Y j∨kp≠none∧j=kb) (dpL (N.length+1) (deep+1) cur1 (l.take i)) (deep+1) b9 i1 (fun _=>by rcases b0 with h|h<;>omega) (by omega) (by rw [a2];exact c4) a9 i9 (.inl b1) (by rw [a2];omega) (by omega)
    refine WpF.mono d7 ?_
    rintro _ σ5 ⟨q5,c5,rq5,css5,rfl,g0,c7,b4,d5⟩
    rw [a2] at g0 c7 ⊢
    simp only [wpS]
    have b5:kp≠none→kb≠rq:=fun h h2=>a9.hr (by simp) (.inr ⟨h,h2.symm⟩)
    have f7:kp≠none→kb≠F:=fun h h2=>by have:=c1 h;have:=e8.1;omega
    have j3:=b3.frm b4 fun h h2=>by
     rcases h2 with h2|⟨_,h2⟩
     ·exact f7 h h2
     ·exact b5 h h2
    have d8:((fM (N.length+1) (l.take i)).map ql).length=i:=by rw [List.length_map,nZ,List.length_take];omega
    have j9:=b4.n
    refine kJ (len:=i) j3 (by rw [d8,Nat.mul_one]) (by decide) (by decide) rfl (by intro y hy;simp at hy;subst hy;rfl) (by omega) (by omega) fun σ6 kb6 off6 s6 c6 d2 c0 j1=>?_
    simp only [wpS,T45k0,ej]
    have j8:=d2.n
    have j0:=d2.st g0 fun h=>f7 h.1 h.2.symm
    have i8:∀ j,j<σ5.n→(Y j∨some (⟨kb6,off6,some s6⟩:Addr)≠none∧j=kb6)→(Y j∨kp≠none∧j=kb):=by
     rintro j hj (h1|⟨_,h1⟩)
     ·exact .inl h1
     ·subst h1
      rcases c0 with ⟨hp,rfl⟩|j7
      ·exact .inr ⟨hp,rfl⟩
      ·omega
    have j4:=c7.step (Y':=fun j=>Y j∨some (⟨kb6,off6,some s6⟩:Addr)≠none∧j=kb6) dE d2 (fun j _ h=>.inr h) i8
    refine ⟨q5,c5,rq5,css5,some ⟨kb6,off6,some s6⟩,c6,kb6,rfl,?_,?_,.inr ⟨off6,s6,rfl,?_⟩,?_,?_,?_⟩
    ·rw [List.take_succ_eq_append_getElem hi,tH,nN,dpL_app,dpL,dpL,←Nat.add_assoc]
     exact j0
    ·rw [List.take_succ_eq_append_getElem hi,flL_app,flL_one,←List.append_assoc]
     exact j4
    ·rw [List.take_succ_eq_append_getElem hi,yD,List.map_append]
     exact j1
    ·intro _
     rcases c0 with ⟨hp,rfl⟩|h
     ·exact c1 hp
     ·omega
    ·refine (a6.trans b4 (fun _ _ h=>h) ?_).trans d2 (fun _ _ h=>h) ?_
     ·rintro j hj (h|⟨_,h⟩)
      ·exact .inl h
      ·rcases b0 with h2|h2
       ·exact .inr (by omega)
       ·omega
     ·rintro j hj ⟨h1,h2⟩
      have:=c1 h1
      omega
    ·rcases d5 with ⟨_,h⟩|h
     ·rcases b0 with h2|h2
      ·exact .inl (by omega)
      ·exact .inr (by omega)
     ·exact .inr (by omega)
   ·rintro st σ4 ⟨q,cc,rq,cssq,kp,kc,kb,rfl,c4,a9,b3,c1,a6,b0⟩
    have a3:∀ j,(j=F∨j=rb2)→m0≤j:=fun j h=>by rcases h with h|h<;>omega
    have a5:=a6.st c3 fun h=>c9 (a3 _ h)
    rw [List.take_length] at c4 a9 b3
    unfold T45b0
    simp only [wpS]
    rw [aE a5 (v:=.slice tp l.length tc) rfl]
    simp only [wpS]
    rw [aC,if_neg (by simp)]
    simp only [wpS,T45k1,cG]
    rw [aE c4 rfl]
    simp only [wpS]
    rw [aQ]
    refine ⟨by simp;omega,?_⟩
    have i3:N.length<(N++[(⟨x,[]⟩:NV)]++flL (N.length+1) l).length:=by simp
    have d9:(N++[(⟨x,[]⟩:NV)]++flL (N.length+1) l)[N.length]=⟨x,[]⟩:=by simp
    have g9:=a6.n
    have d8:(fM (N.length+1) l).length=l.length:=nZ _ _
    have f6:kp≠none→¬ (Y kb∨(some q:Option Addr)≠none∧kb=rq):=fun h h2=>by
     rcases h2 with h2|⟨_,h2⟩
     ·have:=e5 _ h2;have:=c1 h;have:=a0.n;omega
     ·exact a9.hr (by simp) (.inr ⟨h,h2.symm⟩)
    have g6:aR σ4 (fun j=>Y j∨(some q:Option Addr)≠none∧j=rq) 1 kO kp (fM (N.length+1) l):=slE_nats b3 f6
    have g3:Emp σ4 (fun j=>Y j∨(some q:Option Addr)≠none∧j=rq) kp:=b3.emp f6
    have e9:=a9.step (Y':=Y) (S:=NoB) dE (Frm.refl _ _) (fun _ _ h=>h.elim) fun _ _ h=>.inl h
    obtain ⟨a4,i7,hw⟩:=wp_gset (P:=aG) (ov:=ovD) (k:=kc) (K:=.ret .ret [.int .i64 ((N.length:Nat):Int)]) (Q:=fun _ vs σ'=>∃ v,vs=[v]∧∃ p' c' rb' css',v=.int .i64 ((N.length:Nat):Int)∧St σ' F [.slice (some p') (N.length+szT (.mk x l)) c',ty,.int .i64 (dpT N.length deep cur (.mk x l))]∧GR nvR 7 σ' Y rb' (N++flT N.length (.mk x l)) css' (some p') c'∧
     Frm σ σ' (fun j=>j=F∨p≠none∧j=rb)∧((p≠none∧rb'=rb)∨σ.n≤rb')) e9 i3 d9 g6 g3 fun σ5 css5 b4 c7=>by
      simp only [wpS]
      have d4:F≠rq:=fun h=>a9.hr (by simp) (.inl (by rw [←h];exact b1))
      refine ⟨_,rfl,q,cc,rq,css5,rfl,?_,?_,?_,?_⟩
      ·rw [g5,←Nat.add_assoc,e0]
       exact b4.st c4 d4
      ·rw [e1]
       have es:(N++[(⟨x,[]⟩:NV)]++flL (N.length+1) l).set N.length ⟨x,fM (N.length+1) l⟩=N++[⟨x,fM (N.length+1) l⟩]++flL (N.length+1) l:=by
        rw [List.append_assoc,List.set_append_right _ _ (Nat.le_refl _),Nat.sub_self]
        simp
       rw [es] at c7
       exact c7
      ·have i0:=a0.n
       refine (a0.trans a6 (fun _ _ h=>h) ?_).trans b4 (fun _ _ h=>h) ?_
       ·rintro j hj (h|h)
        ·exact .inl h
        ·rcases a1 with ⟨h1,h2⟩|h1
         ·exact .inr ⟨h1,by omega⟩
         ·omega
       ·rintro j hj h
        rcases b0 with h2|h2
        ·rcases a1 with ⟨h3,h4⟩|h3
         ·exact .inr ⟨h3,by omega⟩
         ·omega
        ·omega
      ·have i0:=a0.n
       rcases b0 with h2|h2
       ·rw [h2];exact a1
       ·exact .inr (by omega)
    cases i7
    rw [d8] at hw
    exact hw
  rw [aC]
  by_cases hc:cur<0∧(1000≤N.length∨60<deep)
  ·rw [if_pos (by simp;omega),aE e4 (v:=.int .i64 x.fr) rfl]
   simp only [wpS]
   refine bB d0 (by simp) rfl fun σ1 c8 f4 b2=>?_
   simp only [List.set_cons_succ,List.set_cons_zero] at b2
   simp only [wpS]
   exact main σ1 x.fr c8 f4 b2 (by rw [if_pos hc])
  ·rw [if_neg (by simp;omega)]
   simp only [wpS]
   exact main σ cur (Frm.refl _ _) rfl d0 (by rw [if_neg hc])
end Go.Pg
namespace Go.Pg
open Go.Proofs Go.Utf8 Go.Lib
set_option linter.unusedSimpArgs false
theorem wC {l:List (List UInt8)}:∀ {i k:Nat} (hi:i<l.length) (hk:k<i),l[i]=l[k]→cP l=true:=by
 induction l with
 |nil=>intro i k hi;exact absurd hi (Nat.not_lt_zero _)
 |cons s l ih=>
  intro i k hi hk h
  rw [cP,Bool.or_eq_true]
  cases i with
  |zero=>omega
  |succ i=>
   have a0:i<l.length:=by simpa using hi
   cases k with
   |zero=>
    left
    rw [List.contains_iff_mem]
    simp only [List.getElem_cons_succ,List.getElem_cons_zero] at h
    rw [←h]
    exact List.getElem_mem _
   |succ k=>exact .inr (ih (k:=k) a0 (by omega) (by simpa using h))
theorem twiceM_false {l:List (List UInt8)}:(∀ i k (hi:i<l.length) (hk:k<i),l[i]≠l[k])→cP l=false:=by
 induction l with
 |nil=>intro _;try rfl
 |cons s l ih=>
  intro h
  rw [cP,Bool.or_eq_false_iff]
  constructor
  ·rw [Bool.eq_false_iff]
   intro hc
   rw [List.contains_iff_mem] at hc
   obtain ⟨i,hi,he⟩:=List.getElem_of_mem hc
   exact h (i+1) 0 (by simpa using hi) (by omega) (by simpa using he)
  ·exact ih fun i k hi hk he=>h (i+1) (k+1) (by simpa using hi) (by omega) (by simpa using he)
section
variable {σ σ':aB} {P:Program} {ov:Ov}
theorem dI {β:Type} {Y:Nat→Prop} {c:Nat} {R:List Value→β→Prop} {p:Option Addr} {ts:List β} (h:aR σ Y c R p ts) {i n o:Nat} (hi:i<ts.length) (hn:n=ts.length) (ho:o<c) {f:Value→Pg} {Q:cN}
  (k:∀ cs,R cs ts[i]→∃ v,cs[o]?=some v∧Wp P ov (f v) σ Q):
  Wp P ov (aF p fun a=>grd (decide (0≤((i:Nat):Int))&&decide (((i:Nat):Int)<((n:Nat):Int))) (.act (ld1 (aadd (aadd a (Int.toNat ((i:Nat):Int)*c)) o)) f)) σ Q:=by
 subst hn
 obtain ⟨x,cs,rfl,_,h2,h3⟩:=h i hi
 obtain ⟨v,h4,h5⟩:=k cs h3
 have e:(decide (0≤((i:Nat):Int))&&decide (((i:Nat):Int)<((ts.length:Nat):Int)))=true:=by simp;omega
 simp only [bO]
 rw [aQ,e,Int.toNat_natCast,aY]
 have hl:=(List.getElem?_eq_some_iff.1 h4).1
 have e2:ld1 (aadd (aadd x (i*c)) o) σ=some (v,σ):=by
  unfold ld1
  rw [mX (o:=o) (k:=1) h2 (by omega),List.drop_eq_getElem_cons hl,List.take_succ_cons,List.take_zero,(List.getElem?_eq_some_iff.1 h4).2]
 rw [e2]
 exact ⟨rfl,h5⟩
theorem dF {β:Type} {Y:Nat→Prop} {R:List Value→β→Prop} {p:Option Addr} {ts:List β} (h:aR σ Y 1 R p ts) {i n:Nat} (hi:i<ts.length) (hn:n=ts.length) {f:Value→Pg} {Q:cN}
  (k:∀ cs,R cs ts[i]→∃ v,cs=[v]∧Wp P ov (f v) σ Q):
  Wp P ov (aF p fun a=>grd (decide (0≤((i:Nat):Int))&&decide (((i:Nat):Int)<((n:Nat):Int))) (.act (ld1 (aadd a (Int.toNat ((i:Nat):Int)*1))) f)) σ Q:=by
 refine dI h hi hn (o:=0) (by decide) fun cs a0=>?_
 obtain ⟨v,rfl,h2⟩:=k cs a0
 exact ⟨v,rfl,h2⟩
theorem aR.frmM {β:Type} {R:aB→(Nat→Prop)→List Value→β→Prop} (hM:xB R) {Y:Nat→Prop} {c:Nat} {p:Option Addr} {ts:List β} (h:aR σ Y c (R σ Y) p ts) (f:Frm σ σ' NoB):aR σ' Y c (R σ' Y) p ts:=
 aR.step (S:=NoB) f (fun _ _ h=>h.elim) (fun _ _ h=>h) (fun _ _ h=>hM _ _ _ _ _ _ _ f (fun _ _ h=>h.elim) (fun _ _ h=>h) h) h
theorem sB {Y:Nat→Prop} {l:List (List UInt8)} {p:Option Addr} {c:Nat} (h:aR σ Y 1 (qZ σ Y) p l) (hl:l.length≤1000000000):
  WpF aG ovD 100 [.slice p l.length c] σ fun v σ'=>v=.bool (cP l)∧σ'=σ:=by
 refine WpF.of (T100_eq _ _ _) rfl ?_
 rw [T100]
 refine Wp.count l.length (fun j st σ'=>σ'=σ∧st=[.int .i64 ((j:Nat):Int),.bool false]∧∀ i k (hi:i<l.length) (hk:k<i),i<j→l[i]≠l[k]) ⟨rfl,rfl,fun i k _ _ h=>by omega⟩ ?_ ?_
 ·rintro j st σ' hj ⟨rfl,rfl,a0⟩
  have ej:aT ((j:Int)+1)=((j+1:Nat):Int):=by rw [aV (by omega)];omega
  unfold T100b1
  simp only [wpS]
  rw [aC,if_pos (by simp;omega),aI]
  refine Wp.count j (fun m st σ1=>σ1=σ'∧st=[.int .i64 ((m:Nat):Int),.bool false]∧∀ k (hk:k<j),k<m→l[j]≠l[k]) ⟨rfl,rfl,fun k _ h=>by omega⟩ ?_ ?_
  ·rintro m st σ1 hm ⟨rfl,rfl,a1⟩
   have em:aT ((m:Int)+1)=((m+1:Nat):Int):=by rw [aV (by omega)];omega
   unfold T100b0
   simp only [wpS]
   rw [aC,if_pos (by simp;omega),aI]
   refine dF h hj rfl fun cs a3=>⟨_,a3,?_⟩
   simp only [wpS]
   refine dF h (by omega:m<l.length) rfl fun cs a3=>⟨_,a3,?_⟩
   simp only [wpS,fD]
   rw [aC]
   by_cases he:l[j]=l[m]
   ·rw [if_pos (by simpa using he)]
    simp only [wpS,T100k0,T100k1,T100k2,T100k3]
    rw [wC hj hm he]
    exact ⟨_,rfl,rfl,trivial⟩
   ·rw [if_neg (by simpa using he)]
    simp only [wpS,T100k0,em]
    refine ⟨trivial,trivial,fun k hk a4=>?_⟩
    by_cases a2:k=m
    ·subst a2;exact he
    ·exact a1 k hk (by omega)
  ·rintro st σ1 ⟨rfl,rfl,a1⟩
   unfold T100b0
   simp only [wpS]
   rw [aC,if_neg (by simp)]
   simp only [wpS,T100k1,T100k2,ej]
   refine ⟨trivial,trivial,fun i k hi hk a5=>?_⟩
   by_cases h2:i=j
   ·subst h2;exact a1 k hk hk
   ·exact a0 i k hi hk (by omega)
 ·rintro st σ' ⟨rfl,rfl,a0⟩
  unfold T100b1
  simp only [wpS]
  rw [aC,if_neg (by simp)]
  simp only [wpS,T100k3]
  rw [twiceM_false fun i k hi hk=>a0 i k hi hk hi]
  exact ⟨_,rfl,rfl,trivial⟩
structure dK (σ:aB) (Y:Nat→Prop) (pn:Option Addr) (N:List NV) (pd:Option Addr) (D:List Dc):Prop where
 nodes:aR σ Y 7 (nvR σ Y) pn N
 decls:aR σ Y 2 (dcR σ Y) pd D
theorem dK.step {S Y Y':Nat→Prop} {pn pd:Option Addr} {N:List NV} {D:List Dc} (h:dK σ Y pn N pd D) (f:Frm σ σ' S) (hS:∀ j,j<σ.n→S j→Y j) (hY:∀ j,j<σ.n→Y' j→Y j):dK σ' Y' pn N pd D:=
 ⟨h.nodes.step f hS hY fun _ _ h=>dE _ _ _ _ _ _ _ f hS hY h,h.decls.step f hS hY fun _ _ h=>cU _ _ _ _ _ _ _ f hS hY h⟩
theorem dK.frm {Y:Nat→Prop} {pn pd:Option Addr} {N:List NV} {D:List Dc} (h:dK σ Y pn N pd D) (f:Frm σ σ' NoB):dK σ' Y pn N pd D:=dK.step (S:=NoB) (Y':=Y) h f (fun _ _ h=>h.elim) fun _ _ h=>h
abbrev trV (pn:Option Addr) (n cn:Nat) (pd:Option Addr) (d cd:Nat):Value:=.agg #[.slice pn n cn,.slice pd d cd]
theorem ofC_at (s:List UInt8):∀ (l:List Cn) (c j:Nat) (hj:j<l.length),(∀ i (hi:i<j),l[i].nm≠s)→l[j].nm=s→ofC s c l=some (c+j,l[j].args.length)
 |x::l,c,0,_,_,h=>by
  rw [List.getElem_cons_zero] at h
  rw [ofC,if_pos h]
  try rfl
 |x::l,c,j+1,hj,h0,h=>by
  have hx:x.nm≠s:=h0 0 (by omega)
  rw [ofC,if_neg hx,ofC_at s l (c+1) j (by simpa using hj) (fun i hi=>by simpa using h0 (i+1) (by omega)) (by simpa using h)]
  simp only [List.getElem_cons_succ,Option.some.injEq,Prod.mk.injEq,and_true]
  omega
theorem ofC_no (s:List UInt8):∀ (l:List Cn) (c:Nat),(∀ i (hi:i<l.length),l[i].nm≠s)→ofC s c l=none
 |[],_,_=>rfl
 |x::l,c,h=>by
  have hx:x.nm≠s:=h 0 (by simp)
  rw [ofC,if_neg hx,ofC_no s l (c+1) fun i hi=>by have q:=h (i+1) (by simpa using hi);rwa [List.getElem_cons_succ] at q]
theorem ofD_at (s:List UInt8):∀ (l:List Dc) (d j:Nat) (hj:j<l.length),(∀ i (hi:i<j),ofC s 0 l[i].cons=none)→∀ x,ofC s 0 l[j].cons=some x→ofD s d l=some (d+j,x.1,x.2)
 |y::l,d,0,_,_,x,h=>by
  rw [List.getElem_cons_zero] at h
  rw [ofD,h]
  try rfl
 |y::l,d,j+1,hj,h0,x,h=>by
  have hy:ofC s 0 y.cons=none:=h0 0 (by omega)
  rw [ofD,hy]
  simp only
  rw [ofD_at s l (d+1) j (by simpa using hj) (fun i hi=>by simpa using h0 (i+1) (by omega)) x (by simpa using h)]
  simp only [Option.some.injEq,Prod.mk.injEq,and_true]
  omega
theorem ofD_no (s:List UInt8):∀ (l:List Dc) (d:Nat),(∀ i (hi:i<l.length),ofC s 0 l[i].cons=none)→ofD s d l=none
 |[],_,_=>rfl
 |y::l,d,h=>by
  have hy:ofC s 0 y.cons=none:=h 0 (by simp)
  rw [ofD,hy]
  exact ofD_no s l (d+1) fun i hi=>by have q:=h (i+1) (by simpa using hi);rwa [List.getElem_cons_succ] at q
def ofV (x:Option (Nat × Nat × Nat)):Value:=match x with
 |some (d,c,_)=>.tuple #[.int .i64 ((d:Nat):Int),.int .i64 ((c:Nat):Int),.bool true]
 |none=>.tuple #[.int .i64 0,.int .i64 0,.bool false]
theorem sR (d c n:Nat):ofV (some (d,c,n))=.tuple #[.int .i64 ((d:Nat):Int),.int .i64 ((c:Nat):Int),.bool true]:=rfl
theorem yF:ofV none=.tuple #[.int .i64 0,.int .i64 0,.bool false]:=rfl
theorem wp_Of79 {Y:Nat→Prop} {pn pd:Option Addr} {n cn cd:Nat} {D:List Dc} (h:aR σ Y 2 (dcR σ Y) pd D) (hD:D.length≤1000000) (hC:∀ d∈D,d.cons.length≤1000000) (s:List UInt8):
  WpF aG ovD 103 [trV pn n cn pd D.length cd,.string (mkB s)] σ fun v σ'=>v=ofV (ofD s 0 D)∧Frm σ σ' NoB:=by
 refine WpF.of (T103_eq _ _ _ _ _ _ _) rfl ?_
 rw [T103]
 refine aP fun σ1 a7 a8 a2=>?_
 generalize σ.n=A at a2
 have h1:=h.frmM cU a7
 refine Wp.count D.length (fun j st σ'=>σ'=σ1∧st=[.int .i64 ((j:Nat):Int),.bool false,.int .i64 0,.int .i64 0]∧∀ i (hi:i<D.length),i<j→ofC s 0 D[i].cons=none) ⟨rfl,rfl,fun i _ h=>by omega⟩ ?_ ?_
 ·rintro j st σ' hj ⟨rfl,rfl,a0⟩
  have ej:aT ((j:Int)+1)=((j+1:Nat):Int):=by rw [aV (by omega)];omega
  have b1:=hC _ (List.getElem_mem hj)
  unfold T103b1
  simp only [wpS]
  rw [aE a2 rfl]
  simp only [wpS]
  rw [aC,if_pos (by simp;omega),aI]
  refine Wp.count D[j].cons.length (fun m st σ2=>σ2=σ'∧st=[.int .i64 ((m:Nat):Int),.bool false,.int .i64 0,.int .i64 0]∧∀ k (hk:k<D[j].cons.length),k<m→D[j].cons[k].nm≠s) ⟨rfl,rfl,fun k _ h=>by omega⟩ ?_ ?_
  ·rintro m st σ2 hm ⟨rfl,rfl,a4⟩
   have em:aT ((m:Int)+1)=((m+1:Nat):Int):=by rw [aV (by omega)];omega
   unfold T103b0
   simp only [wpS]
   rw [aE a2 rfl]
   simp only [wpS]
   refine dI h1 hj rfl (o:=1) (by decide) fun cs a1=>?_
   obtain ⟨q,k,rfl,a5⟩:=a1
   refine ⟨_,rfl,?_⟩
   simp only [wpS]
   rw [aC,if_pos (by simp;omega),aI,aE a2 rfl]
   simp only [wpS]
   refine dI h1 hj rfl (o:=1) (by decide) fun cs a1=>?_
   obtain ⟨q',k',rfl,a3⟩:=a1
   refine ⟨_,rfl,?_⟩
   simp only [wpS]
   refine dI a3 hm rfl (o:=0) (by decide) fun cs a1=>?_
   obtain ⟨q2,k2,rfl,_⟩:=a1
   refine ⟨_,rfl,?_⟩
   simp only [wpS,fD]
   rw [aC]
   by_cases he:D[j].cons[m].nm=s
   ·rw [if_pos (by simpa using he)]
    simp only [wpS,T103k0,T103k1,T103k2,T103k3]
    have hc:=ofC_at s D[j].cons 0 m hm (fun i hi=>a4 i (by omega) hi) he
    rw [ofD_at s D 0 j hj (fun i hi=>a0 i (by omega) hi) _ hc,sR]
    simp only [Nat.zero_add]
    exact ⟨_,rfl,rfl,a7⟩
   ·rw [if_neg (by simpa using he)]
    simp only [wpS,T103k0,em]
    refine ⟨trivial,trivial,fun k hk a9=>?_⟩
    by_cases a6:k=m
    ·subst a6;exact he
    ·exact a4 k hk (by omega)
  ·rintro st σ2 ⟨rfl,rfl,a4⟩
   unfold T103b0
   simp only [wpS]
   rw [aE a2 rfl]
   simp only [wpS]
   refine dI h1 hj rfl (o:=1) (by decide) fun cs a1=>?_
   obtain ⟨q,k,rfl,a5⟩:=a1
   refine ⟨_,rfl,?_⟩
   simp only [wpS]
   rw [aC,if_neg (by simp)]
   simp only [wpS,T103k1,T103k2,ej]
   refine ⟨trivial,trivial,fun i hi b0=>?_⟩
   by_cases h2:i=j
   ·subst h2
    exact ofC_no s _ 0 fun k hk=>a4 k hk hk
   ·exact a0 i hi (by omega)
 ·rintro st σ' ⟨rfl,rfl,a0⟩
  unfold T103b1
  simp only [wpS]
  rw [aE a2 rfl]
  simp only [wpS]
  rw [aC,if_neg (by simp)]
  simp only [wpS,T103k3]
  rw [ofD_no s D 0 fun i hi=>a0 i hi hi,yF]
  exact ⟨_,rfl,rfl,a7⟩
end
end Go.Pg
namespace Go.Pg
open Go.Proofs Go.Utf8 Go.Lib
set_option linter.unusedSimpArgs false
def nvC (v:NV) (q:Option Addr) (c:Nat):List Value:=[.int .i64 v.x.k,.int .i64 v.x.n,.string (mkB v.x.nm),.string (mkB v.x.pm),.slice q v.kids.length c,.int .i64 v.x.fr,.int .i64 v.x.to]
theorem kidsK_len:eQ.length=27:=rfl
section
variable {σ σ':aB}
theorem wp_shape78 (v:NV) (hv:v.kids.length≤1000000) (q:Option Addr) (c:Nat):WpF aG ovD 102 [.agg (nvC v q c).toArray] σ fun w σ'=>w=.bool (bR v)∧Frm σ σ' NoB:=by
 refine WpF.of (T102_eq _ _ _ _ _ _ _ _ _) rfl ?_
 rw [T102]
 refine aP fun σ1 b7 b8 a9=>?_
 generalize σ.n=A at a9
 have a9:St σ1 A (nvC v q c):=a9
 rw [aY,cT]
 have b3:=Frm.new σ1 (eQ.map fun z=>Value.int .i64 z) 1 NoB
 have b0:=Row.new σ1 1 (eQ.map fun z=>Value.int .i64 z) 27 (by decide) rfl (by intro y hy;obtain ⟨t,_,rfl⟩:=List.mem_map.1 hy;rfl)
 rw [show ([(.int .i64 (-1)),(.int .i64 0),(.int .i64 0),(.int .i64 0),(.int .i64 0),(.int .i64 (-2)),(.int .i64 1),(.int .i64 2),(.int .i64 2),(.int .i64 2),(.int .i64 3),(.int .i64 (-3)),(.int .i64 2),(.int .i64 2),(.int .i64 2),(.int .i64 1),(.int .i64 1),(.int .i64 1),(.int .i64 0),(.int .i64 1),(.int .i64 2),(.int .i64 0),(.int .i64 0),(.int .i64 0),(.int .i64 0),(.int .i64 0),(.int .i64 (-2))]:List Value)=eQ.map fun z=>Value.int .i64 z from rfl]
 generalize σ1.newBlk (eQ.map fun z=>Value.int .i64 z) 1=σ2 at b3 b0 ⊢
 generalize σ1.n=RB at b0 ⊢
 have a0:=b3.stN a9
 have a4:=b7.seq b3
 simp only [wpS]
 have out18:∀ τ,Frm σ τ NoB→bR v=false→Wp aG ovD (T102k18 ⟨A,0,some 0⟩ .ret [.bool false]) τ fun _ vs σ'=>∃ w,vs=[w]∧w=.bool (bR v)∧Frm σ σ' NoB:=by
  intro τ hτ hf
  simp only [wpS,T102k18]
  rw [hf]
  exact ⟨_,rfl,rfl,hτ⟩
 have s18:∀ τ b,Frm σ τ NoB→St τ A (nvC v q c)→bR v=uA v.x.k v.x.pm→Wp aG ovD (T102k18 ⟨A,0,some 0⟩ .normal [.bool b]) τ fun _ vs σ'=>∃ w,vs=[w]∧w=.bool (bR v)∧Frm σ σ' NoB:=by
  intro τ b hτ hS hf
  rw [hf]
  simp only [wpS,T102k18]
  rw [aE hS rfl]
  simp only [wpS]
  have s17:∀ b:Bool,(b=true↔v.x.k=6∨v.x.k=9∨v.x.k=20)→Wp aG ovD (T102k17 ⟨A,0,some 0⟩ .normal [.bool b]) τ fun _ vs σ'=>∃ w,vs=[w]∧w=.bool (uA v.x.k v.x.pm)∧Frm σ σ' NoB:=by
   intro b hb
   simp only [wpS,T102k17]
   rw [aC]
   unfold uA
   by_cases hk:v.x.k=6∨v.x.k=9∨v.x.k=20
   ·rw [if_pos (hb.2 hk),aE hS rfl]
    simp only [wpS]
    rw [aD]
    refine wa _ fun τ2 hτ2=>?_
    simp only [wpS]
    rw [if_pos hk]
    exact ⟨_,rfl,rfl,hτ.seq hτ2⟩
   ·rw [if_neg fun h=>hk (hb.1 h),aE hS rfl]
    simp only [wpS,bS]
    rw [if_neg hk]
    exact ⟨_,rfl,rfl,hτ⟩
  rw [aC]
  by_cases k6:v.x.k=6
  ·rw [if_neg (by simp [k6])]
   simp only [wpS]
   exact s17 true ⟨fun _=>.inl k6,fun _=>rfl⟩
  rw [if_pos (by simpa using k6),aE hS rfl]
  simp only [wpS]
  rw [aC]
  by_cases k9:v.x.k=9
  ·rw [if_neg (by simp [k9])]
   simp only [wpS]
   exact s17 true ⟨fun _=>.inr (.inl k9),fun _=>rfl⟩
  rw [if_pos (by simpa using k9),aE hS rfl]
  simp only [wpS]
  exact s17 _ (by rw [beq_iff_eq];exact ⟨fun h=>.inr (.inr h),fun h=>by rcases h with h|h|h;exact absurd h k6;exact absurd h k9;exact h⟩)
 have s19:∀ b,(bR v=(kE v.x.k v.x.nm&&uA v.x.k v.x.pm))→Wp aG ovD (T102k19 ⟨A,0,some 0⟩ .normal [.bool b]) σ2 fun _ vs σ'=>∃ w,vs=[w]∧w=.bool (bR v)∧Frm σ σ' NoB:=by
  intro b hf
  simp only [wpS,T102k19]
  rw [aE a0 rfl]
  simp only [wpS]
  have fin:∀ (τ:aB) (o:Bool),Frm σ2 τ NoB→kE v.x.k v.x.nm=o→(o=false→Wp aG ovD (T102k18 ⟨A,0,some 0⟩ .ret [.bool false]) τ fun _ vs σ'=>∃ w,vs=[w]∧w=.bool (bR v)∧Frm σ σ' NoB)∧(o=true→Wp aG ovD (T102k18 ⟨A,0,some 0⟩ .normal [.bool b]) τ fun _ vs σ'=>∃ w,vs=[w]∧w=.bool (bR v)∧Frm σ σ' NoB):=by
   intro τ o hτ ho
   refine ⟨fun h=>out18 τ (a4.seq hτ) (by rw [hf,ho,h];rfl),fun h=>s18 τ b (a4.seq hτ) (hτ.stN a0) (by rw [hf,ho,h];rfl)⟩
  have s16:∀ d:Bool,(d=true↔v.x.k=4∨v.x.k=8∨v.x.k=9∨v.x.k=22)→Wp aG ovD (T102k16 ⟨A,0,some 0⟩ b v.x.k .normal [.bool d]) σ2 fun e_1 vs σ'=>Wp aG ovD (T102k18 ⟨A,0,some 0⟩ e_1 vs) σ' fun _ vs σ'=>∃ w,vs=[w]∧w=.bool (bR v)∧Frm σ σ' NoB:=by
   intro d hd
   simp only [wpS,T102k16]
   rw [aC]
   by_cases hk:v.x.k=4∨v.x.k=8∨v.x.k=9∨v.x.k=22
   ·rw [if_pos (hd.2 hk),aE a0 rfl]
    simp only [wpS]
    rw [aD]
    refine wa _ fun τ hτ=>?_
    simp only [wpS]
    have a3:=fin τ (sQ v.x.nm) hτ (by unfold kE;rw [if_pos hk])
    rw [aC]
    cases a6:sQ v.x.nm with
    |false=>
     rw [if_pos (by rfl)]
     simp only [wpS,T102k15]
     exact a3.1 a6
    |true=>
     rw [if_neg (by simp)]
     simp only [wpS,T102k15]
     exact a3.2 a6
   rw [if_neg fun h=>hk (hd.1 h),aI,aC]
   have s14:∀ d:Bool,(d=true↔v.x.k=5∨v.x.k=26)→Wp aG ovD (T102k14 ⟨A,0,some 0⟩ b v.x.k .normal [.bool d]) σ2 fun e_1 vs σ'=>Wp aG ovD (T102k15 e_1 vs) σ' fun e_1 vs σ'=>Wp aG ovD (T102k18 ⟨A,0,some 0⟩ e_1 vs) σ' fun _ vs σ'=>∃ w,vs=[w]∧w=.bool (bR v)∧Frm σ σ' NoB:=by
    intro d hd
    simp only [wpS,T102k14]
    rw [aC]
    by_cases a5:v.x.k=5∨v.x.k=26
    ·rw [if_pos (hd.2 a5),aE a0 rfl]
     simp only [wpS]
     rw [aD]
     refine vf _ fun τ hτ=>?_
     simp only [wpS]
     have a3:=fin τ (qp v.x.nm) hτ (by unfold kE;rw [if_neg hk,if_pos a5])
     rw [aC]
     cases a6:qp v.x.nm with
     |false=>
      rw [if_pos (by rfl)]
      simp only [wpS,T102k13,T102k15]
      exact a3.1 a6
     |true=>
      rw [if_neg (by simp)]
      simp only [wpS,T102k13,T102k15]
      exact a3.2 a6
    rw [if_neg fun h=>a5 (hd.1 h),aI,aC]
    by_cases a8:v.x.k=14
    ·rw [if_pos (by simpa using a8),aI,aE a0 rfl]
     simp only [wpS,bS]
     have b6:kE v.x.k v.x.nm=(decide (v.x.nm=[43])||decide (v.x.nm=[45])||decide (v.x.nm=[42])||decide (v.x.nm=[60])||decide (v.x.nm=[61])):=by
      unfold kE
      rw [if_neg hk,if_neg a5,if_pos a8]
     have a3:=fin σ2 _ (Frm.refl _ _) b6
     have s11:∀ d:Bool,d=!(decide (v.x.nm=[43])||decide (v.x.nm=[45])||decide (v.x.nm=[42])||decide (v.x.nm=[60])||decide (v.x.nm=[61]))→Wp aG ovD (T102k11 b .normal [.bool d]) σ2 fun e_1 vs σ'=>Wp aG ovD (T102k12 e_1 vs) σ' fun e_1 vs σ'=>Wp aG ovD (T102k13 e_1 vs) σ' fun e_1 vs σ'=>Wp aG ovD (T102k15 e_1 vs) σ' fun e_1 vs σ'=>Wp aG ovD (T102k18 ⟨A,0,some 0⟩ e_1 vs) σ' fun _ vs σ'=>∃ w,vs=[w]∧w=.bool (bR v)∧Frm σ σ' NoB:=by
      intro d hd
      simp only [wpS,T102k11]
      rw [aC]
      cases d with
      |true=>
       rw [if_pos rfl]
       simp only [wpS,T102k12,T102k13,T102k15]
       exact a3.1 (by have h2:=congrArg Bool.not hd;rw [Bool.not_not] at h2;exact h2.symm)
      |false=>
       rw [if_neg (by simp)]
       simp only [wpS,T102k12,T102k13,T102k15]
       exact a3.2 (by have h2:=congrArg Bool.not hd;rw [Bool.not_not] at h2;exact h2.symm)
     rw [aC]
     by_cases m1:v.x.nm=[43]
     ·rw [if_neg (by simp [m1])]
      simp only [wpS]
      exact s11 false (by simp [m1])
     rw [if_pos (by simpa using m1),aE a0 rfl]
     simp only [wpS,bS]
     rw [aC]
     by_cases m2:v.x.nm=[45]
     ·rw [if_neg (by simp [m2])]
      simp only [wpS]
      exact s11 false (by simp [m2])
     rw [if_pos (by simpa using m2),aE a0 rfl]
     simp only [wpS,bS]
     rw [aC]
     by_cases m3:v.x.nm=[42]
     ·rw [if_neg (by simp [m3])]
      simp only [wpS]
      exact s11 false (by simp [m3])
     rw [if_pos (by simpa using m3),aE a0 rfl]
     simp only [wpS,bS]
     rw [aC]
     by_cases m4:v.x.nm=[60]
     ·rw [if_neg (by simp [m4])]
      simp only [wpS]
      exact s11 false (by simp [m4])
     rw [if_pos (by simpa using m4),aE a0 rfl]
     simp only [wpS,bS]
     exact s11 _ (by simp [m1,m2,m3,m4])
    ·rw [if_neg (by simpa using a8),aE a0 rfl]
     simp only [wpS,bS]
     have a3:=fin σ2 (decide (v.x.nm=[])) (Frm.refl _ _) (by unfold kE;rw [if_neg hk,if_neg a5,if_neg a8])
     rw [aC]
     by_cases m1:v.x.nm=[]
     ·rw [if_neg (by simp [m1])]
      simp only [wpS,T102k12,T102k13,T102k15]
      exact a3.2 (by simp [m1])
     ·rw [if_pos (by simpa using m1)]
      simp only [wpS,T102k12,T102k13,T102k15]
      exact a3.1 (by simp [m1])
   by_cases k5:v.x.k=5
   ·rw [if_pos (by simpa using k5)]
    simp only [wpS]
    exact s14 _ (by rw [beq_iff_eq];exact ⟨.inl,fun _=>k5⟩)
   ·rw [if_neg (by simpa using k5)]
    simp only [wpS]
    exact s14 _ (by rw [beq_iff_eq];exact ⟨.inr,fun h=>h.elim (fun h=>absurd h k5) id⟩)
  rw [aC]
  by_cases k4:v.x.k=4
  ·rw [if_pos (by simpa using k4)]
   simp only [wpS]
   exact s16 _ (by rw [beq_iff_eq];exact ⟨.inl,fun _=>k4⟩)
  rw [if_neg (by simpa using k4),aI,aC]
  by_cases k8:v.x.k=8
  ·rw [if_pos (by simpa using k8)]
   simp only [wpS,T102k10]
   exact s16 _ (by rw [beq_iff_eq];exact ⟨fun h=>.inr (.inl h),fun _=>k8⟩)
  rw [if_neg (by simpa using k8),aI,aC]
  by_cases k9:v.x.k=9
  ·rw [if_pos (by simpa using k9)]
   simp only [wpS,T102k9,T102k10]
   exact s16 _ (by rw [beq_iff_eq];exact ⟨fun h=>.inr (.inr (.inl h)),fun _=>k9⟩)
  rw [if_neg (by simpa using k9)]
  simp only [wpS,T102k9,T102k10]
  exact s16 _ (by rw [beq_iff_eq];exact ⟨fun h=>.inr (.inr (.inr h)),fun h=>by rcases h with h|h|h|h;exact absurd h k4;exact absurd h k8;exact absurd h k9;exact h⟩)
 have s20:∀ b,(bR v=(nC v.x.k v.x.n&&(kE v.x.k v.x.nm&&uA v.x.k v.x.pm)))→Wp aG ovD (T102k20 ⟨A,0,some 0⟩ .normal [.bool b]) σ2 fun _ vs σ'=>∃ w,vs=[w]∧w=.bool (bR v)∧Frm σ σ' NoB:=by
  intro b hf
  simp only [wpS,T102k20]
  rw [aE a0 rfl]
  simp only [wpS]
  have no:nC v.x.k v.x.n=false→Wp aG ovD (T102k7 .ret [.bool false]) σ2 fun e_1 vs σ'=>Wp aG ovD (T102k19 ⟨A,0,some 0⟩ e_1 vs) σ' fun _ vs σ'=>∃ w,vs=[w]∧w=.bool (bR v)∧Frm σ σ' NoB:=by
   intro h
   have a7:bR v=false:=by rw [hf,h];try rfl
   simp only [wpS,T102k7,T102k19]
   rw [a7]
   exact ⟨_,rfl,rfl,a4⟩
  have yes:nC v.x.k v.x.n=true→Wp aG ovD (T102k7 .normal [.bool b]) σ2 fun e_1 vs σ'=>Wp aG ovD (T102k19 ⟨A,0,some 0⟩ e_1 vs) σ' fun _ vs σ'=>∃ w,vs=[w]∧w=.bool (bR v)∧Frm σ σ' NoB:=by
   intro h
   simp only [wpS,T102k7]
   exact s19 b (by rw [hf,h];rfl)
  have s8:∀ d:Bool,(d=true↔v.x.k=1∨v.x.k=23)→Wp aG ovD (T102k8 ⟨A,0,some 0⟩ b v.x.k .normal [.bool d]) σ2 fun e_1 vs σ'=>Wp aG ovD (T102k19 ⟨A,0,some 0⟩ e_1 vs) σ' fun _ vs σ'=>∃ w,vs=[w]∧w=.bool (bR v)∧Frm σ σ' NoB:=by
   intro d hd
   simp only [wpS,T102k8]
   rw [aC]
   by_cases hk:v.x.k=1∨v.x.k=23
   ·have a1:nC v.x.k v.x.n=(decide (0≤v.x.n)&&decide (v.x.n≤4611686018427387903)):=by unfold nC;rw [if_pos hk]
    rw [if_pos (hd.2 hk),aI,aE a0 rfl]
    simp only [wpS]
    rw [aC]
    by_cases h0:v.x.n<0
    ·rw [if_neg (by simp [h0])]
     simp only [wpS,T102k3]
     rw [aC,if_pos rfl]
     simp only [wpS]
     exact no (by rw [a1];simp;omega)
    rw [if_pos (by simpa using h0),aE a0 rfl]
    simp only [wpS]
    rw [aD]
    refine WpF.of T118_eq rfl ?_
    rw [T118]
    simp only [wpS]
    refine ⟨_,rfl,?_⟩
    simp only [wpS]
    rw [bK,aQ]
    refine ⟨jM (a0.ldF rfl),?_⟩
    simp only [wpS,T102k3]
    rw [aC]
    by_cases h1:v.x.n>4611686018427387903
    ·rw [if_pos (by simpa using h1)]
     simp only [wpS]
     exact no (by rw [a1];simp;omega)
    ·rw [if_neg (by simpa using h1)]
     simp only [wpS]
     exact yes (by rw [a1];simp;omega)
   rw [if_neg fun h=>hk (hd.1 h),aI,aC]
   have s6:∀ d:Bool,(d=true↔v.x.k=2∨v.x.k=24)→Wp aG ovD (T102k6 ⟨A,0,some 0⟩ b .normal [.bool d]) σ2 fun e_1 vs σ'=>Wp aG ovD (T102k7 e_1 vs) σ' fun e_1 vs σ'=>Wp aG ovD (T102k19 ⟨A,0,some 0⟩ e_1 vs) σ' fun _ vs σ'=>∃ w,vs=[w]∧w=.bool (bR v)∧Frm σ σ' NoB:=by
    intro d hd
    simp only [wpS,T102k6]
    rw [aC]
    by_cases a5:v.x.k=2∨v.x.k=24
    ·have a1:nC v.x.k v.x.n=(decide (v.x.n=0)||decide (v.x.n=1)):=by unfold nC;rw [if_neg hk,if_pos a5]
     rw [if_pos (hd.2 a5),aI,aE a0 rfl]
     simp only [wpS]
     rw [aC]
     by_cases h0:v.x.n=0
     ·rw [if_neg (by simp [h0])]
      simp only [wpS,T102k4]
      rw [aC,if_neg (by simp)]
      simp only [wpS,T102k5]
      exact yes (by rw [a1];simp [h0])
     rw [if_pos (by simpa using h0),aE a0 rfl]
     simp only [wpS,T102k4]
     rw [aC]
     by_cases h1:v.x.n=1
     ·rw [if_neg (by simp [h1])]
      simp only [wpS,T102k5]
      exact yes (by rw [a1];simp [h1])
     ·rw [if_pos (by simpa using h1)]
      simp only [wpS,T102k5]
      exact no (by rw [a1];simp [h0,h1])
    ·have a1:nC v.x.k v.x.n=decide (v.x.n=0):=by unfold nC;rw [if_neg hk,if_neg a5]
     rw [if_neg fun h=>a5 (hd.1 h),aE a0 rfl]
     simp only [wpS]
     rw [aC]
     by_cases h0:v.x.n=0
     ·rw [if_neg (by simp [h0])]
      simp only [wpS,T102k5]
      exact yes (by rw [a1];simp [h0])
     ·rw [if_pos (by simpa using h0)]
      simp only [wpS,T102k5]
      exact no (by rw [a1];simp [h0])
   by_cases k2:v.x.k=2
   ·rw [if_pos (by simpa using k2)]
    simp only [wpS]
    exact s6 _ (by rw [beq_iff_eq];exact ⟨.inl,fun _=>k2⟩)
   ·rw [if_neg (by simpa using k2)]
    simp only [wpS]
    exact s6 _ (by rw [beq_iff_eq];exact ⟨.inr,fun h=>h.elim (fun h=>absurd h k2) id⟩)
  rw [aC]
  by_cases k1:v.x.k=1
  ·rw [if_pos (by simpa using k1)]
   simp only [wpS]
   exact s8 _ (by rw [beq_iff_eq];exact ⟨.inl,fun _=>k1⟩)
  ·rw [if_neg (by simpa using k1)]
   simp only [wpS]
   exact s8 _ (by rw [beq_iff_eq];exact ⟨.inr,fun h=>h.elim (fun h=>absurd h k1) id⟩)
 have s21:∀ d:Bool,(d=true↔¬ (1≤v.x.k∧v.x.k≤26))→Wp aG ovD (T102k21 ⟨A,0,some 0⟩ (some ⟨RB,0,some 1⟩) 27 .normal [.bool d]) σ2 fun _ vs σ'=>∃ w,vs=[w]∧w=.bool (bR v)∧Frm σ σ' NoB:=by
  intro d hd
  simp only [wpS,T102k21]
  rw [aC]
  by_cases hk:1≤v.x.k∧v.x.k≤26
  case neg=>
   rw [if_pos (hd.2 hk)]
   simp only [wpS]
   have a7:bR v=false:=by
    unfold bR
    by_cases h1:1≤v.x.k
    ·have h2:¬ v.x.k≤26:=fun h=>hk ⟨h1,h⟩
     rw [decide_eq_false h2];simp
    ·rw [decide_eq_false h1];simp
   rw [a7]
   exact ⟨_,rfl,rfl,a4⟩
  rw [if_neg fun h=>(hd.1 h) hk,aE a0 rfl]
  simp only [wpS]
  rw [aE a0 rfl]
  simp only [wpS]
  have b4:bR v=(kV v.x.k v.kids.length&&(nC v.x.k v.x.n&&(kE v.x.k v.x.nm&&uA v.x.k v.x.pm))):=by
   unfold bR
   rw [decide_eq_true hk.1,decide_eq_true hk.2]
   simp [Bool.and_assoc]
  obtain ⟨kn,b2⟩:∃ kn:Nat,v.x.k=(kn:Int):=⟨v.x.k.toNat,by omega⟩
  have b1:kn<eQ.length:=by rw [kidsK_len];omega
  have b5:(eQ.map fun z=>Value.int .i64 z)[kn]?=some (.int .i64 (eQ.getD kn 0)):=by simp [List.getD,b1]
  have a2:kV v.x.k v.kids.length=if eQ.getD kn 0= -2 then decide (v.kids.length≤3) else if eQ.getD kn 0= -3 then decide (3≤v.kids.length)&&decide (v.kids.length % 2=1) else decide (((v.kids.length:Nat):Int)=eQ.getD kn 0):=by
   unfold kV
   rw [b2,Int.toNat_natCast]
  have no:kV v.x.k v.kids.length=false→Wp aG ovD (T102k20 ⟨A,0,some 0⟩ .ret [.bool false]) σ2 fun _ vs σ'=>∃ w,vs=[w]∧w=.bool (bR v)∧Frm σ σ' NoB:=by
   intro h
   have a7:bR v=false:=by rw [b4,h];try rfl
   simp only [wpS,T102k20]
   rw [a7]
   exact ⟨_,rfl,rfl,a4⟩
  have yes:kV v.x.k v.kids.length=true→Wp aG ovD (T102k20 ⟨A,0,some 0⟩ .normal [.bool false]) σ2 fun _ vs σ'=>∃ w,vs=[w]∧w=.bool (bR v)∧Frm σ σ' NoB:=fun h=>s20 false (by rw [b4,h];rfl)
  rw [b2,aQ]
  refine ⟨by simp only [Bool.and_eq_true,decide_eq_true_eq];omega,?_⟩
  rw [Int.toNat_natCast,mH b0 b5]
  simp only [wpS]
  rw [aC]
  by_cases e1:eQ.getD kn 0= -2
  ·rw [if_pos e1] at a2
   rw [if_pos (by simpa using e1),aC]
   by_cases h3:v.kids.length≤3
   ·rw [if_neg (by simp;omega)]
    simp only [wpS,T102k2]
    exact yes (by rw [a2];simpa using h3)
   ·rw [if_pos (by simp;omega)]
    simp only [wpS,T102k2]
    exact no (by rw [a2];simpa using h3)
  rw [if_neg e1] at a2
  rw [if_neg (by simpa using e1),aI,aC]
  by_cases e2:eQ.getD kn 0= -3
  ·rw [if_pos e2] at a2
   rw [if_pos (by simpa using e2),aI,aC]
   by_cases h3:3≤v.kids.length
   ·rw [if_pos (by simp;omega)]
    simp only [wpS,T102k0]
    rw [aC]
    have ht:Int.tmod ((v.kids.length:Nat):Int) 2=((v.kids.length % 2:Nat):Int):=by
     rw [Int.tmod_eq_emod_of_nonneg (by omega)];omega
    by_cases h4:v.kids.length % 2=1
    ·rw [if_neg (by rw [ht];simp;omega)]
     simp only [wpS,T102k1,T102k2]
     exact yes (by rw [a2];simp [h3,h4])
    ·rw [if_pos (by rw [ht];simp;omega)]
     simp only [wpS,T102k1,T102k2]
     exact no (by rw [a2];simp [h4])
   ·rw [if_neg (by simp;omega)]
    simp only [wpS,T102k0]
    rw [aC,if_pos rfl]
    simp only [wpS,T102k1,T102k2]
    exact no (by rw [a2];simp [h3])
  ·rw [if_neg e2] at a2
   rw [if_neg (by simpa using e2),aE a0 rfl]
   simp only [wpS]
   rw [b2,aQ]
   refine ⟨by simp only [Bool.and_eq_true,decide_eq_true_eq];omega,?_⟩
   rw [Int.toNat_natCast,mH b0 b5]
   simp only [wpS]
   rw [aC]
   by_cases h3:((v.kids.length:Nat):Int)=eQ.getD kn 0
   ·rw [if_neg (by simpa using h3)]
    simp only [wpS,T102k1,T102k2]
    exact yes (by rw [a2];simpa using h3)
   ·rw [if_pos (by simpa using h3)]
    simp only [wpS,T102k1,T102k2]
    exact no (by rw [a2];simpa using h3)
 rw [aE a0 rfl]
 simp only [wpS]
 rw [aC]
 by_cases h1:v.x.k<1
 ·rw [if_neg (by simp [h1])]
  simp only [wpS]
  exact s21 true ⟨fun _ h=>by omega,fun _=>rfl⟩
 ·rw [if_pos (by simpa using h1),aE a0 rfl]
  simp only [wpS]
  exact s21 _ (by rw [decide_eq_true_eq];constructor<;>intro h<;>omega)
end
end Go.Pg
namespace Go.Pg
open Go.Proofs Go.Utf8 Go.Lib
set_option linter.unusedSimpArgs false
section
variable {N:List NV} {D:List Dc}
theorem qX {q:Nat→Bool→Option Nat} {β:Type} {g:Nat→List β} (hq:∀ p b e,q p b=some e→(g p).length+p≤e) (pat:Nat→Bool):∀ (l:List Nat) (i next e:Nat),gI q pat l i next=some e→(l.flatMap g).length+next≤e
 |[],i,next,e,h=>by
  cases ofS h
  simp
 |k::l,i,next,e,h=>by
  rw [gI] at h
  split at h
  ·rename_i hk
   subst hk
   obtain ⟨a,h1,h⟩:=aU h
   have p1:=hq _ _ _ h1
   have p2:=qX hq pat l (i+1) a e h
   rw [List.flatMap_cons,List.length_append]
   omega
  ·cases h
theorem nE:∀ (w p:Nat) (b:Bool) (e:Nat),bZ N D w p b=some e→∀ m,(bJ N m p).length+p≤e
 |0,_,_,_,h,_=>by cases h
 |w+1,p,b,e,h,m=>by
  have a0:=(iP _ _ _ _ h).1
  rw [bZ] at h
  cases m with
  |zero=>rw [bJ];simp;omega
  |succ m=>
   rw [bJ]
   split at h
   ·cases h
   ·rename_i v hv
    split at h
    ·obtain ⟨a,h1,h⟩:=aU h
     split at h
     ·cases h
     ·have hx:=ofS h
      subst hx
      split
      ·simp;omega
      ·have:=qX (g:=fun k=>if p<k∧k<N.length∧v.x.k=26 then bJ N m k else []) (fun p' b' e' h'=>by
        have p1:=nE w p' b' e' h' m
        have p2:=(iP _ _ _ _ h').1
        split
        ·exact p1
        ·simp;omega) _ _ _ _ _ h1
       omega
    ·cases h
theorem uS {w p:Nat} {b:Bool} {e:Nat} (h:bZ N D (w+1) p b=some e):∃ v,N[p]?=some v∧∀ j (hj:j<v.kids.length),p<v.kids[j]∧v.kids[j]<N.length∧∃ b' e',bZ N D w v.kids[j] b'=some e':=by
 have a0:=iP _ _ _ _ h
 rw [bZ] at h
 split at h
 ·cases h
 ·rename_i v hv
  refine ⟨v,hv,?_⟩
  split at h
  ·obtain ⟨a,h1,h⟩:=aU h
   split at h
   ·cases h
   ·have hx:=ofS h
    subst hx
    obtain ⟨q1,q2,q3⟩:=qV (R:=fun i=>i<N.length) (S:=fun p b=>∃ e',bZ N D w p b=some e') (fun p b e h=>by
     obtain ⟨p1,_,p3⟩:=iP _ _ _ _ h
     exact ⟨p1,⟨e,h⟩,fun i h1 h2=>by
      obtain ⟨u,hu,_⟩:=p3 i h1 h2
      exact (List.getElem?_eq_some_iff.1 hu).1⟩) _ _ _ _ _ h1
    intro j hj
    obtain ⟨r1,r2,e',r3⟩:=q2 j hj
    exact ⟨by omega,q3 _ r1 r2,_,e',r3⟩
  ·cases h
theorem gW {w p:Nat} {b:Bool} {e:Nat} (h:bZ N D w p b=some e):p<e∧e≤N.length:=by
 obtain ⟨h1,_,h3⟩:=iP _ _ _ _ h
 obtain ⟨u,hu,_⟩:=h3 (e - 1) (by omega) (by omega)
 have:=(List.getElem?_eq_some_iff.1 hu).1
 exact ⟨h1,by omega⟩
end
abbrev cW (t:List UInt8):Value:=.string (mkB t)
section
variable {σ σ':aB} {N:List NV} {D:List Dc} {Y:Nat→Prop} {pn pd:Option Addr} {cn cd:Nat}
theorem wp_binds80 (hN:N.length≤1000):∀ (w p:Nat) (b:Bool) (e m:Nat) (σ:aB),bZ N D w p b=some e→N.length≤m+p→dK σ Y pn N pd D→
  WpF aG ovD 104 [trV pn N.length cn pd D.length cd,.int .i64 ((p:Nat):Int)] σ fun v σ'=>∃ rb q k,v=.slice q (bJ N m p).length k∧SlV σ' rb q k ((bJ N m p).map cW)∧(q≠none→σ.n≤rb)∧Frm σ σ' NoB:=by
 intro w
 induction w with
 |zero=>intro p b e m σ h;cases h
 |succ w ih=>
  intro p b e m σ h hm hT
  obtain ⟨v,hv,a8⟩:=uS h
  have d3:=nE _ _ _ _ h
  have d2:=gW h
  obtain ⟨m,rfl⟩:∃ m',m=m'+1:=⟨m - 1,by omega⟩
  have c0:p<N.length:=by omega
  have c8:N[p]=v:=by
   rw [List.getElem?_eq_getElem c0] at hv
   exact Option.some.inj hv
  refine WpF.of (T104_eq _ _ _ _ _ _ _) rfl ?_
  rw [T104]
  refine aP fun σ1 c7 e2 b7=>?_
  generalize hA:σ.n=A at b7
  rw [aE b7 rfl]
  simp only [wpS]
  have c1:=hT.frm c7
  refine dM c1.nodes c0 rfl fun cs a5=>?_
  rw [c8] at a5
  obtain ⟨q,k,rfl,b4,_⟩:=a5
  simp only [wpS]
  refine aP fun σ2 d9 d1 c4=>?_
  refine bC c4 rfl rfl fun σ3 c6 e1 c3=>?_
  generalize hC:σ1.n=C at c4 c3 c6 d1
  have a3:Frm σ1 σ3 NoB:=d9.fresh c6 fun j hj h=>by omega
  have a4:=c7.seq a3
  have b6:=a3.stN b7
  have d5:=c1.frm a3
  have a6:=b4.step (S:=NoB) (Y':=Y) a3 (fun _ _ h=>h.elim) (fun _ _ h=>h) (fun _ _ h=>h)
  have a2:St σ3 C (nvC v q k):=c3
  rw [aE a2 rfl]
  simp only [wpS]
  rw [aC]
  have hb:=d3 (m+1)
  by_cases b3:v.x.k=22
  ·have eb:bJ N (m+1) p=[v.x.nm]:=by
    rw [bJ,hv]
    simp only
    rw [if_pos b3]
   rw [if_pos (by simpa using b3),aE a2 rfl]
   simp only [wpS]
   rw [aY,cT]
   simp only [wpS]
   rw [eb]
   refine ⟨_,rfl,σ3.n,_,1,rfl,.inr ⟨0,1,rfl,Row.new σ3 1 [cW v.x.nm] 1 (by decide) rfl (by intro y hy;simp at hy;subst hy;rfl)⟩,fun _=>by have:=a4.n;omega,a4.seq (Frm.new _ _ _ _)⟩
  have eb:bJ N (m+1) p=v.kids.flatMap fun k=>if p<k∧k<N.length∧v.x.k=26 then bJ N m k else []:=by
   rw [bJ,hv]
   simp only
   rw [if_neg b3]
  rw [if_neg (by simpa using b3),eb]
  rw [eb] at hb
  generalize hg:(fun k=>if p<k∧k<N.length∧v.x.k=26 then bJ N m k else [])=g at hb
  have e3:v.kids.length≤N.length:=by
   have:=(iP _ _ _ _ h).2.2 p (Nat.le_refl _) d2.1
   obtain ⟨u,hu,e0⟩:=this
   rw [hv] at hu
   cases hu
   have hr:=h
   rw [bZ,hv] at hr
   simp only at hr
   split at hr
   ·obtain ⟨a,h1,hr⟩:=aU hr
    have:=qX (g:=fun _=>[()]) (fun p' b' e' h'=>by have:=gW h';simp;omega) _ _ _ _ _ h1
    have h2:∀ l:List Nat,(l.flatMap fun _=>[()]).length=l.length:=fun l=>by
     induction l with
     |nil=>rfl
     |cons x l ih=>rw [List.flatMap_cons,List.length_append,ih];simp;omega
    have h2:=h2 v.kids
    split at hr
    ·cases hr
    ·cases ofS hr
     omega
   ·cases hr
  have b5:∀ j,((v.kids.take j).flatMap g).length≤(v.kids.flatMap g).length:=fun j=>by
   conv=>rhs;rw [←List.take_append_drop j v.kids,List.flatMap_append,List.length_append]
   omega
  refine Wp.count v.kids.length (fun j st σ'=>∃ rb qq kk,st=[.int .i64 ((j:Nat):Int),.slice qq ((v.kids.take j).flatMap g).length kk]∧SlV σ' rb qq kk (((v.kids.take j).flatMap g).map cW)∧(qq≠none→σ3.n≤rb)∧Frm σ3 σ' NoB)
   ⟨0,none,0,by simp,.inl ⟨rfl,rfl,by simp⟩,fun h=>absurd rfl h,Frm.refl _ _⟩ ?_ ?_
  ·rintro j st σ4 hj ⟨rb,qq,kk,rfl,hL,a7,a1⟩
   obtain ⟨k1,k2,b',e',k3⟩:=a8 j hj
   have ej:aT ((j:Int)+1)=((j+1:Nat):Int):=by rw [aV (by omega)];omega
   have a9:=a1.stN a2
   have b0:=a1.stN b6
   have d4:=d5.frm a1
   have a0:=a6.step (S:=NoB) (Y':=Y) a1 (fun _ _ h=>h.elim) (fun _ _ h=>h) (fun _ _ h=>h)
   unfold T104b0
   simp only [wpS]
   rw [aE a9 (v:=.slice q v.kids.length k) rfl]
   simp only [wpS]
   rw [aC,if_pos (by simp;omega)]
   simp only [wpS]
   rw [aE a9 (v:=.slice q v.kids.length k) rfl]
   simp only [wpS]
   refine dF a0 hj rfl fun cs a5=>⟨_,a5,?_⟩
   simp only [wpS]
   rw [aC,if_pos (by simp;omega),aE a9 (v:=.slice q v.kids.length k) rfl]
   simp only [wpS]
   refine dF a0 hj rfl fun cs a5=>⟨_,a5,?_⟩
   simp only [wpS]
   rw [aE b0 rfl]
   simp only [wpS]
   rw [aC,if_pos (by simp;omega),aE a9 rfl]
   simp only [wpS,T104k1]
   rw [aC]
   have b1:(v.kids.take (j+1)).flatMap g=(v.kids.take j).flatMap g++g v.kids[j]:=by
    rw [List.take_succ_eq_append_getElem hj,List.flatMap_append]
    simp
   by_cases b2:v.x.k=26
   ·have eg:g v.kids[j]=bJ N m v.kids[j]:=by rw [←hg];simp only;rw [if_pos ⟨k1,k2,b2⟩]
    rw [if_pos (by simpa using b2),aS b0 2 rfl]
    simp only [wpS]
    rw [aE a9 (v:=.slice q v.kids.length k) rfl]
    simp only [wpS]
    refine dF a0 hj rfl fun cs a5=>⟨_,a5,?_⟩
    simp only [wpS]
    rw [aD]
    refine WpF.mono (ih v.kids[j] b' e' m σ4 k3 (by omega) d4) ?_
    rintro _ σ5 ⟨rb2,q2,kk2,rfl,c5,c9,b8⟩
    simp only [wpS]
    have d7:=hL.frm b8 fun _ h=>h
    have p1:=b5 (j+1)
    rw [b1,eg,List.length_append] at p1
    rw [←eg] at c5 ⊢
    refine qz d7 (by simp) c5 (by simp) (by rw [eg];omega) (by rw [eg];omega) fun σ6 rb6 q6 kk6 d8 d0 d6=>?_
    simp only [wpS,T104k0,T104k2,ej]
    have b9:Frm σ3 σ6 NoB:=(a1.seq b8).trans d8 (fun _ _ h=>h) fun i hi h=>by have:=a7 h.1;omega
    refine ⟨rb6,q6,kk6,?_,?_,?_,b9⟩
    ·rw [b1,List.length_append]
    ·rw [b1,List.map_append];exact d6
    ·intro h
     have:=a1.n
     have:=b8.n
     rcases d0 with h6|⟨h6,h7⟩|h6
     ·exact absurd h6 h
     ·have:=a7 h6;omega
     ·omega
   ·have eg:g v.kids[j]=[]:=by rw [←hg];simp only;rw [if_neg fun h=>b2 h.2.2]
    rw [if_neg (by simpa using b2)]
    simp only [wpS,T104k0,T104k2,ej]
    rw [b1,eg,List.append_nil]
    exact ⟨rb,qq,kk,rfl,hL,a7,a1⟩
  ·rintro st σ4 ⟨rb,qq,kk,rfl,hL,a7,a1⟩
   rw [List.take_length] at hL ⊢
   unfold T104b0
   simp only [wpS]
   rw [aE (a1.stN a2) (v:=.slice q v.kids.length k) rfl]
   simp only [wpS]
   rw [aC,if_neg (by simp)]
   simp only [wpS,T104k3]
   exact ⟨_,rfl,rb,qq,kk,rfl,hL,fun h=>by have:=a7 h;have:=a4.n;omega,a4.seq a1⟩
theorem gV {rb c:Nat} {q:Option Addr} {l:List (List UInt8)} (h:SlV σ rb q c (l.map cW)):aR σ NoB 1 (qZ σ NoB) q l:=by
 rcases h with ⟨rfl,_,h0⟩|⟨off,s,rfl,hR⟩
 ·have:l=[]:=by simpa using h0
  rw [this]
  exact aR.nil
 ·exact aR.own (css:=l.map fun t=>[cW t]) (by
   have e:(l.map fun t=>[cW t]).flatten=l.map cW:=by
    clear hR
    induction l with
    |nil=>rfl
    |cons j r ih=>rw [List.map_cons,List.flatten_cons,List.map_cons,←ih];try rfl
   rw [e];exact hR) (fun h=>h) (by simp) (by intro cs a0;obtain ⟨t,_,rfl⟩:=List.mem_map.1 a0;rfl) (fun i h1 h2=>by simp [qZ])
end
end Go.Pg
namespace Go.Pg
open Go.Proofs Go.Utf8 Go.Lib
set_option linter.unusedSimpArgs false
theorem ofC_spec (s:List UInt8):∀ (l:List Cn) (c0:Nat) (x:Nat × Nat),ofC s c0 l=some x→c0≤x.1∧∃ h:x.1 - c0<l.length,l[x.1 - c0].args.length=x.2
 |[],_,_,h=>by cases h
 |y::l,c0,x,h=>by
  rw [ofC] at h
  split at h
  ·have hx:=ofS h
   subst hx
   refine ⟨Nat.le_refl _,by simp,?_⟩
   simp
  ·obtain ⟨h1,h2,h3⟩:=ofC_spec s l (c0+1) x h
   refine ⟨by omega,by simp;omega,?_⟩
   have e:x.1 - c0=(x.1 - (c0+1))+1:=by omega
   simp only [e,List.getElem_cons_succ]
   exact h3
theorem zI (s:List UInt8):∀ (l:List Dc) (d0:Nat) (x:Nat × Nat × Nat),ofD s d0 l=some x→d0≤x.1∧∃ h:x.1 - d0<l.length,∃ h2:x.2.1<l[x.1 - d0].cons.length,l[x.1 - d0].cons[x.2.1].args.length=x.2.2
 |[],_,_,h=>by cases h
 |y::l,d0,x,h=>by
  rw [ofD] at h
  split at h
  ·rename_i c n hc
   have hx:=ofS h
   subst hx
   obtain ⟨_,h2,h3⟩:=ofC_spec s _ 0 _ hc
   simp only [Nat.sub_zero] at h2 h3
   refine ⟨Nat.le_refl _,by simp,?_⟩
   simp only [Nat.sub_self,List.getElem_cons_zero]
   exact ⟨h2,h3⟩
  ·obtain ⟨h1,h2,h3,h4⟩:=zI s l (d0+1) x h
   have e:x.1 - d0=(x.1 - (d0+1))+1:=by omega
   refine ⟨by omega,by simp;omega,?_⟩
   simp only [e,List.getElem_cons_succ]
   exact ⟨h3,h4⟩
def yp:Option Nat→Int
 |some e=>((e:Nat):Int)
 |none=> -1
section
variable {σ σ':aB} {N:List NV} {D:List Dc} {Y:Nat→Prop} {pn pd:Option Addr} {cn cd:Nat}
theorem wp_walk48 (hN:N.length≤1000) (hK:∀ v∈N,v.kids.length≤1000000) (hD:D.length≤1000000) (hC:∀ d∈D,d.cons.length≤1000000):∀ (n p:Nat) (pat:Bool) (σ:aB),n≤60→p≤N.length→dK σ Y pn N pd D→
  WpF aG ovD 76 [trV pn N.length cn pd D.length cd,.int .i64 ((p:Nat):Int),.bool pat,.int .i64 ((61 - n:Nat):Int)] σ fun v σ'=>v=.int .i64 (yp (bZ N D n p pat))∧Frm σ σ' NoB:=by
 intro n
 induction n with
 |zero=>
  intro p pat σ hn hp hT
  refine WpF.of (T76_eq _ _ _ _ _ _ _ _ _) rfl ?_
  rw [T76]
  refine aP fun σ1 b8 e5 b1=>?_
  rw [aE b1 rfl]
  simp only [wpS]
  rw [aC,if_pos (by simp)]
  simp only [wpS]
  exact ⟨_,rfl,rfl,b8⟩
 |succ n ih=>
  intro p pat σ hn hp hT
  refine WpF.of (T76_eq _ _ _ _ _ _ _ _ _) rfl ?_
  rw [T76]
  refine aP fun σ1 b8 e5 b1=>?_
  generalize hA:σ.n=A at b1
  rw [aE b1 rfl]
  simp only [wpS]
  rw [aC]
  by_cases c5:p<N.length
  case neg=>
   rw [if_pos (by simp;omega)]
   simp only [wpS]
   rw [bZ,List.getElem?_eq_none (by omega)]
   exact ⟨_,rfl,rfl,b8⟩
  rw [if_neg (by simp;omega),aE b1 rfl]
  simp only [wpS]
  have d9:=hT.frm b8
  have d2:N[p]?=some N[p]:=List.getElem?_eq_getElem c5
  have d6:=hK _ (List.getElem_mem c5)
  generalize hv:N[p]=v at d2 d6
  refine dM d9.nodes c5 rfl fun cs a4=>?_
  rw [hv] at a4
  obtain ⟨q,k,rfl,c4,_⟩:=a4
  simp only [wpS]
  refine aP fun σ2 b7 e4 b5=>?_
  refine bC b5 rfl rfl fun σ3 d1 f1 c8=>?_
  generalize f3:σ1.n=C at b5 c8 d1 e4
  have a5:Frm σ1 σ3 NoB:=b7.fresh d1 fun j hj h=>by omega
  have b0:=b8.seq a5
  have b6:=a5.stN b1
  have d8:=d9.frm a5
  have b3:=c4.step (S:=NoB) (Y':=Y) a5 (fun _ _ h=>h.elim) (fun _ _ h=>h) (fun _ _ h=>h)
  have a8:St σ3 C (nvC v q k):=c8
  clear b5 c8 b7 d1
  simp only [wpS]
  rw [aS a8 7 rfl]
  have eW:bZ N D (n+1) p pat=if bR v=true∧decide (v.x.k>20)=pat∧(v.x.k=5∨v.x.k=26→∃ x,ofD v.x.nm 0 D=some x∧x.2.2=v.kids.length) then
    (gI (bZ N D n) (fun i=>pat||(decide (v.x.k=11)&&decide (i % 2=1))) v.kids 0 (p+1)).bind fun next=>
     if v.x.k=11∧∃ i,i<v.kids.length∧i % 2=1∧cP (bJ N N.length (v.kids.getD i 0))=true then none else some next
   else none:=by
   rw [bZ,d2]
  have s9no:∀ τ,Frm σ3 τ NoB→bZ N D (n+1) p pat=none→Wp aG ovD (T76k9 ⟨C,0,some 0⟩ ⟨A,0,some 0⟩ ((p:Nat):Int) pat ((61 - (n+1):Nat):Int) .normal [.bool true]) τ fun _ vs σ'=>∃ w,vs=[w]∧w=.int .i64 (yp (bZ N D (n+1) p pat))∧Frm σ σ' NoB:=by
   intro τ hτ h
   simp only [wpS,T76k9]
   rw [aC,if_pos rfl]
   simp only [wpS]
   rw [h]
   exact ⟨_,rfl,rfl,b0.seq hτ⟩
  have s7:∀ τ (x0:Int),Frm σ3 τ NoB→(bR v=true∧decide (v.x.k>20)=pat∧(v.x.k=5∨v.x.k=26→∃ x,ofD v.x.nm 0 D=some x∧x.2.2=v.kids.length))→Wp aG ovD (T76k7 ((p:Nat):Int) ⟨C,0,some 0⟩ ⟨A,0,some 0⟩ pat ((61 - (n+1):Nat):Int) .normal [.int .i64 x0]) τ fun _ vs σ'=>∃ w,vs=[w]∧w=.int .i64 (yp (bZ N D (n+1) p pat))∧Frm σ σ' NoB:=by
   intro τ x0 hτ hc
   rw [if_pos hc] at eW
   rw [eW]
   have hSτ:=hτ.stN a8
   have hS1τ:=hτ.stN b6
   have hTτ:=d8.frm hτ
   have hrowτ:=b3.step (S:=NoB) (Y':=Y) hτ (fun _ _ h=>h.elim) (fun _ _ h=>h) (fun _ _ h=>h)
   have hFτ:=b0.seq hτ
   simp only [wpS,T76k7]
   have ep:aT (((p:Nat):Int)+1)=((p+1:Nat):Int):=by rw [aV (by omega)];omega
   have ed:aT (((61 - (n+1):Nat):Int)+1)=((61 - n:Nat):Int):=by rw [aV (by omega)];omega
   rw [ep]
   generalize hR:gI (bZ N D n) (fun i=>pat||(decide (v.x.k=11)&&decide (i % 2=1))) v.kids 0 (p+1)=R
   refine Wp.count v.kids.length (fun j st σ'=>∃ (next:Nat) (x1:Int),st=[.int .i64 ((j:Nat):Int),.int .i64 ((next:Nat):Int),.int .i64 x1]∧Frm τ σ' NoB∧next≤N.length∧R=gI (bZ N D n) (fun i=>pat||(decide (v.x.k=11)&&decide (i % 2=1))) (v.kids.drop j) j next)
    ⟨p+1,x0,rfl,Frm.refl _ _,by omega,by rw [←hR,List.drop_zero]⟩ ?_ ?_
   ·rintro j st σ4 hj ⟨next,x1,rfl,a1,d3,a3⟩
    have ej:aT ((j:Int)+1)=((j+1:Nat):Int):=by rw [aV (by omega)];omega
    have a7:=a1.stN hSτ
    have a9:=a1.stN hS1τ
    have a2:=hrowτ.step (S:=NoB) (Y':=Y) a1 (fun _ _ h=>h.elim) (fun _ _ h=>h) (fun _ _ h=>h)
    have c7:=hTτ.frm a1
    rw [List.drop_eq_getElem_cons hj,gI] at a3
    unfold T76b0
    simp only [wpS]
    rw [aE a7 (v:=.slice q v.kids.length k) rfl]
    simp only [wpS]
    rw [aC,if_pos (by simp;omega),aI,aE a7 (v:=.slice q v.kids.length k) rfl]
    simp only [wpS]
    refine dF a2 hj rfl fun cs a4=>⟨_,a4,?_⟩
    simp only [wpS]
    rw [aC]
    have d7:∀ {x:Int} {σ':aB},Frm τ σ' NoB→R=none→Wp aG ovD (T76k2 ((j:Nat):Int) .ret [.int .i64 x,.int .i64 (-1)]) σ' fun e st' σ'=>match e with
      | .normal=>∃ (next:Nat) (x1:Int),st'=[.int .i64 ((j+1:Nat):Int),.int .i64 ((next:Nat):Int),.int .i64 x1]∧Frm τ σ' NoB∧next≤N.length∧R=gI (bZ N D n) (fun i=>pat||(decide (v.x.k=11)&&decide (i % 2=1))) (v.kids.drop (j+1)) (j+1) next
      |e=>Wp aG ovD (T76k6 ⟨C,0,some 0⟩ ⟨A,0,some 0⟩ e st') σ' fun _ vs σ'=>∃ w,vs=[w]∧w=.int .i64 (yp (R.bind fun next=>if v.x.k=11∧∃ i,i<v.kids.length∧i % 2=1∧cP (bJ N N.length (v.kids.getD i 0))=true then none else some next))∧Frm σ σ' NoB:=by
     intro x σ' hσ h
     simp only [wpS,T76k2,T76k6]
     rw [h]
     exact ⟨_,rfl,rfl,hFτ.seq hσ⟩
    by_cases hk:v.kids[j]=next
    case neg=>
     rw [if_neg hk] at a3
     rw [if_pos (bne_iff_ne.2 fun h=>hk (by omega))]
     simp only [wpS]
     exact d7 a1 a3
    rw [if_pos hk] at a3
    rw [if_neg (by rw [hk];simp)]
    simp only [wpS]
    rw [aS a9 2 rfl]
    simp only [wpS]
    have back:∀ σ5,Frm σ4 σ5 NoB→Wp aG ovD (T76k1 x1 .normal [.int .i64 (yp (bZ N D n next (pat||(decide (v.x.k=11)&&decide (j % 2=1)))))]) σ5 fun e vs σ'=>Wp aG ovD (T76k2 ((j:Nat):Int) e vs) σ' fun e st' σ'=>match e with
      | .normal=>∃ (next:Nat) (x1:Int),st'=[.int .i64 ((j+1:Nat):Int),.int .i64 ((next:Nat):Int),.int .i64 x1]∧Frm τ σ' NoB∧next≤N.length∧R=gI (bZ N D n) (fun i=>pat||(decide (v.x.k=11)&&decide (i % 2=1))) (v.kids.drop (j+1)) (j+1) next
      |e=>Wp aG ovD (T76k6 ⟨C,0,some 0⟩ ⟨A,0,some 0⟩ e st') σ' fun _ vs σ'=>∃ w,vs=[w]∧w=.int .i64 (yp (R.bind fun next=>if v.x.k=11∧∃ i,i<v.kids.length∧i % 2=1∧cP (bJ N N.length (v.kids.getD i 0))=true then none else some next))∧Frm σ σ' NoB:=by
     intro σ5 a0
     simp only [wpS,T76k1]
     rw [aC]
     cases hw:bZ N D n next (pat||(decide (v.x.k=11)&&decide (j % 2=1))) with
     |none=>
      rw [hw] at a3
      rw [if_pos (by simp [yp])]
      simp only [wpS]
      exact d7 (a1.seq a0) a3
     |some e=>
      rw [hw] at a3
      have d5:=gW hw
      rw [if_neg (by rw [decide_eq_true_eq];show ¬ ((e:Nat):Int)<0;omega)]
      simp only [wpS,T76k2,ej]
      exact ⟨e,_,rfl,a1.seq a0,d5.2,a3⟩
    have e2:(Int.tmod ((j:Nat):Int) 2==1)=decide (j % 2=1):=by
     rw [Int.tmod_eq_emod_of_nonneg (by omega)]
     by_cases h2:j % 2=1
     ·rw [decide_eq_true h2,beq_iff_eq];omega
     ·rw [decide_eq_false h2,beq_eq_false_iff_ne];omega
    have sub:∀ (b:Bool),b=(pat||(decide (v.x.k=11)&&decide (j % 2=1)))→WpF aG ovD 76 [trV pn N.length cn pd D.length cd,.int .i64 ((next:Nat):Int),.bool b,.int .i64 (aT (((61 - (n+1):Nat):Int)+1))] σ4 fun w σ5=>w=.int .i64 (yp (bZ N D n next (pat||(decide (v.x.k=11)&&decide (j % 2=1)))))∧Frm σ4 σ5 NoB:=by
     rintro b rfl
     rw [ed]
     exact ih next _ σ4 (by omega) d3 c7
    rw [aC]
    cases pat with
    |true=>
     rw [if_neg (by simp),aD]
     refine WpF.mono (sub true (by simp)) ?_
     rintro _ σ5 ⟨rfl,a0⟩
     simp only [wpS]
     exact back σ5 a0
    |false=>
     rw [if_pos (by rfl),aE a7 rfl]
     simp only [wpS]
     rw [aC]
     by_cases a6:v.x.k=11
     ·rw [if_pos (by simpa using a6),aD,e2]
      refine WpF.mono (sub _ (by simp [a6])) ?_
      rintro _ σ5 ⟨rfl,a0⟩
      simp only [wpS]
      exact back σ5 a0
     ·rw [if_neg (by simpa using a6),aD]
      refine WpF.mono (sub _ (by simp [a6])) ?_
      rintro _ σ5 ⟨rfl,a0⟩
      simp only [wpS]
      exact back σ5 a0
   ·rintro st σ4 ⟨next,x1,rfl,a1,d3,a3⟩
    have a7:=a1.stN hSτ
    have a9:=a1.stN hS1τ
    have a2:=hrowτ.step (S:=NoB) (Y':=Y) a1 (fun _ _ h=>h.elim) (fun _ _ h=>h) (fun _ _ h=>h)
    have c7:=hTτ.frm a1
    rw [List.drop_length,gI] at a3
    subst a3
    unfold T76b0
    simp only [wpS]
    rw [aE a7 (v:=.slice q v.kids.length k) rfl]
    simp only [wpS]
    rw [aC,if_neg (by simp)]
    simp only [wpS,T76k6]
    rw [aE a7 rfl]
    simp only [wpS]
    rw [aC]
    rw [Option.bind_some]
    by_cases a6:v.x.k=11
    case neg=>
     rw [if_neg (by simpa using a6)]
     simp only [wpS,T76k5]
     rw [if_neg fun h=>a6 h.1]
     exact ⟨_,rfl,rfl,hFτ.seq a1⟩
    rw [if_pos (by simpa using a6)]
    have e6:∀ j (hj:j<v.kids.length),∃ b' e',bZ N D n v.kids[j] b'=some e':=by
     obtain ⟨_,q2,_⟩:=qV (R:=fun _=>True) (S:=fun p b=>∃ e',bZ N D n p b=some e') (fun p b e h=>⟨(iP _ _ _ _ h).1,⟨e,h⟩,fun _ _ _=>trivial⟩) _ _ _ _ _ hR
     intro j hj
     obtain ⟨_,_,e',r3⟩:=q2 j hj
     exact ⟨_,e',r3⟩
    refine Wp.loop (fun m st σ'=>∃ (i:Nat) (x2:Int),m=v.kids.length+1 - i∧i≤v.kids.length+1∧i % 2=1∧st=[.int .i64 ((i:Nat):Int),.int .i64 x2]∧Frm σ4 σ' NoB∧∀ j,j<i→j<v.kids.length→j % 2=1→cP (bJ N N.length (v.kids.getD j 0))=false) v.kids.length
     ⟨1,x1,by omega,by omega,rfl,rfl,Frm.refl _ _,fun j h1 _ h3=>by omega⟩ ?_
    rintro m st σ5 ⟨i,x2,rfl,hi,c6,rfl,a0,d4⟩
    have e0:=a0.stN a7
    have c9:=a0.stN a9
    have b2:=a2.step (S:=NoB) (Y':=Y) a0 (fun _ _ h=>h.elim) (fun _ _ h=>h) (fun _ _ h=>h)
    have e8:=c7.frm a0
    unfold T76b1
    simp only [wpS]
    rw [aE e0 (v:=.slice q v.kids.length k) rfl]
    simp only [wpS]
    rw [aC]
    by_cases c1:i<v.kids.length
    case neg=>
     rw [if_neg (by simp;omega)]
     simp only [wpS,T76k4,T76k5]
     rw [if_neg]
     ·exact ⟨_,rfl,rfl,(hFτ.seq a1).seq a0⟩
     ·rintro ⟨_,j,h1,h2,h3⟩
      rw [d4 j (by omega) h1 h2] at h3
      cases h3
    rw [if_pos (by simp;omega),aI,aS c9 2 rfl]
    simp only [wpS]
    rw [aE e0 (v:=.slice q v.kids.length k) rfl]
    simp only [wpS]
    refine dF b2 c1 rfl fun cs a4=>⟨_,a4,?_⟩
    simp only [wpS]
    rw [aD]
    obtain ⟨b',e',hk⟩:=e6 i c1
    refine WpF.mono (wp_binds80 hN n _ b' e' N.length σ5 hk (by omega) e8) ?_
    rintro _ σ6 ⟨rb,q2,k2,rfl,hL,f0,e1⟩
    simp only [wpS]
    rw [aD]
    have f2:=nE _ _ _ _ hk N.length
    have d5:=gW hk
    refine WpF.mono (sB (gV hL) (by omega)) ?_
    rintro _ _ ⟨rfl,rfl⟩
    simp only [wpS]
    have eg:v.kids.getD i 0=v.kids[i]:=by simp [List.getD,c1]
    rw [aC]
    by_cases b9:cP (bJ N N.length v.kids[i])=true
    ·rw [if_pos b9]
     simp only [wpS,T76k3,T76k4,T76k5]
     rw [if_pos ⟨a6,i,c1,c6,by rw [eg];exact b9⟩]
     exact ⟨_,rfl,rfl,((hFτ.seq a1).seq a0).seq e1⟩
    ·rw [if_neg b9]
     have ei:aT (((i:Nat):Int)+2)=((i+2:Nat):Int):=by rw [aV (by omega)];omega
     simp only [wpS,T76k3,ei]
     refine ⟨v.kids.length+1 - (i+2),by omega,i+2,x2,rfl,by omega,by omega,rfl,a0.seq e1,fun j h1 h2 h3=>?_⟩
     by_cases e7:j<i
     ·exact d4 j e7 h2 h3
     ·have:j=i:=by omega
      subst this
      rw [eg]
      simpa using b9
  unfold nvC
  simp only [wpS]
  rw [aD]
  refine WpF.mono (wp_shape78 v d6 q k) ?_
  rintro _ τ ⟨rfl,hτ⟩
  simp only [wpS]
  rw [aC]
  cases c3:bR v with
  |false=>
   rw [if_neg (by simp)]
   simp only [wpS]
   exact s9no τ hτ (by rw [eW,if_neg fun h=>by rw [c3] at h;exact absurd h.1 (by simp)])
  |true=>
  have hSτ:=hτ.stN a8
  have hS1τ:=hτ.stN b6
  rw [if_pos (by rfl),aE hSτ rfl]
  simp only [wpS]
  by_cases b4:decide (v.x.k>20)=pat
  case neg=>
   rw [show (!(decide (v.x.k>20)==pat))=true by simp [b4]]
   exact s9no τ hτ (by rw [eW,if_neg fun h=>b4 h.2.1])
  rw [show (!(decide (v.x.k>20)==pat))=false by simp [b4]]
  simp only [wpS,T76k9]
  rw [aC,if_neg (by simp)]
  simp only [wpS]
  rw [aE hSτ rfl]
  simp only [wpS]
  have s8:∀ b:Bool,(b=true↔v.x.k=5∨v.x.k=26)→Wp aG ovD (T76k8 ⟨A,0,some 0⟩ ⟨C,0,some 0⟩ ((p:Nat):Int) pat ((61 - (n+1):Nat):Int) .normal [.bool b]) τ fun _ vs σ'=>∃ w,vs=[w]∧w=.int .i64 (yp (bZ N D (n+1) p pat))∧Frm σ σ' NoB:=by
   intro b hb
   simp only [wpS,T76k8]
   rw [aC]
   by_cases hk:v.x.k=5∨v.x.k=26
   case neg=>
    rw [if_neg fun h=>hk (hb.1 h)]
    simp only [wpS]
    exact s7 τ 0 hτ ⟨c3,b4,fun h=>absurd h hk⟩
   rw [if_pos (hb.2 hk),aS hS1τ 2 rfl]
   simp only [wpS]
   rw [aE hSτ rfl]
   simp only [wpS]
   rw [aD]
   have hTτ:=d8.frm hτ
   refine WpF.mono (wp_Of79 hTτ.decls hD hC v.x.nm) ?_
   rintro _ τ2 ⟨rfl,hτ2⟩
   have b5:=hτ2.stN hSτ
   have d0:=hτ2.stN hS1τ
   have e9:=hTτ.frm hτ2
   have b7:=hτ.seq hτ2
   have bad:(¬ ∃ x,ofD v.x.nm 0 D=some x∧x.2.2=v.kids.length)→Wp aG ovD (T76k0 .normal [.bool true]) τ2 fun e vs σ'=>Wp aG ovD (T76k7 ((p:Nat):Int) ⟨C,0,some 0⟩ ⟨A,0,some 0⟩ pat ((61 - (n+1):Nat):Int) e vs) σ' fun _ vs σ'=>∃ w,vs=[w]∧w=.int .i64 (yp (bZ N D (n+1) p pat))∧Frm σ σ' NoB:=by
    intro h
    simp only [wpS,T76k0]
    rw [aC,if_pos rfl]
    simp only [wpS,T76k7]
    rw [eW,if_neg fun hc=>h (hc.2.2 hk)]
    exact ⟨_,rfl,rfl,b0.seq b7⟩
   cases c0:ofD v.x.nm 0 D with
   |none=>
    rw [yF]
    simp only [wpS]
    rw [aC,if_neg (by simp)]
    simp only [wpS]
    exact bad fun ⟨x,hx,_⟩=>by rw [c0] at hx;cases hx
   |some x=>
    obtain ⟨d,c,m⟩:=x
    obtain ⟨_,h1,h2,h3⟩:=zI _ _ _ _ c0
    simp only [Nat.sub_zero] at h1 h2 h3
    rw [sR]
    simp only [wpS]
    rw [aC,if_pos (by rfl),aE d0 rfl]
    simp only [wpS]
    refine dI e9.decls h1 rfl (o:=1) (by decide) fun cs a4=>?_
    obtain ⟨q1,k1,rfl,e3⟩:=a4
    refine ⟨_,rfl,?_⟩
    simp only [wpS]
    refine dI e3 h2 rfl (o:=1) (by decide) fun cs a4=>?_
    obtain ⟨q2,k2,rfl,_,_⟩:=a4
    refine ⟨_,rfl,?_⟩
    simp only [wpS]
    rw [aE b5 (v:=.slice q v.kids.length k) rfl]
    simp only [wpS]
    rw [h3]
    by_cases hm:m=v.kids.length
    ·rw [show (((m:Nat):Int) !=((v.kids.length:Nat):Int))=false by simp [hm]]
     simp only [wpS,T76k0]
     rw [aC,if_neg (by simp)]
     simp only [wpS]
     exact s7 τ2 0 b7 ⟨c3,b4,fun _=>⟨_,c0,hm⟩⟩
    ·rw [show (((m:Nat):Int) !=((v.kids.length:Nat):Int))=true from bne_iff_ne.2 fun h=>hm (by omega)]
     exact bad fun ⟨x,hx,h⟩=>by rw [c0] at hx;cases hx;exact hm h
  rw [aC]
  by_cases k5:v.x.k=5
  ·rw [if_neg (by simp [k5])]
   simp only [wpS]
   exact s8 true ⟨fun _=>.inl k5,fun _=>rfl⟩
  ·rw [if_pos (by simpa using k5),aE hSτ rfl]
   simp only [wpS]
   exact s8 _ (by rw [beq_iff_eq];exact ⟨.inr,fun h=>h.elim (fun h=>absurd h k5) id⟩)
end
end Go.Pg
namespace Go.Pg
open Go.Proofs Go.Utf8 Go.Lib
set_option linter.unusedSimpArgs false
def okC (c:Cn):Bool:=qp c.nm&&decide (c.args.length≤3)
def okD (d:Dc):Bool:=sQ d.nm&&!eH d.nm&&decide (1≤d.cons.length)&&decide (d.cons.length≤20)&&d.cons.all okC
def dG (D:List Dc):List (List UInt8):=D.map (·.nm)
def cR (D:List Dc):List (List UInt8):=D.flatMap fun d=>d.cons.map (·.nm)
def oQ (D:List Dc) (d:Dc):Bool:=d.cons.all fun c=>c.args.all fun a=>(dG D).contains a||eH a
theorem uV (D:List Dc):eK D=(D.all okD&&decide (D.length≤20)&&!cP (dG D)&&!cP (cR D)&&D.all (oQ D)):=rfl
theorem nL {α:Type} {p:α→Bool}:∀ {l:List α} {i:Nat} (hi:i<l.length),p l[i]=false→l.all p=false:=fun {l i} hi h=>by
 rw [Bool.eq_false_iff]
 intro h2
 rw [List.all_eq_true] at h2
 rw [h2 _ (List.getElem_mem hi)] at h
 cases h
theorem wi {α:Type} {p:α→Bool} {l:List α} (h:∀ i (hi:i<l.length),p l[i]=true):l.all p=true:=by
 rw [List.all_eq_true]
 intro x hx
 obtain ⟨i,hi,rfl⟩:=List.getElem_of_mem hx
 exact h i hi
theorem in_basic (l:List (List UInt8)) (a:List UInt8):(l++[[105,110,116],[98,111,111,108],[117,110,105,116]]).contains a=(l.contains a||eH a):=by
 unfold eH
 rw [List.contains_eq_any_beq,List.any_append,←List.contains_eq_any_beq]
 congr 1
 simp only [List.any_cons,List.any_nil,Bool.or_false]
 rw [Bool.eq_iff_iff]
 simp only [Bool.or_eq_true,beq_iff_eq,decide_eq_true_eq,or_assoc]
section
variable {σ τ:aB} {P:Program} {ov:Ov}
theorem aR.later {β:Type} {Y:Nat→Prop} {c:Nat} {R:List Value→β→Prop} {p:Option Addr} {ts:List β} (h:aR σ Y c R p ts) (f:Frm σ τ NoB):aR τ Y c R p ts:=aR.step (S:=NoB) f (fun _ _ h=>h.elim) (fun _ _ h=>h) (fun _ _ h=>h) h
end
section
variable {σ σ':aB} {D:List Dc} {Y:Nat→Prop} {pn pd:Option Addr} {n cn cd:Nat}
theorem wp_types47 (hT:aR σ Y 2 (dcR σ Y) pd D) (hD:D.length≤1000000) (hC:∀ d∈D,d.cons.length≤1000000) (hA:∀ d∈D,∀ c∈d.cons,c.args.length≤1000000) (l5:(cR D).length≤100000000):
  WpF aG ovD 75 [trV pn n cn pd D.length cd] σ fun v σ'=>v=.bool (eK D)∧Frm σ σ' NoB:=by
 refine WpF.of (T75_eq _ _ _ _ _ _) rfl ?_
 rw [T75]
 refine aP fun σ1 c7 l4 f1=>?_
 generalize l9:σ.n=A at f1
 have j0:∀ {i:Nat} (hi:i<D.length),dG (D.take (i+1))=dG (D.take i)++[D[i].nm]∧cR (D.take (i+1))=cR (D.take i)++D[i].cons.map (·.nm):=fun {i} hi=>by
  constructor
  ·unfold dG
   rw [List.take_succ_eq_append_getElem hi,List.map_append]
   try rfl
  ·unfold cR
   rw [List.take_succ_eq_append_getElem hi,List.flatMap_append]
   simp
 have k4:∀ i,(cR (D.take i)).length≤(cR D).length:=fun i=>by
  have:cR D=cR (D.take i)++cR (D.drop i):=by
   unfold cR
   rw [←List.flatMap_append,List.take_append_drop]
  rw [this,List.length_append]
  omega
 have no:eK D=false→∀ (τ:aB),Frm σ τ NoB→∀ (i:Int) (a b:Option Addr) (na nb ca cb:Nat),Wp aG ovD (T75k12 ⟨A,0,some 0⟩ .ret [.int .i64 i,.slice a na ca,.slice b nb cb,.bool false]) τ fun _ vs σ'=>∃ v,vs=[v]∧v=.bool (eK D)∧Frm σ σ' NoB:=by
  intro h τ hτ i a b na nb ca cb
  simp only [wpS,T75k12]
  rw [h]
  exact ⟨_,rfl,rfl,hτ⟩
 refine Wp.count D.length (fun i st σ'=>∃ (rc:Nat) (qc:Option Addr) (kc rn:Nat) (qn:Option Addr) (kn:Nat),st=[.int .i64 ((i:Nat):Int),.slice qc (cR (D.take i)).length kc,.slice qn (dG (D.take i)).length kn,.bool false]∧SlE σ' rc qc kc 1 ((cR (D.take i)).map cW)∧SlE σ' rn qn kn 1 ((dG (D.take i)).map cW)∧
   (qc≠none→σ1.n≤rc)∧(qn≠none→σ1.n≤rn)∧(qc≠none→qn≠none→rc≠rn)∧Frm σ1 σ' NoB∧∀ j (hj:j<D.length),j<i→okD D[j]=true)
  ⟨0,none,0,0,none,0,rfl,.inl ⟨rfl,rfl,rfl⟩,.inl ⟨rfl,rfl,rfl⟩,fun h=>absurd rfl h,fun h=>absurd rfl h,fun h=>absurd rfl h,Frm.refl _ _,fun j _ h=>by omega⟩ ?_ ?_
 ·rintro i st σ2 hi ⟨rc,qc,kc,rn,qn,kn,rfl,e2,c6,i0,e9,f9,a8,c4⟩
  have ei:aT ((i:Int)+1)=((i+1:Nat):Int):=by rw [aV (by omega)];omega
  have d7:=a8.stN f1
  have c8:=c7.seq a8
  have j5:=a8.n
  have d5:=hC _ (List.getElem_mem hi)
  have bad:okD D[i]=false→eK D=false:=fun h=>by rw [uV,nL hi h];try rfl
  obtain ⟨tk1,tk2⟩:=j0 hi
  have i5:=k4 (i+1)
  rw [tk2,List.length_append,List.length_map] at i5
  have j4:(dG (D.take i)).length≤D.length:=by unfold dG;rw [List.length_map,List.length_take];omega
  have b0:okD D[i]=true→∀ j (hj:j<D.length),j<i+1→okD D[j]=true:=fun h j hj h2=>by
   by_cases i2:j=i
   ·subst i2;exact h
   ·exact c4 j hj (by omega)
  generalize hd:D[i]=d at d5 bad tk1 tk2 i5 b0
  unfold T75b1
  simp only [wpS]
  rw [aE d7 rfl]
  simp only [wpS]
  rw [aC,if_pos (by simp;omega),aI,aE d7 rfl]
  simp only [wpS]
  refine dM (hT.later c8) hi rfl fun cs a0=>?_
  rw [hd] at a0
  obtain ⟨q,k,rfl,d2⟩:=a0
  simp only [wpS]
  refine aP fun σ3 c9 g1 g3=>?_
  refine bC g3 rfl rfl fun σ4 e4 l3 a4=>?_
  generalize hB:σ2.n=C at g3 a4 e4 g1
  have e5:Frm σ2 σ4 NoB:=c9.fresh e4 fun j hj h=>by omega
  clear g3 c9 e4
  simp only [wpS]
  rw [aE a4 rfl]
  simp only [wpS]
  rw [aD]
  refine wa _ fun σ5 i9=>?_
  simp only [wpS]
  have a7:=e5.seq i9
  have b6:=i9.stN a4
  have l2:=a7.n
  have e1:SlE σ5 rc qc kc 1 ((cR (D.take i)).map cW):=SlE.frm e2 a7 fun _ h=>h
  have g4:SlE σ5 rn qn kn 1 ((dG (D.take i)).map cW):=SlE.frm c6 a7 fun _ h=>h
  have e6:=a8.seq a7
  have l8:C<σ5.n:=b6.1
  clear e5 a4
  have fail:okD d=false→Wp aG ovD (T75k3 qc (cR (D.take i)).length kc qn (dG (D.take i)).length kn ⟨C,0,some 0⟩ false .normal [.bool true]) σ5 fun e vs σ'=>Wp aG ovD (T75k4 ((i:Nat):Int) e vs) σ' fun e st' σ'=>match e with
    | .normal=>∃ (rc:Nat) (qc:Option Addr) (kc rn:Nat) (qn:Option Addr) (kn:Nat),st'=[.int .i64 ((i+1:Nat):Int),.slice qc (cR (D.take (i+1))).length kc,.slice qn (dG (D.take (i+1))).length kn,.bool false]∧SlE σ' rc qc kc 1 ((cR (D.take (i+1))).map cW)∧SlE σ' rn qn kn 1 ((dG (D.take (i+1))).map cW)∧
      (qc≠none→σ1.n≤rc)∧(qn≠none→σ1.n≤rn)∧(qc≠none→qn≠none→rc≠rn)∧Frm σ1 σ' NoB∧∀ j (hj:j<D.length),j<i+1→okD D[j]=true
    |e=>Wp aG ovD (T75k12 ⟨A,0,some 0⟩ e st') σ' fun _ vs σ'=>∃ v,vs=[v]∧v=.bool (eK D)∧Frm σ σ' NoB:=by
   intro h
   simp only [wpS,T75k3]
   rw [aC,if_pos rfl]
   simp only [wpS,T75k4]
   exact no (bad h) σ5 (c7.seq e6) _ _ _ _ _ _ _
  have good:(sQ d.nm&&!eH d.nm&&decide (1≤d.cons.length)&&decide (d.cons.length≤20))=true→Wp aG ovD (T75k3 qc (cR (D.take i)).length kc qn (dG (D.take i)).length kn ⟨C,0,some 0⟩ false .normal [.bool false]) σ5 fun e vs σ'=>Wp aG ovD (T75k4 ((i:Nat):Int) e vs) σ' fun e st' σ'=>match e with
    | .normal=>∃ (rc:Nat) (qc:Option Addr) (kc rn:Nat) (qn:Option Addr) (kn:Nat),st'=[.int .i64 ((i+1:Nat):Int),.slice qc (cR (D.take (i+1))).length kc,.slice qn (dG (D.take (i+1))).length kn,.bool false]∧SlE σ' rc qc kc 1 ((cR (D.take (i+1))).map cW)∧SlE σ' rn qn kn 1 ((dG (D.take (i+1))).map cW)∧
      (qc≠none→σ1.n≤rc)∧(qn≠none→σ1.n≤rn)∧(qc≠none→qn≠none→rc≠rn)∧Frm σ1 σ' NoB∧∀ j (hj:j<D.length),j<i+1→okD D[j]=true
    |e=>Wp aG ovD (T75k12 ⟨A,0,some 0⟩ e st') σ' fun _ vs σ'=>∃ v,vs=[v]∧v=.bool (eK D)∧Frm σ σ' NoB:=by
   intro hh
   have d4:okD d=d.cons.all okC:=by unfold okD;rw [hh];try rfl
   simp only [wpS,T75k3]
   rw [aC,if_neg (by simp),aE b6 rfl]
   simp only [wpS]
   refine kJ (len:=(dG (D.take i)).length) g4 (by rw [List.length_map,Nat.mul_one]) (by decide) (by decide) rfl (by intro y hy;simp at hy;subst hy;rfl) (by omega) (by omega) fun σ6 rn6 off6 s6 kn6 f4 b7 d9=>?_
   have g8:Frm σ1 σ6 NoB:=e6.trans f4 (fun _ _ h=>h) fun j hj h=>by have:=e9 h.1;omega
   have l1:=f4.n
   have g7:SlE σ6 rc qc kc 1 ((cR (D.take i)).map cW):=SlE.frm e1 f4 fun h h2=>f9 h h2.1 h2.2
   have k6:St σ6 C [.string (mkB d.nm),.slice q d.cons.length k]:=f4.st b6 fun h=>by have:=SlE.lt c6 h.1;omega
   have d3:σ1.n≤rn6:=by
    rcases b7 with ⟨h1,rfl⟩|h
    ·exact e9 h1
    ·omega
   have f8:qc≠none→rc≠rn6:=by
    intro h
    rcases b7 with ⟨h1,rfl⟩|h1
    ·exact f9 h h1
    ·have:=SlE.lt e1 h;omega
   have l7:C≠rn6:=by
    rcases b7 with ⟨h1,rfl⟩|h1
    ·have:=SlE.lt c6 h1;omega
    ·omega
   rw [←List.map_singleton (f:=cW),←List.map_append,←tk1] at d9
   have f7:(dG (D.take i)).length+1=(dG (D.take (i+1))).length:=by rw [tk1];simp
   simp only [wpS,f7]
   have k0:∀ {j:Nat} (hj:j<d.cons.length),(d.cons.take (j+1)).map (·.nm)=(d.cons.take j).map (·.nm)++[d.cons[j].nm]:=fun {j} hj=>by
    rw [List.take_succ_eq_append_getElem hj,List.map_append]
    try rfl
   refine Wp.count d.cons.length (fun j st σ'=>∃ (rc:Nat) (qc:Option Addr) (kc:Nat),st=[.int .i64 ((j:Nat):Int),.slice qc ((cR (D.take i)).length+j) kc,.bool false]∧SlE σ' rc qc kc 1 ((cR (D.take i)++(d.cons.take j).map (·.nm)).map cW)∧SlE σ' rn6 (some ⟨rn6,off6,some s6⟩) kn6 1 ((dG (D.take (i+1))).map cW)∧St σ' C [.string (mkB d.nm),.slice q d.cons.length k]∧
     (qc≠none→σ1.n≤rc)∧(qc≠none→rc≠rn6∧rc≠C)∧Frm σ1 σ' NoB∧σ6.n≤σ'.n∧∀ m (hm:m<d.cons.length),m<j→okC d.cons[m]=true)
    ⟨rc,qc,kc,rfl,by simpa using g7,.inr ⟨off6,s6,rfl,d9⟩,k6,i0,fun h=>⟨f8 h,fun h2=>by have:=SlE.lt e2 h;omega⟩,g8,Nat.le_refl _,fun m _ h=>by omega⟩ ?_ ?_
   ·rintro j st σ7 hj ⟨rc7,qc7,kc7,rfl,a3,c5,d6,a5,a2,f3,g0,b8⟩
    have ej:aT ((j:Int)+1)=((j+1:Nat):Int):=by rw [aV (by omega)];omega
    have g9:=c7.seq f3
    have d1:=d2.later g9
    have badc:okC d.cons[j]=false→eK D=false:=fun h=>bad (by rw [d4,nL hj h])
    unfold T75b0
    simp only [wpS]
    rw [aE d6 (i:=1) (v:=.slice q d.cons.length k) rfl]
    simp only [wpS]
    rw [aC,if_pos (by simp;omega)]
    simp only [wpS]
    rw [aE d6 (i:=1) (v:=.slice q d.cons.length k) rfl]
    simp only [wpS]
    refine dI d1 hj rfl (o:=0) (by decide) fun cs a0=>?_
    obtain ⟨q1,k1,rfl,_⟩:=a0
    refine ⟨_,rfl,?_⟩
    simp only [wpS]
    rw [aD]
    refine vf _ fun σ8 e3=>?_
    simp only [wpS]
    have f0:=e3.stN d6
    have a6:=f3.seq e3
    have a9:=d2.later (c7.seq a6)
    have l0:=e3.n
    have badk:okC d.cons[j]=false→Wp aG ovD (T75k0 qc7 ((cR (D.take i)).length+j) kc7 ⟨C,0,some 0⟩ ((j:Nat):Int) false .normal [.bool true]) σ8 fun e vs σ'=>Wp aG ovD (T75k1 ((j:Nat):Int) e vs) σ' fun e st' σ'=>match e with
      | .normal=>∃ (rc:Nat) (qc:Option Addr) (kc:Nat),st'=[.int .i64 ((j+1:Nat):Int),.slice qc ((cR (D.take i)).length+(j+1)) kc,.bool false]∧SlE σ' rc qc kc 1 ((cR (D.take i)++(d.cons.take (j+1)).map (·.nm)).map cW)∧SlE σ' rn6 (some ⟨rn6,off6,some s6⟩) kn6 1 ((dG (D.take (i+1))).map cW)∧St σ' C [.string (mkB d.nm),.slice q d.cons.length k]∧
        (qc≠none→σ1.n≤rc)∧(qc≠none→rc≠rn6∧rc≠C)∧Frm σ1 σ' NoB∧σ6.n≤σ'.n∧∀ m (hm:m<d.cons.length),m<j+1→okC d.cons[m]=true
      |e=>Wp aG ovD (T75k2 (some ⟨rn6,off6,some s6⟩) (dG (D.take (i+1))).length kn6 e st') σ' fun e vs σ'=>Wp aG ovD (T75k4 ((i:Nat):Int) e vs) σ' fun e st' σ'=>match e with
       | .normal=>∃ (rc:Nat) (qc:Option Addr) (kc rn:Nat) (qn:Option Addr) (kn:Nat),st'=[.int .i64 ((i+1:Nat):Int),.slice qc (cR (D.take (i+1))).length kc,.slice qn (dG (D.take (i+1))).length kn,.bool false]∧SlE σ' rc qc kc 1 ((cR (D.take (i+1))).map cW)∧SlE σ' rn qn kn 1 ((dG (D.take (i+1))).map cW)∧
         (qc≠none→σ1.n≤rc)∧(qn≠none→σ1.n≤rn)∧(qc≠none→qn≠none→rc≠rn)∧Frm σ1 σ' NoB∧∀ j (hj:j<D.length),j<i+1→okD D[j]=true
       |e=>Wp aG ovD (T75k12 ⟨A,0,some 0⟩ e st') σ' fun _ vs σ'=>∃ v,vs=[v]∧v=.bool (eK D)∧Frm σ σ' NoB:=by
     intro h
     simp only [wpS,T75k0]
     rw [aC,if_pos rfl]
     simp only [wpS,T75k1,T75k2,T75k4]
     exact no (badc h) σ8 (c7.seq a6) _ _ _ _ _ _ _
    rw [aC]
    cases i4:qp d.cons[j].nm with
    |false=>
     rw [if_neg (by simp)]
     simp only [wpS]
     exact badk (by unfold okC;rw [i4];rfl)
    |true=>
    rw [if_pos (by rfl),aE f0 (i:=1) (v:=.slice q d.cons.length k) rfl]
    simp only [wpS]
    refine dI a9 hj rfl (o:=1) (by decide) fun cs a0=>?_
    obtain ⟨q2,k2,rfl,_⟩:=a0
    refine ⟨_,rfl,?_⟩
    simp only [wpS]
    by_cases h3:d.cons[j].args.length≤3
    case neg=>
     rw [decide_eq_true (show ((d.cons[j].args.length:Nat):Int)>3 by omega)]
     exact badk (by unfold okC;rw [decide_eq_false h3,Bool.and_false])
    rw [decide_eq_false (show ¬ ((d.cons[j].args.length:Nat):Int)>3 by omega)]
    simp only [wpS,T75k0]
    rw [aC,if_neg (by simp),aE f0 (i:=1) (v:=.slice q d.cons.length k) rfl]
    simp only [wpS]
    refine dI a9 hj rfl (o:=0) (by decide) fun cs a0=>?_
    obtain ⟨q3,k3,rfl,_⟩:=a0
    refine ⟨_,rfl,?_⟩
    simp only [wpS]
    have j8:(cR (D.take i)++(d.cons.take j).map (·.nm)).length=(cR (D.take i)).length+j:=by rw [List.length_append,List.length_map,List.length_take];omega
    have g6:SlE σ8 rc7 qc7 kc7 1 ((cR (D.take i)++(d.cons.take j).map (·.nm)).map cW):=SlE.frm a3 e3 fun _ h=>h
    refine kJ (len:=(cR (D.take i)).length+j) g6 (by rw [List.length_map,j8,Nat.mul_one]) (by decide) (by decide) rfl (by intro y hy;simp at hy;subst hy;rfl) (by omega) (by omega) fun σ9 rc9 off9 s9 kc9 f2 f5 e0=>?_
    simp only [wpS,T75k1,ej]
    have k9:=f2.n
    rw [←List.map_singleton (f:=cW),←List.map_append,List.append_assoc,←k0 hj] at e0
    have d8:SlE σ8 rn6 (some ⟨rn6,off6,some s6⟩) kn6 1 ((dG (D.take (i+1))).map cW):=SlE.frm c5 e3 fun _ h=>h
    have i6:σ1.n≤rc9∧rc9≠rn6∧rc9≠C:=by
     rcases f5 with ⟨h1,rfl⟩|h1
     ·exact ⟨a5 h1,a2 h1⟩
     ·have:=SlE.lt d8 (by simp)
      have:=f0.1
      have:=a6.n
      omega
    refine ⟨rc9,_,kc9,by rw [Nat.add_assoc],.inr ⟨off9,s9,rfl,e0⟩,SlE.frm d8 f2 fun _ h=>(a2 h.1).1 h.2.symm,f2.st f0 fun h=>(a2 h.1).2 h.2.symm,fun _=>i6.1,fun _=>i6.2,a6.trans f2 (fun _ _ h=>h) fun m hm h=>by have:=a5 h.1;omega,by omega,fun m hm j6=>?_⟩
    by_cases j7:m=j
    ·subst j7
     unfold okC
     rw [i4,decide_eq_true h3]
     try rfl
    ·exact b8 m hm (by omega)
   ·rintro st σ7 ⟨rc7,qc7,kc7,rfl,a3,c5,d6,a5,a2,f3,g0,b8⟩
    rw [List.take_length] at a3
    unfold T75b0
    simp only [wpS]
    rw [aE d6 (i:=1) (v:=.slice q d.cons.length k) rfl]
    simp only [wpS]
    rw [aC,if_neg (by simp)]
    simp only [wpS,T75k2,T75k4,ei]
    have j9:(cR (D.take i)).length+d.cons.length=(cR (D.take (i+1))).length:=by rw [tk2,List.length_append,List.length_map]
    rw [j9]
    rw [←tk2] at a3
    exact ⟨rc7,qc7,kc7,rn6,_,kn6,rfl,a3,c5,a5,fun _=>d3,fun h _=>(a2 h).1,f3,b0 (by rw [d4];exact wi fun m hm=>b8 m hm hm)⟩
  rw [aC]
  cases h1:sQ d.nm with
  |false=>
   rw [if_neg (by simp)]
   simp only [wpS]
   exact fail (by unfold okD;rw [h1];rfl)
  |true=>
  rw [if_pos (by rfl),aE b6 rfl]
  simp only [wpS,bS]
  rw [aC]
  by_cases b1:d.nm=[105,110,116]
  ·rw [if_neg (by simp [b1])]
   simp only [wpS]
   exact fail (by unfold okD eH;simp [b1])
  rw [if_pos (by simpa using b1),aE b6 rfl]
  simp only [wpS,bS]
  rw [aC]
  by_cases b2:d.nm=[98,111,111,108]
  ·rw [if_neg (by simp [b2])]
   simp only [wpS]
   exact fail (by unfold okD eH;simp [b2])
  rw [if_pos (by simpa using b2),aE b6 rfl]
  simp only [wpS,bS]
  rw [aC]
  by_cases b3:d.nm=[117,110,105,116]
  ·rw [if_neg (by simp [b3])]
   simp only [wpS]
   exact fail (by unfold okD eH;simp [b3])
  rw [if_pos (by simpa using b3),aE b6 rfl]
  simp only [wpS]
  rw [aC]
  by_cases b4:1≤d.cons.length
  case neg=>
   rw [if_neg (by simp;omega)]
   simp only [wpS]
   exact fail (by unfold okD;rw [decide_eq_false b4];simp)
  rw [if_pos (by simp;omega),aE b6 rfl]
  simp only [wpS]
  by_cases b5:d.cons.length≤20
  ·rw [decide_eq_false (show ¬ ((d.cons.length:Nat):Int)>20 by omega)]
   exact good (by unfold eH;simp [h1,b1,b2,b3,b4,b5])
  ·rw [decide_eq_true (show ((d.cons.length:Nat):Int)>20 by omega)]
   exact fail (by unfold okD;rw [decide_eq_false b5];simp)
 ·rintro st σ2 ⟨rc,qc,kc,rn,qn,kn,rfl,e2,c6,i0,e9,f9,a8,c4⟩
  rw [List.take_length] at e2 c6 ⊢
  have d7:=a8.stN f1
  have c8:=c7.seq a8
  have j5:=a8.n
  have j4:(dG D).length=D.length:=by unfold dG;rw [List.length_map]
  have e8:eK D=(decide (D.length≤20)&&!cP (dG D)&&!cP (cR D)&&D.all (oQ D)):=by
   rw [uV,wi fun i hi=>c4 i hi hi]
   try rfl
  unfold T75b1
  simp only [wpS]
  rw [aE d7 rfl]
  simp only [wpS]
  rw [aC,if_neg (by simp)]
  simp only [wpS,T75k12]
  rw [aE d7 rfl]
  simp only [wpS]
  have s11no:eK D=false→Wp aG ovD (T75k11 qn (dG D).length kn false ⟨A,0,some 0⟩ .normal [.bool true]) σ2 fun _ vs σ'=>∃ v,vs=[v]∧v=.bool (eK D)∧Frm σ σ' NoB:=by
   intro h
   simp only [wpS,T75k11]
   rw [aC,if_pos rfl]
   simp only [wpS]
   rw [h]
   exact ⟨_,rfl,rfl,c8⟩
  rw [aC]
  by_cases c1:D.length≤20
  case neg=>
   rw [if_neg (by simp;omega)]
   simp only [wpS]
   exact s11no (by rw [e8,decide_eq_false c1];rfl)
  rw [if_pos (by simp;omega),aD]
  refine WpF.mono (sB (gV c6) (by omega)) ?_
  rintro _ σ2a ⟨rfl,rfl⟩
  simp only [wpS]
  rw [aC]
  cases c2:cP (dG D) with
  |true=>
   rw [if_neg (by simp)]
   simp only [wpS]
   exact s11no (by rw [e8,c2];simp)
  |false=>
  rw [if_pos (by rfl),aD]
  refine WpF.mono (sB (gV e2) (by omega)) ?_
  rintro _ σ2b ⟨rfl,rfl⟩
  simp only [wpS]
  cases c3:cP (cR D) with
  |true=>exact s11no (by rw [e8,c3];simp)
  |false=>
  have d0:eK D=D.all (oQ D):=by rw [e8,c2,c3,decide_eq_true c1];try rfl
  simp only [wpS,T75k11]
  rw [aC,if_neg (by simp),aY,cT]
  have c9:=Frm.new σ2b [cW [105,110,116],cW [98,111,111,108],cW [117,110,105,116]] 1 NoB
  have i8:=Row.new σ2b 1 [cW [105,110,116],cW [98,111,111,108],cW [117,110,105,116]] 3 (by decide) rfl (by intro y hy;simp at hy;rcases hy with rfl|rfl|rfl<;>rfl)
  have g1:(σ2b.newBlk [cW [105,110,116],cW [98,111,111,108],cW [117,110,105,116]] 1).n=σ2b.n+1:=rfl
  rw [show ([(.string (bs [105,110,116])),(.string (bs [98,111,111,108])),(.string (bs [117,110,105,116]))]:List Value)=[cW [105,110,116],cW [98,111,111,108],cW [117,110,105,116]] from rfl]
  generalize σ2b.newBlk [cW [105,110,116],cW [98,111,111,108],cW [117,110,105,116]] 1=σ3 at c9 i8 g1 ⊢
  simp only [wpS]
  have g5:SlV σ3 rn qn kn ((dG D).map cW):=SlE.frm c6 c9 fun _ h=>h
  refine qz g5 (by simp) (.inr ⟨0,1,rfl,i8⟩) rfl (by omega) (by omega) fun σ4 rb qb kb e4 k8 i7=>?_
  have e7:Frm σ1 σ4 NoB:=(a8.seq c9).trans e4 (fun _ _ h=>h) fun j hj h=>by have:=e9 h.1;omega
  have a1:=c7.seq e7
  have a4:=e7.stN f1
  rw [show [cW [105,110,116],cW [98,111,111,108],cW [117,110,105,116]]=[[105,110,116],[98,111,111,108],[117,110,105,116]].map cW from rfl,←List.map_append] at i7
  have k7:=gV i7
  have i1:(dG D++[[105,110,116],[98,111,111,108],[117,110,105,116]]).length=(dG D).length+3:=by simp
  rw [←i1]
  have inn:∀ (s:List UInt8),WpF aG ovD 101 [.slice qb (dG D++[[105,110,116],[98,111,111,108],[117,110,105,116]]).length kb,.string (mkB s)] σ4 fun v σ'=>v=.bool ((dG D).contains s||eH s)∧σ'=σ4:=by
   intro s
   refine WpF.mono (wp_in77 (l:=dG D++[[105,110,116],[98,111,111,108],[117,110,105,116]]) (c:=kb) k7 (by rw [i1];omega) s) ?_
   rintro _ _ ⟨rfl,rfl⟩
   exact ⟨by rw [in_basic],rfl⟩
  have no2:eK D=false→∀ i:Int,Wp aG ovD (T75k10 .ret [.int .i64 i,.bool false]) σ4 fun _ vs σ'=>∃ v,vs=[v]∧v=.bool (eK D)∧Frm σ σ' NoB:=by
   intro h i
   simp only [wpS,T75k10]
   rw [h]
   exact ⟨_,rfl,rfl,a1⟩
  refine Wp.count D.length (fun i st σ'=>σ'=σ4∧st=[.int .i64 ((i:Nat):Int),.bool false]∧∀ j (hj:j<D.length),j<i→oQ D D[j]=true) ⟨rfl,rfl,fun j _ h=>by omega⟩ ?_ ?_
  ·rintro i st σ5 hi ⟨rfl,rfl,f6⟩
   have ei:aT ((i:Int)+1)=((i+1:Nat):Int):=by rw [aV (by omega)];omega
   have d5:=hC _ (List.getElem_mem hi)
   have g2:=hA _ (List.getElem_mem hi)
   have bad:oQ D D[i]=false→eK D=false:=fun h=>by rw [d0,nL hi h]
   unfold T75b4
   simp only [wpS]
   rw [aE a4 rfl]
   simp only [wpS]
   rw [aC,if_pos (by simp;omega)]
   simp only [wpS]
   refine Wp.count D[i].cons.length (fun j st σ'=>σ'=σ5∧st=[.int .i64 ((j:Nat):Int),.bool false]∧∀ m (hm:m<D[i].cons.length),m<j→(D[i].cons[m].args.all fun a=>(dG D).contains a||eH a)=true) ⟨rfl,rfl,fun j _ h=>by omega⟩ ?_ ?_
   ·rintro j st σ6 hj ⟨rfl,rfl,c0⟩
    have ej:aT ((j:Int)+1)=((j+1:Nat):Int):=by rw [aV (by omega)];omega
    have k5:=g2 _ (List.getElem_mem hj)
    have badc:(D[i].cons[j].args.all fun a=>(dG D).contains a||eH a)=false→eK D=false:=fun h=>bad (by unfold oQ;exact nL hj h)
    unfold T75b3
    simp only [wpS]
    rw [aE a4 rfl]
    simp only [wpS]
    refine dI (hT.later a1) hi rfl (o:=1) (by decide) fun cs a0=>?_
    obtain ⟨q1,k1,rfl,j3⟩:=a0
    refine ⟨_,rfl,?_⟩
    simp only [wpS]
    rw [aC,if_pos (by simp;omega)]
    simp only [wpS]
    rw [aE a4 rfl]
    simp only [wpS]
    refine dI (hT.later a1) hi rfl (o:=1) (by decide) fun cs a0=>?_
    obtain ⟨q2,k2,rfl,j2⟩:=a0
    refine ⟨_,rfl,?_⟩
    simp only [wpS]
    refine dI (j2.later a1) hj rfl (o:=1) (by decide) fun cs a0=>?_
    obtain ⟨q3,k3,rfl,j1,_⟩:=a0
    refine ⟨_,rfl,?_⟩
    simp only [wpS]
    refine Wp.count D[i].cons[j].args.length (fun m st σ'=>σ'=σ6∧st=[.int .i64 ((m:Nat):Int),.bool false]∧∀ a (ha:a<D[i].cons[j].args.length),a<m→((dG D).contains D[i].cons[j].args[a]||eH D[i].cons[j].args[a])=true) ⟨rfl,rfl,fun j _ h=>by omega⟩ ?_ ?_
    ·rintro m st σ7 hm ⟨rfl,rfl,b9⟩
     have em:aT ((m:Int)+1)=((m+1:Nat):Int):=by rw [aV (by omega)];omega
     unfold T75b2
     simp only [wpS]
     rw [aC,if_pos (by simp;omega)]
     simp only [wpS]
     refine dF (j1.later a1) hm rfl fun cs a0=>⟨_,a0,?_⟩
     simp only [wpS]
     rw [aD]
     refine WpF.mono (inn _) ?_
     rintro _ _ ⟨rfl,rfl⟩
     simp only [wpS]
     rw [aC]
     cases i3:((dG D).contains D[i].cons[j].args[m]||eH D[i].cons[j].args[m]) with
     |false=>
      rw [if_pos (by rfl)]
      simp only [wpS,T75k5,T75k6,T75k7,T75k8,T75k9]
      exact no2 (badc (nL hm i3)) _
     |true=>
      rw [if_neg (by simp)]
      simp only [wpS,T75k5,em]
      refine ⟨trivial,trivial,fun a ha l6=>?_⟩
      by_cases h2:a=m
      ·subst h2;exact i3
      ·exact b9 a ha (by omega)
    ·rintro st σ7 ⟨rfl,rfl,b9⟩
     unfold T75b2
     simp only [wpS]
     rw [aC,if_neg (by simp)]
     simp only [wpS,T75k6,T75k7,ej]
     refine ⟨trivial,trivial,fun m hm j6=>?_⟩
     by_cases h2:m=j
     ·subst h2
      exact wi fun a ha=>b9 a ha ha
     ·exact c0 m hm (by omega)
   ·rintro st σ6 ⟨rfl,rfl,c0⟩
    unfold T75b3
    simp only [wpS]
    rw [aE a4 rfl]
    simp only [wpS]
    refine dI (hT.later a1) hi rfl (o:=1) (by decide) fun cs a0=>?_
    obtain ⟨q1,k1,rfl,j3⟩:=a0
    refine ⟨_,rfl,?_⟩
    simp only [wpS]
    rw [aC,if_neg (by simp)]
    simp only [wpS,T75k8,T75k9,ei]
    refine ⟨trivial,trivial,fun j hj i2=>?_⟩
    by_cases h2:j=i
    ·subst h2
     unfold oQ
     exact wi fun m hm=>c0 m hm hm
    ·exact f6 j hj (by omega)
  ·rintro st σ5 ⟨rfl,rfl,f6⟩
   unfold T75b4
   simp only [wpS]
   rw [aE a4 rfl]
   simp only [wpS]
   rw [aC,if_neg (by simp)]
   simp only [wpS,T75k10]
   rw [d0,wi fun i hi=>f6 i hi hi]
   exact ⟨_,rfl,rfl,a1⟩
end
end Go.Pg
namespace Go.Pg
open Go.Proofs Go.Utf8 Go.Lib
set_option linter.unusedSimpArgs false
section
variable {ws:List Wd} {e:Nat}
theorem vb:∀ (n:Nat) (l:List (List UInt8)) (r:Rs) (x),pK ws e n l r=some x→x.1.length≤l.length+n
 |0,_,_,_,h=>by cases h
 |n+1,l,r,x,h=>by
  rw [pK] at h
  split at h
  ·have:=vb n _ _ _ h
   rw [List.length_append,List.length_singleton] at this
   omega
  ·have hx:=ofS h
   subst hx
   simp only
   omega
theorem vk:∀ (n:Nat) (l:List Cn) (more:Bool) (r:Rs) (x),pN ws e n l more r=some x→x.1.length≤l.length+n∧∀ c∈x.1,c∈l∨c.args.length≤n+1
 |0,_,_,_,_,h=>by cases h
 |n+1,l,more,r,x,h=>by
  rw [pN] at h
  split at h
  ·obtain ⟨a,h1,h⟩:=aU h
   obtain ⟨h2,h3⟩:=vk n _ _ _ _ h
   rw [List.length_append,List.length_singleton] at h2
   have h4:a.1.length≤n+1:=by
    split at h1
    ·have:=vb n _ _ _ h1
     rw [List.length_singleton] at this
     omega
    ·have hx:=ofS h1
     subst hx
     simp
   refine ⟨by omega,fun c hc=>?_⟩
   rcases h3 c hc with h3|h3
   ·rcases List.mem_append.1 h3 with h3|h3
    ·exact .inl h3
    ·rw [List.mem_singleton.1 h3]
     exact .inr (by show a.1.length≤_;omega)
   ·exact .inr (by omega)
  ·have hx:=ofS h
   subst hx
   exact ⟨by simp only;omega,fun c hc=>.inl hc⟩
theorem xe:∀ (n:Nat) (l:List Dc) (r:Rs) (x),iY ws e n l r=some x→x.1.length≤l.length+n∧∀ d∈x.1,d∈l∨(d.cons.length≤n∧∀ c∈d.cons,c.args.length≤n+1)
 |0,_,_,_,h=>by cases h
 |n+1,l,r,x,h=>by
  rw [iY] at h
  split at h
  ·obtain ⟨a,h1,h⟩:=aU h
   obtain ⟨h2,h3⟩:=xe n _ _ _ h
   obtain ⟨h4,h5⟩:=vk _ _ _ _ _ h1
   rw [List.length_append,List.length_singleton] at h2
   refine ⟨by omega,fun d hd=>?_⟩
   rcases h3 d hd with h3|h3
   ·rcases List.mem_append.1 h3 with h3|h3
    ·exact .inl h3
    ·rw [List.mem_singleton.1 h3]
     refine .inr ⟨by show a.1.length≤_;simp at h4;omega,fun c hc=>?_⟩
     rcases h5 c hc with h5|h5
     ·cases h5
     ·omega
   ·exact .inr ⟨by omega,fun c hc=>by have:=h3.2 c hc;omega⟩
  ·have hx:=ofS h
   subst hx
   exact ⟨by simp only;omega,fun d hd=>.inl hd⟩
theorem yY (k:Nat):∀ (D:List Dc),(∀ d∈D,d.cons.length≤k)→(cR D).length≤D.length*k
 |[],_=>by simp [cR]
 |d::D,h=>by
  have h1:=h d (by simp)
  have h2:=yY k D fun x hx=>h x (by simp [hx])
  have e1:cR (d::D)=d.cons.map (·.nm)++cR D:=rfl
  rw [e1,List.length_append,List.length_map,List.length_cons,Nat.add_mul]
  omega
mutual
theorem flT_kids (p:Nat):∀ t:Tm,∀ v∈flT p t,v.kids.length≤szT t
 | .mk x l=>by
  intro v hv
  rw [flT] at hv
  rw [szT]
  rcases List.mem_cons.1 hv with rfl|hv
  ·have:=ut l
   simp only [nZ]
   omega
  ·have:=flL_kids (p+1) l v hv
   omega
theorem flL_kids (p:Nat):∀ l:List Tm,∀ v∈flL p l,v.kids.length≤szL l
 |[]=>by
  intro v hv
  cases hv
 |t::l=>by
  intro v hv
  rw [flL] at hv
  rw [szL]
  rcases List.mem_append.1 hv with hv|hv
  ·have:=flT_kids p t v hv
   omega
  ·have:=flL_kids (p+szT t) l v hv
   omega
end
theorem vt {S:List UInt8}:∀ {a:Nat} {ws:List Wd},chain S a ws→∀ w∈ws,w.t.length≤S.length
 |_,[],_,w,hw=>by cases hw
 |_,x::r,⟨_,h2,_,h4,_,_,h7⟩,w,hw=>by
  rcases List.mem_cons.1 hw with rfl|hw
  ·omega
  ·exact vt h7 w hw
end
section
variable {σ σ':aB} {N:List NV} {D:List Dc} {Y:Nat→Prop} {pn pd:Option Addr} {cn cd:Nat}
theorem wp_Good27 (hK:∀ v∈N,v.kids.length≤1000000) (hD:D.length≤1000000) (hC:∀ d∈D,d.cons.length≤1000000) (hA:∀ d∈D,∀ c∈d.cons,c.args.length≤1000000) (a6:(cR D).length≤100000000) (hT:dK σ Y pn N pd D):
  WpF aG ovD 46 [trV pn N.length cn pd D.length cd] σ fun v σ'=>v=.bool (oG N D)∧Frm σ σ' NoB:=by
 refine WpF.of (T46_eq _ _ _ _ _ _) rfl ?_
 rw [T46]
 refine aP fun σ1 a2 a9 a1=>?_
 generalize σ.n=A at a1
 have fin:∀ (b:Bool) (τ:aB),Frm σ τ NoB→b=oG N D→Wp aG ovD (T46k0 .normal [.bool b]) τ fun _ vs σ'=>∃ v,vs=[v]∧v=.bool (oG N D)∧Frm σ σ' NoB:=by
  rintro b τ hτ rfl
  simp only [wpS,T46k0]
  exact ⟨_,rfl,rfl,hτ⟩
 simp only [wpS]
 rw [aE a1 rfl]
 simp only [wpS]
 rw [aC]
 by_cases c1:1≤N.length
 case neg=>
  rw [if_neg (by simp;omega)]
  simp only [wpS]
  exact fin _ σ1 a2 (by unfold oG;rw [decide_eq_false c1];rfl)
 rw [if_pos (by simp;omega),aE a1 rfl]
 simp only [wpS]
 rw [aC]
 by_cases c2:N.length≤1000
 case neg=>
  rw [if_neg (by simp;omega)]
  simp only [wpS]
  exact fin _ σ1 a2 (by unfold oG;rw [decide_eq_false c2];simp)
 rw [if_pos (by simp;omega),aS a1 2 rfl]
 simp only [wpS]
 rw [aD]
 refine WpF.mono (wp_types47 (hT.frm a2).decls hD hC hA a6) ?_
 rintro _ σ2 ⟨rfl,a5⟩
 simp only [wpS]
 have a0:=a2.seq a5
 have a3:=a5.stN a1
 rw [aC]
 cases c3:eK D with
 |false=>
  rw [if_neg (by simp)]
  simp only [wpS]
  exact fin _ σ2 a0 (by unfold oG;rw [c3];simp)
 |true=>
 rw [if_pos (by rfl),aS a3 2 rfl]
 simp only [wpS]
 rw [bK,aD]
 have hw:=wp_walk48 (cn:=cn) (cd:=cd) c2 hK hD hC 60 0 false σ2 (Nat.le_refl _) (by omega) (hT.frm a0)
 refine WpF.mono hw ?_
 rintro _ σ3 ⟨rfl,a4⟩
 simp only [wpS]
 have a7:=a4.stN a3
 rw [aE a7 rfl,aQ]
 refine ⟨past_ok (a3.ldF rfl),?_⟩
 simp only [wpS]
 refine fin _ σ3 (a0.seq a4) ?_
 unfold oG
 rw [c3,decide_eq_true c1,decide_eq_true c2]
 simp only [Bool.true_and]
 cases a8:bZ N D 60 0 false with
 |none=>
  rw [decide_eq_false (by simp),beq_eq_false_iff_ne]
  show (-1:Int)≠_
  omega
 |some e=>
  by_cases he:e=N.length
  ·rw [he,decide_eq_true rfl,beq_iff_eq]
   try rfl
  ·rw [decide_eq_false (fun h=>he (Option.some.inj h)),beq_eq_false_iff_ne]
   show ((e:Nat):Int)≠_
   omega
theorem wcs_rows {b off s c:Nat} {ws:List Wd} {Y:Nat→Prop} (h:Row σ b off s c 4 (wcs ws)) (hb:¬ Y b):aR σ Y 4 (fun cs w=>cs=wc w) (some ⟨b,off,some s⟩) ws:=
 aR.own (css:=ws.map wc) (by rw [show (ws.map wc).flatten=wcs ws from (List.flatMap_def).symm];exact h) hb (by simp) (by intro cs a0;obtain ⟨w,_,rfl⟩:=List.mem_map.1 a0;rfl) (fun i h1 h2=>by simp)
abbrev noTree:Value:=.agg #[.slice none 0 0,.slice none 0 0]
theorem wp_Parse25 (S:List UInt8) (hl:S.length≤4000) {Q:Value→aB→Prop}
  (c1:jR S=none→∀ e a σ',Frm σ σ' NoB→e≠0→Q (.tuple #[noTree,.int .i64 e,.int .i64 a]) σ')
  (c9:∀ N D,jR S=some (N,D)→∀ pn cn pd cd σ',Frm σ σ' NoB→dK σ' (fun j=>j<σ.n) pn N pd D→(∀ v∈N,v.kids.length≤1000000)→D.length≤1000000→(∀ d∈D,d.cons.length≤1000000)→(∀ d∈D,∀ c∈d.cons,c.args.length≤1000000)→(cR D).length≤100000000→Q (.tuple #[trV pn N.length cn pd D.length cd,.int .i64 0,.int .i64 0]) σ'):
  WpF aG ovD 29 [.string (mkB S)] σ Q:=by
 refine WpF.of (T29_eq _) rfl ?_
 rw [T29]
 refine aP fun σ1 d7 i7 d6=>?_
 generalize hA:σ.n=A at d6
 rw [aD]
 refine vz S ?_ ?_
 case refine_2=>
  intro he e a σ2 a9 h0
  have b1:jR S=none:=by
   rcases he with he|⟨x,he⟩
   ·omega
   ·unfold jR
    rw [he]
  simp only [wpS]
  rw [aC,if_pos (by simpa using h0)]
  refine bC (a9.stN d6) rfl rfl fun σ3 b8 f5 c3=>?_
  rw [aS c3 2 rfl]
  simp only [wpS]
  exact ⟨_,rfl,c1 b1 e a σ3 ((d7.seq a9).fresh b8 fun j hj h=>by omega) h0⟩
 intro ws _ a4 σ2 bw pw cw a9 g5 i8 i2
 have e0:=d7.seq a9
 have g4:=a9.stN d6
 simp only [wpS]
 rw [aC,if_neg (by simp)]
 refine aP fun σ3 b8 f5 c3=>?_
 have f6:=d7.n
 have i6:=a9.n
 generalize hB:σ2.n=B at c3
 have f9:chain S 0 ws:=(rU S _ 0 0 ws (Nat.zero_le _) (by unfold yl at a4;rw [List.drop_zero];exact a4)).1
 have hW:∀ w∈ws,w.t.length≤1000000:=fun w hw=>by have:=vt f9 w hw;omega
 have b0:aR σ3 (fun j=>j=B∨B≤j) 4 (fun cs w=>cs=wc w) pw ws:=by
  rcases g5 with ⟨rfl,_,h0⟩|⟨off,s,rfl,hR⟩
  ·have:ws=[]:=by
    have:=wcs_len ws
    rw [h0] at this
    exact List.eq_nil_of_length_eq_zero (by simp at this;omega)
   rw [this]
   exact aR.nil
  ·refine wcs_rows (b8.rowN hR) ?_
   have:=hR.lt
   omega
 have g7:Rdr σ3 B B pw cw ws S.length ⟨0,false⟩:=⟨c3,b0,by omega,by omega,hl,Nat.zero_le _⟩
 obtain ⟨d,hd⟩:=wI (ws:=ws) (e:=S.length) (ws.length+2) [] ⟨0,false⟩ (Nat.zero_le _) (by unfold left;simp)
 have f8:=zz _ _ _ _ hd
 have f7:=f8.len (Nat.zero_le _)
 obtain ⟨t,ht⟩:=parse_some (ws:=ws) (e:=S.length) ((ws.length+2)*16) .expr d.2 f7 trivial (by
  have:left ws d.2≤ws.length+1:=by unfold left;split<;>omega
  show left ws d.2*16+13<_
  omega)
 have a0:jR S=if t.2.bad=true∨t.2.p<ws.length then none else if 0≤dpT 0 1 (-1) t.1 then none else if oG (flT 0 t.1) d.1=true then some (flT 0 t.1,d.1) else none:=by
  unfold jR
  rw [a4]
  simp only
  rw [hd,Option.bind_some,ht,Option.bind_some]
 rw [aD]
 refine WpF.mono (wp_decls hd g7) ?_
 rintro _ σ4 ⟨qd,kd,rfl,f0,g6,e4⟩
 simp only [wpS]
 rw [aD]
 refine WpF.mono (wp_reader hW _ .expr d.2 t σ4 rfl trivial ht g6) ?_
 rintro _ σ5 ⟨bt,rfl,g2,c4,c8⟩
 simp only [wpS]
 have i5:=e4.n
 have i4:=c8.n
 have b7:=e4.seq c8
 have a7:Frm σ σ5 NoB:=(e0.seq b8).fresh b7 fun j hj h=>by omega
 have i1:A≠B:=by omega
 have b4:St σ5 A [.slice none 0 0,.slice none 0 0]:=b7.st (b8.stN g4) i1
 rw [aE c4.st rfl]
 simp only [wpS]
 have next:∀ b:Bool,(b=true↔t.2.bad=true∨t.2.p<ws.length)→Wp aG ovD (T29k0 ⟨B,0,some 0⟩ ⟨A,0,some 0⟩ (some ⟨bt,0,some 0⟩) qd d.1.length kd .normal [.bool b]) σ5 fun _ vs σ'=>∃ v,vs=[v]∧Q v σ':=by
  intro b hb
  simp only [wpS,T29k0]
  rw [aC]
  by_cases hc:t.2.bad=true∨t.2.p<ws.length
  ·rw [if_pos hc] at a0
   rw [if_pos (hb.2 hc),aD]
   refine WpF.mono (dX c4) ?_
   rintro _ σ6 ⟨rfl,b6⟩
   unfold wc
   simp only [wpS]
   refine bC (b6.stN b4) rfl rfl fun σ7 b5 f4 a5=>?_
   rw [aS a5 2 rfl]
   simp only [wpS]
   exact ⟨_,rfl,c1 a0 _ _ σ7 ((a7.seq b6).fresh b5 fun j hj h=>by omega) (by decide)⟩
  rw [if_neg hc] at a0
  rw [if_neg fun h=>hc (hb.1 h)]
  rw [not_or] at hc
  have d2:t.2.bad=false:=by simpa using hc.1
  have e9:=parse_size _ _ _ _ (show Pre ws .expr d.2 from trivial) ht d2
  have e8:szT t.1≤4000:=by
   have h1:=e9.2
   have h2:=c4.pl
   simp only [Fn.acc] at h1
   omega
  refine aP fun σ6 b6 i3 d4=>?_
  generalize i9:σ5.n=F at d4
  rw [aD]
  have g1:TmB σ6 (fun j=>F≤j) bt t.1:=g2.step (S:=NoB) b6 (fun _ _ h=>h.elim) fun j hj h=>by omega
  have d1:=wp_put F F (.slice none 0 0) rfl (szT t.1) t.1 (Nat.le_refl _) σ6 bt 0 [] [] none 0 (fun j=>j<σ6.n) (-1) 1 g1 (Nat.le_refl _) (fun h=>absurd rfl h) (by omega) d4 .zero (fun _ h=>h) d4.1 (by simp;omega) (by omega)
  refine WpF.mono d1 ?_
  rintro _ σ7 ⟨p7,c7,rb7,css7,rfl,a5,e3,b5,d0⟩
  simp only [wpS]
  have f4:=b5.n
  simp only [List.length_nil,Nat.zero_add,List.nil_append] at a5 e3
  have a6:Frm σ5 σ7 NoB:=b6.fresh b5 fun j hj h=>by
   rcases h with h|⟨h,_⟩
   ·omega
   ·exact h rfl
  have d9:=a7.seq a6
  have d5:=a6.stN b4
  rw [aE a5 rfl]
  simp only [wpS]
  rw [aC]
  by_cases a1:0≤dpT 0 1 (-1) t.1
  ·rw [if_pos a1] at a0
   rw [if_pos (by simpa using a1),aE a5 rfl]
   simp only [wpS]
   refine bC d5 rfl rfl fun σ8 a8 f3 b2=>?_
   rw [bK,aQ]
   refine ⟨jM ((a8.st a5 (by have:=b4.1;omega)).ldF rfl),?_⟩
   rw [aS b2 2 rfl]
   simp only [wpS]
   exact ⟨_,rfl,c1 a0 _ _ σ8 (d9.fresh a8 fun j hj h=>by omega) (by decide)⟩
  rw [if_neg a1] at a0
  rw [if_neg (by simpa using a1)]
  have j0:F≠A:=by have:=b4.1;omega
  simp only [cG]
  refine bB a5 (by simp) rfl fun σ8 a8 f3 b2=>?_
  simp only [List.set_cons_succ,List.set_cons_zero] at b2
  have a3:(flT 0 t.1).length=szT t.1:=flT_len 0 t.1
  rw [aY,show aadd ⟨F,0,some 0⟩ 0=⟨F,0,some 0⟩ from rfl,b2.ldN (off:=0) (k:=2) (by simp)]
  simp only [wpS,List.drop_zero,List.take_succ_cons,List.take_zero]
  have i0:Frm σ6 σ8 (· =F):=(b5.mono fun j _ h=>by rcases h with h|⟨h,_⟩;exact h;exact absurd rfl h).seq a8
  have a2:Frm σ5 σ8 NoB:=a6.fresh a8 fun j hj h=>by omega
  have d8:=a7.seq a2
  have f1:rb7≠F:=by
   rcases d0 with ⟨h,_⟩|h
   ·exact absurd rfl h
   ·omega
  have e2:dK σ8 (fun j=>j≤A) (some p7) (flT 0 t.1) qd d.1:=by
   constructor
   ·have g8:=GR.step (Y':=fun j=>j≤A) dE e3 a8 (fun j _ h=>by show j<σ6.n;rw [h];omega) (fun j _ h=>by show j<σ6.n;omega)
    exact g8.close dE (by decide)
   ·exact aR.step (c8.seq a2.no) (fun j _ h=>.inl h) (fun j _ h=>.inr (by omega)) (fun _ _ h=>cU _ _ _ _ _ _ _ (c8.seq a2.no) (fun j _ h=>.inl h) (fun j _ h=>.inr (by omega)) h) f0
  have hK:∀ v∈flT 0 t.1,v.kids.length≤1000000:=fun v hv=>by have:=flT_kids 0 t.1 v hv;omega
  obtain ⟨l1,l2⟩:=xe _ _ _ _ hd
  simp only [List.length_nil,Nat.zero_add] at l1
  have e5:d.1.length≤1000000:=by omega
  have e6:∀ x∈d.1,x.cons.length≤2002:=fun x hx=>by
   rcases l2 x hx with h|h
   ·cases h
   ·omega
  have e7:∀ x∈d.1,∀ c∈x.cons,c.args.length≤1000000:=fun x hx c hc=>by
   rcases l2 x hx with h|h
   ·cases h
   ·have:=h.2 c hc;omega
  have e1:(cR d.1).length≤100000000:=by
   have h1:=yY 2002 d.1 e6
   have h2:d.1.length*2002≤2002*2002:=Nat.mul_le_mul_right _ (by omega)
   omega
  have c0:∀ x∈d.1,x.cons.length≤1000000:=fun x hx=>by have:=e6 x hx;omega
  rw [←a3]
  rw [aD]
  refine WpF.mono (wp_Good27 hK e5 c0 e7 e1 e2) ?_
  rintro _ σ9 ⟨rfl,c6⟩
  simp only [wpS]
  have g3:=c6.stN b2
  have b3:=(a2.seq c6).stN b4
  have b9:=d8.seq c6
  rw [aC]
  cases hg:oG (flT 0 t.1) d.1 with
  |false=>
   rw [hg,if_neg (by simp)] at a0
   rw [if_pos (by rfl)]
   refine bC b3 rfl rfl fun σa c5 f2 d3=>?_
   rw [aS d3 2 rfl]
   simp only [wpS]
   exact ⟨_,rfl,c1 a0 _ _ σa (b9.fresh c5 fun j hj h=>by omega) (by decide)⟩
  |true=>
   rw [hg,if_pos rfl] at a0
   rw [if_neg (by simp)]
   rw [aY,g3.ldN (off:=0) (k:=2) (by simp)]
   simp only [wpS,List.drop_zero,List.take_succ_cons,List.take_zero]
   refine bC b3 rfl rfl fun σa c5 f2 d3=>?_
   rw [aS d3 2 rfl]
   simp only [wpS]
   have g9:Frm σ σa NoB:=b9.fresh c5 fun j hj h=>by omega
   have g0:dK σa (fun j=>j<σ.n) (some p7) (flT 0 t.1) qd d.1:=dK.step (e2.frm c6) c5 (fun j _ h=>by show j≤A;omega) (fun j _ h=>by show j≤A;omega)
   have hq:=c9 (flT 0 t.1) d.1 a0 (some p7) c7 qd kd σa g9 g0 hK e5 c0 e7 e1
   unfold trV at hq
   rw [a3] at hq
   exact ⟨_,rfl,hq⟩
 rw [aC]
 by_cases hb:t.2.bad=true
 ·rw [if_neg (by simp [hb])]
  simp only [wpS]
  exact next true ⟨fun _=>.inl hb,fun _=>rfl⟩
 ·rw [if_pos (by simpa using hb),aE c4.st rfl]
  simp only [wpS]
  refine next _ ?_
  rw [decide_eq_true_eq]
  constructor
  ·intro h
   exact .inr (by omega)
  ·rintro (h|h)
   ·exact absurd h hb
   ·omega
end
end Go.Pg
namespace Go.Pg
open Go.Proofs Go.Utf8 Go.Lib
set_option linter.unusedSimpArgs false
section
variable {σ:aB} {Y:Nat→Prop} {N:List NV} {D:List Dc} {pn pd:Option Addr} {n cn cd A:Nat}
theorem wp_Of30 (h:aR σ Y 2 (dcR σ Y) pd D) (hD:D.length≤1000000) (hC:∀ d∈D,d.cons.length≤1000000) (s:List UInt8):
  WpF aG ovD 111 [trV pn n cn pd D.length cd,.string (mkB s)] σ fun v σ'=>v=ofV (ofD s 0 D)∧Frm σ σ' NoB:=by
 refine WpF.of (T111_eq _ _ _ _ _ _ _) rfl ?_
 rw [T111]
 refine aP fun σ1 c1 c7 b2=>?_
 generalize σ.n=A at b2
 rw [aE b2 (v:=.slice pd D.length cd) rfl]
 simp only [wpS]
 refine Wp.count D.length (fun j st σ'=>Frm σ σ' NoB∧st=[.int .i64 ((j:Nat):Int),.bool false,.int .i64 0,.int .i64 0]∧∀ i (hi:i<D.length),i<j→ofC s 0 D[i].cons=none) ⟨c1,rfl,fun i _ h=>by omega⟩ ?_ ?_
 ·rintro j st σ2 hj ⟨a8,rfl,a0⟩
  have ej:aT ((j:Int)+1)=((j+1:Nat):Int):=by rw [aV (by omega)];omega
  have d0:=hC _ (List.getElem_mem hj)
  have h2:=h.frmM cU a8
  unfold T111b1
  simp only [wpS]
  rw [aC,if_pos (by simp;omega),aI]
  refine dM h2 hj rfl fun cs b1=>?_
  obtain ⟨q,k,rfl,a9⟩:=b1
  simp only [wpS]
  refine aP fun σ3 c0 c6 b6=>?_
  refine bC b6 rfl rfl fun σ4 b9 c5 b5=>?_
  have a5:Frm σ2 σ4 NoB:=c0.fresh b9 fun j hj h=>by omega
  have a6:=a8.seq a5
  rw [aE b5 (v:=.slice q D[j].cons.length k) rfl]
  simp only [wpS]
  have a2:=a9.frmM eB a5
  refine Wp.count D[j].cons.length (fun m st σ'=>Frm σ4 σ' NoB∧st=[.int .i64 ((m:Nat):Int),.bool false,.int .i64 0,.int .i64 0]∧∀ k (hk:k<D[j].cons.length),k<m→D[j].cons[k].nm≠s) ⟨Frm.refl _ _,rfl,fun k _ h=>by omega⟩ ?_ ?_
  ·rintro m st σ5 hm ⟨a4,rfl,a7⟩
   have em:aT ((m:Int)+1)=((m+1:Nat):Int):=by rw [aV (by omega)];omega
   have a1:=a2.frmM eB a4
   unfold T111b0
   simp only [wpS]
   rw [aC,if_pos (by simp;omega),aI]
   refine dM a1 hm rfl fun cs b1=>?_
   obtain ⟨q2,k2,rfl,_,_⟩:=b1
   simp only [wpS]
   refine aP fun σ6 b8 c4 b4=>?_
   refine bC b4 rfl rfl fun σ7 b7 c3 b3=>?_
   have a3:Frm σ5 σ7 NoB:=b8.fresh b7 fun j hj h=>by omega
   rw [aE b3 (v:=.string (mkB D[j].cons[m].nm)) rfl]
   simp only [wpS,fD]
   rw [aC]
   by_cases he:D[j].cons[m].nm=s
   ·rw [if_pos (by simpa using he)]
    simp only [wpS,T111k0,T111k1,T111k2,T111k3]
    have hc:=ofC_at s D[j].cons 0 m hm (fun i hi=>a7 i (by omega) hi) he
    rw [ofD_at s D 0 j hj (fun i hi=>a0 i (by omega) hi) _ hc,sR]
    simp only [Nat.zero_add]
    exact ⟨_,rfl,rfl,(a6.seq a4).seq a3⟩
   ·rw [if_neg (by simpa using he)]
    simp only [wpS,T111k0,em]
    refine ⟨a4.seq a3,trivial,fun k hk c8=>?_⟩
    by_cases b0:k=m
    ·subst b0;exact he
    ·exact a7 k hk (by omega)
  ·rintro st σ5 ⟨a4,rfl,a7⟩
   unfold T111b0
   simp only [wpS]
   rw [aC,if_neg (by simp)]
   simp only [wpS,T111k1,T111k2,ej]
   refine ⟨a6.seq a4,trivial,fun i hi c9=>?_⟩
   by_cases h2:i=j
   ·subst h2
    exact ofC_no s _ 0 fun k hk=>a7 k hk hk
   ·exact a0 i hi (by omega)
 ·rintro st σ2 ⟨a8,rfl,a0⟩
  unfold T111b1
  simp only [wpS]
  rw [aC,if_neg (by simp)]
  simp only [wpS,T111k3]
  rw [ofD_no s D 0 fun i hi=>a0 i hi hi,yF]
  exact ⟨_,rfl,rfl,a8⟩
structure Ask (σ:aB) (A:Nat) (pn:Option Addr) (N:List NV) (cn:Nat) (pd:Option Addr) (D:List Dc) (cd:Nat) (steps:Nat):Prop where
 st:St σ A [.slice pn N.length cn,.slice pd D.length cd,.int .i64 ((steps:Nat):Int)]
 tree:dK σ (· =A) pn N pd D
 nl:N.length≤1000000
 dl:D.length≤1000000
 cl:∀ d∈D,d.cons.length≤1000000
 kl:∀ v∈N,v.kids.length≤1000000
 al:∀ d∈D,∀ c∈d.cons,c.args.length≤1000000
variable {steps:Nat}
theorem Ask.frm {σ':aB} (h:Ask σ A pn N cn pd D cd steps) (f:Frm σ σ' NoB):Ask σ' A pn N cn pd D cd steps:=⟨f.stN h.st,h.tree.frm f,h.nl,h.dl,h.cl,h.kl,h.al⟩
theorem tY (i:Int):WpF aG ovD 49 [.int .i64 i] σ fun v σ'=>v=.bool (decide (21≤i∧i≤26))∧σ'=σ:=by
 refine WpF.of (T49_eq _) rfl ?_
 rw [T49]
 simp only [wpS]
 refine ⟨_,rfl,?_,trivial⟩
 congr 1
 by_cases h1:21≤i<;>by_cases h2:i≤26<;>simp [h1,h2]
theorem Ask.bump {σ σ':aB} {n n':Nat} (h:Ask σ A pn N cn pd D cd n) (f:Frm σ σ' (· =A)) (hS:St σ' A [.slice pn N.length cn,.slice pd D.length cd,.int .i64 ((n':Nat):Int)]):Ask σ' A pn N cn pd D cd n':=
 ⟨hS,h.tree.step (Y':=(· =A)) f (fun _ _ h=>h) fun _ _ h=>h,h.nl,h.dl,h.cl,h.kl,h.al⟩
end
theorem wp_mkMap {P:Program} {ov:Ov} {σ:aB} {g:Option Nat→Pg} {Q:cN} (k:∀ σ',Frm σ σ' NoB→σ'.n=σ.n+1→σ'.get σ.n=some (.map [])→Wp P ov (g (some σ.n)) σ' Q):Wp P ov (.act eU fun v=>vi v g) σ Q:=by
 rw [aY,show eU σ=some (.map (some σ.n),σ.push (.map [])) from rfl]
 simp only [asMap_map]
 refine k _ ⟨by simp [aB.push],rfl,fun _ hj _=>oX σ _ hj,fun f j hj=>by
  simp only [aB.push] at hj
  rw [aB.get_push,if_neg (by omega)]
  exact f j (by omega)⟩ rfl (by rw [aB.get_push,if_pos rfl])
section
variable {σ σ':aB} {Y:Nat→Prop} {N:List NV} {D:List Dc} {pn pd:Option Addr}
structure lR (σ:aB) (Y:Nat→Prop) (pn:Option Addr) (N:List NV) (pd:Option Addr) (D:List Dc):Prop where
 tree:dK σ Y pn N pd D
 nl:N.length≤1000000
 dl:D.length≤1000000
 cl:∀ d∈D,d.cons.length≤1000000
 kl:∀ v∈N,v.kids.length≤1000000
 al:∀ d∈D,∀ c∈d.cons,c.args.length≤1000000
theorem lR.step {S Y':Nat→Prop} (h:lR σ Y pn N pd D) (f:Frm σ σ' S) (hS:∀ j,j<σ.n→S j→Y j) (hY:∀ j,j<σ.n→Y' j→Y j):lR σ' Y' pn N pd D:=⟨h.tree.step f hS hY,h.nl,h.dl,h.cl,h.kl,h.al⟩
theorem lR.frm (h:lR σ Y pn N pd D) (f:Frm σ σ' NoB):lR σ' Y pn N pd D:=⟨h.tree.frm f,h.nl,h.dl,h.cl,h.kl,h.al⟩
end
theorem lR.low {σ:aB} {Y:Nat→Prop} {pn pd:Option Addr} {N:List NV} {D:List Dc} (h:lR σ Y pn N pd D):lR σ NoB pn N pd D:=h.step (S:=NoB) (Frm.refl _ _) (fun _ _ h=>h.elim) fun _ _ h=>h.elim
section
variable {σ:aB} {Y:Nat→Prop}
theorem keepN {β:Type} {c:Nat} {R:List Value→β→Prop} {p:Option Addr} {ts:List β} (h:aR σ Y c R p ts) {i:Nat} (hi:i<ts.length):∃ x cs,p=some x∧R cs ts[i]∧∀ τ,Frm σ τ NoB→Go.Pg.ldN c (aadd x (i*c)) τ=some (.agg cs.toArray,τ):=by
 obtain ⟨x,cs,rfl,h1,h2,h3⟩:=h i hi
 refine ⟨x,cs,rfl,h3,fun τ f=>?_⟩
 unfold Go.Pg.ldN
 rw [gN f h1 fun _ _ h=>h.elim,h2]
theorem jN {a:Act} {v:Value} {l:List (Act × Value)} (h:a σ=some (v,σ)) (hl:chks l σ=true):chks ((a,v)::l) σ=true:=by
 unfold chks pJ
 rw [h,hl]
 simp [lG]
end
section
variable {N:List NV} {D:List Dc}
theorem kidsW_at {q:Nat→Bool→Option Nat} {R:Nat→Nat→Prop} (hq:∀ p b e,q p b=some e→p<e∧∀ i,p≤i→i<e→R i e) (hR:∀ i a b,R i a→a≤b→R i b) (pat:Nat→Bool):
  ∀ (l:List Nat) (i next e:Nat),gI q pat l i next=some e→next≤e∧∀ j,next≤j→j<e→R j e
 |[],i,next,e,h=>by
  cases ofS h
  exact ⟨Nat.le_refl _,fun j h1 h2=>by omega⟩
 |k::l,i,next,e,h=>by
  rw [gI] at h
  split at h
  ·rename_i hk
   subst hk
   obtain ⟨a,h1,h⟩:=aU h
   obtain ⟨p1,p2⟩:=hq _ _ _ h1
   obtain ⟨q1,q2⟩:=kidsW_at hq hR pat l (i+1) a e h
   refine ⟨by omega,fun j h3 h4=>?_⟩
   by_cases h5:j<a
   ·exact hR _ _ _ (p2 j h3 h5) q1
   ·exact q2 j (by omega) h4
  ·cases h
theorem walk_at:∀ (n p:Nat) (pat:Bool) (e:Nat),bZ N D n p pat=some e→p<e∧∀ i,p≤i→i<e→∃ m b e',e'≤e∧bZ N D m i b=some e'
 |0,_,_,_,h=>by cases h
 |n+1,p,pat,e,h=>by
  have h0:=h
  rw [bZ] at h
  split at h
  ·cases h
  ·rename_i v hv
   split at h
   ·rename_i hs
    obtain ⟨a,h1,h⟩:=aU h
    split at h
    ·cases h
    ·have hx:=ofS h
     subst hx
     obtain ⟨q1,q2⟩:=kidsW_at (R:=fun i e=>∃ m b e',e'≤e∧bZ N D m i b=some e') (walk_at n) (fun i a b ⟨m,c,e',h1,h2⟩ h3=>⟨m,c,e',by omega,h2⟩) _ _ _ _ _ h1
     refine ⟨by omega,fun i h2 h3=>?_⟩
     by_cases h4:i=p
     ·subst h4
      exact ⟨n+1,pat,_,Nat.le_refl _,h0⟩
     ·exact q2 i (by omega) h3
   ·cases h
end
end Go.Pg
namespace Go.Pg
open Go.Proofs Go.Utf8 Go.Lib
set_option linter.unusedSimpArgs false
def vC (v:Vl) (q:Option Addr) (c:Nat) (p:Option Addr):List Value:=[.int .i64 v.k,.int .i64 v.n,.string (mkB v.nm),.slice q v.args.length c,.int .i64 v.node,.pointer p,.int .i64 v.at_]
section
variable (σ:aB) (Y:Nat→Prop)
mutual
def VlR:Vl→List Value→Prop
 | .mk k n nm l d e a,cs=>∃ q c p,cs=vC (.mk k n nm l d e a) q c p∧VsR q 0 l∧Emp σ Y q∧EnR e p
def VsR (q:Option Addr) (i:Nat):List Vl→Prop
 |[]=>True
 |v::l=>(∃ x cs,q=some x∧Vis σ Y x∧σ.rdN (aadd x (i*7)) 7=some cs∧VlR v cs)∧VsR q (i+1) l
def EnR:En→Option Addr→Prop
 | .nil,p=>p=none
 | .cons nm v u,p=>∃ x cs pu,p=some x∧Vis σ Y x∧σ.rdN x 9=some (.string (mkB nm)::(cs++[.pointer pu]))∧VlR v cs∧EnR u pu
end
def vlR (σ:aB) (Y:Nat→Prop) (cs:List Value) (v:Vl):Prop:=VlR σ Y v cs
structure VlP (v:Vl) (q p:Option Addr):Prop where
 row:aR σ Y 7 (vlR σ Y) q v.args
 emp:Emp σ Y q
 env:EnR σ Y v.env p
def LkR:List (Int × Int)→Option Addr→Prop
 |[],p=>p=none
 |c::r,p=>∃ x pu,p=some x∧Vis σ Y x∧σ.rdN x 4=some [.int .i64 c.1,.int .i64 c.2,.pointer pu,.int .i64 ((r.length+1:Nat):Int)]∧LkR r pu
def atI:Option Nat→Int
 |none=> -1
 |some i=>((i:Nat):Int)
def WtR:List Wt→Option Addr→Prop
 |[],p=>p=none
 |w::r,p=>∃ x pe q c pc pu,p=some x∧Vis σ Y x∧σ.rdN x 5=some [.int .i64 (atI w.at_),.pointer pe,.slice q w.vals.length c,.pointer pc,.pointer pu]∧EnR σ Y w.env pe∧aR σ Y 7 (vlR σ Y) q w.vals∧Emp σ Y q∧LkR σ Y w.calls pc∧WtR r pu
end
section
variable {σ σ':aB} {Y Y' S:Nat→Prop}
theorem VsR_row:∀ {l:List Vl} {q:Option Addr} {i:Nat},VsR σ Y q i l↔∀ j (h:j<l.length),∃ x cs,q=some x∧Vis σ Y x∧σ.rdN (aadd x ((i+j)*7)) 7=some cs∧VlR σ Y l[j] cs
 |[],q,i=>by rw [VsR];exact ⟨fun _ j h=>absurd h (Nat.not_lt_zero _),fun _=>trivial⟩
 |v::l,q,i=>by
  rw [VsR,VsR_row]
  constructor
  ·rintro ⟨h1,h2⟩ j hj
   cases j with
   |zero=>exact h1
   |succ j=>
    have:=h2 j (by simpa using hj)
    rwa [show i+1+j=i+(j+1) by omega] at this
  ·intro h
   refine ⟨h 0 (by simp),fun j hj=>?_⟩
   have:=h (j+1) (by simpa using hj)
   rwa [show i+(j+1)=i+1+j by omega] at this
theorem VsR_of {l:List Vl} {q:Option Addr}:VsR σ Y q 0 l↔aR σ Y 7 (vlR σ Y) q l:=by
 rw [VsR_row]
 simp only [Nat.zero_add]
 exact Iff.rfl
theorem dH {v:Vl} {cs:List Value}:VlR σ Y v cs↔∃ q c p,cs=vC v q c p∧VlP σ Y v q p:=by
 obtain ⟨k,n,nm,l,d,e,a⟩:=v
 rw [VlR]
 constructor
 ·rintro ⟨q,c,p,h1,h2,h3,h4⟩
  exact ⟨q,c,p,h1,VsR_of.1 h2,h3,h4⟩
 ·rintro ⟨q,c,p,h1,h2⟩
  exact ⟨q,c,p,h1,VsR_of.2 h2.row,h2.emp,h2.env⟩
theorem VlR.len {v:Vl} {cs:List Value} (h:VlR σ Y v cs):cs.length=7:=by
 obtain ⟨q,c,p,rfl,_⟩:=dH.1 h
 rfl
theorem EnR_cons {nm:List UInt8} {v:Vl} {u:En} {p:Option Addr}:EnR σ Y (.cons nm v u) p↔∃ x cs pu,p=some x∧Vis σ Y x∧σ.rdN x 9=some (.string (mkB nm)::(cs++[.pointer pu]))∧VlR σ Y v cs∧EnR σ Y u pu:=by rw [EnR]
theorem tF {p:Option Addr}:EnR σ Y .nil p↔p=none:=by rw [EnR]
mutual
theorem jL (f:Frm σ σ' S) (hS:∀ j,j<σ.n→S j→Y j) (hY:∀ j,j<σ.n→Y' j→Y j):∀ (v:Vl) (cs:List Value),VlR σ Y v cs→VlR σ' Y' v cs
 | .mk k n nm l d e a,cs,h=>by
  rw [VlR] at h ⊢
  obtain ⟨q,c,p,h1,h2,h3,h4⟩:=h
  exact ⟨q,c,p,h1,VsR_step f hS hY l q 0 h2,h3.step f hS hY,EnR_step f hS hY e p h4⟩
theorem VsR_step (f:Frm σ σ' S) (hS:∀ j,j<σ.n→S j→Y j) (hY:∀ j,j<σ.n→Y' j→Y j):∀ (l:List Vl) (q:Option Addr) (i:Nat),VsR σ Y q i l→VsR σ' Y' q i l
 |[],_,_,_=>by rw [VsR];trivial
 |v::l,q,i,h=>by
  rw [VsR] at h ⊢
  obtain ⟨⟨x,cs,h1,h2,h3,h4⟩,h5⟩:=h
  exact ⟨⟨x,cs,h1,h2.step f hY,by rw [gN f h2 hS];exact h3,jL f hS hY v cs h4⟩,VsR_step f hS hY l q (i+1) h5⟩
theorem EnR_step (f:Frm σ σ' S) (hS:∀ j,j<σ.n→S j→Y j) (hY:∀ j,j<σ.n→Y' j→Y j):∀ (e:En) (p:Option Addr),EnR σ Y e p→EnR σ' Y' e p
 | .nil,_,h=>by rw [EnR] at h ⊢;exact h
 | .cons nm v u,p,h=>by
  rw [EnR] at h ⊢
  obtain ⟨x,cs,pu,h1,h2,h3,h4,h5⟩:=h
  have:=gN (k:=0) (n:=9) f h2 hS
  rw [show aadd x 0=x from rfl] at this
  exact ⟨x,cs,pu,h1,h2.step f hY,by rw [this];exact h3,jL f hS hY v cs h4,EnR_step f hS hY u pu h5⟩
end
theorem qG {l:List Vl} {q:Option Addr} (f:Frm σ σ' S) (hS:∀ j,j<σ.n→S j→Y j) (hY:∀ j,j<σ.n→Y' j→Y j) (h:aR σ Y 7 (vlR σ Y) q l):aR σ' Y' 7 (vlR σ' Y') q l:=
 aR.step f hS hY (fun _ _ h=>jL f hS hY _ _ h) h
theorem VlP.step {v:Vl} {q p:Option Addr} (h:VlP σ Y v q p) (f:Frm σ σ' S) (hS:∀ j,j<σ.n→S j→Y j) (hY:∀ j,j<σ.n→Y' j→Y j):VlP σ' Y' v q p:=⟨qG f hS hY h.row,h.emp.step f hS hY,EnR_step f hS hY _ _ h.env⟩
theorem iQ (f:Frm σ σ' S) (hS:∀ j,j<σ.n→S j→Y j) (hY:∀ j,j<σ.n→Y' j→Y j):∀ {l:List (Int × Int)} {p:Option Addr},LkR σ Y l p→LkR σ' Y' l p
 |[],_,h=>h
 |c::r,p,⟨x,pu,h1,h2,h3,h4⟩=>by
  have:=gN (k:=0) (n:=4) f h2 hS
  rw [show aadd x 0=x from rfl] at this
  exact ⟨x,pu,h1,h2.step f hY,by rw [this];exact h3,iQ f hS hY h4⟩
theorem mR (f:Frm σ σ' S) (hS:∀ j,j<σ.n→S j→Y j) (hY:∀ j,j<σ.n→Y' j→Y j):∀ {l:List Wt} {p:Option Addr},WtR σ Y l p→WtR σ' Y' l p
 |[],_,h=>h
 |w::r,p,⟨x,pe,q,c,pc,pu,h1,h2,h3,h4,h5,h6,h7,h8⟩=>by
  have:=gN (k:=0) (n:=5) f h2 hS
  rw [show aadd x 0=x from rfl] at this
  exact ⟨x,pe,q,c,pc,pu,h1,h2.step f hY,by rw [this];exact h3,EnR_step f hS hY _ _ h4,qG f hS hY h5,h6.step f hS hY,iQ f hS hY h7,mR f hS hY h8⟩
end
section
variable {σ σ':aB} {Y:Nat→Prop} {P:Program} {ov:Ov}
def Cz (σ:aB) (Y:Nat→Prop) (x:Addr) (n:Nat) (cs:List Value):Prop:=Vis σ Y x∧σ.rdN x n=some cs∧cs.length=n
theorem Cz.step {S Y':Nat→Prop} {x:Addr} {n:Nat} {cs:List Value} (h:Cz σ Y x n cs) (f:Frm σ σ' S) (hS:∀ j,j<σ.n→S j→Y j) (hY:∀ j,j<σ.n→Y' j→Y j):Cz σ' Y' x n cs:=by
 obtain ⟨h1,h2,h3⟩:=h
 have:=gN (k:=0) (n:=n) f h1 hS
 rw [show aadd x 0=x from rfl] at this
 exact ⟨h1.step f hY,by rw [this];exact h2,h3⟩
theorem Cz.frm {x:Addr} {n:Nat} {cs:List Value} (h:Cz σ Y x n cs) (f:Frm σ σ' NoB):Cz σ' Y x n cs:=Cz.step (S:=NoB) (Y':=Y) h f (fun _ _ h=>h.elim) fun _ _ h=>h
theorem Cz.kp {x:Addr} {n i:Nat} {cs:List Value} {v:Value} (h:Cz σ Y x n cs) (hv:cs[i]?=some v):Kp σ (aadd x i) v:=by
 intro τ f
 obtain ⟨h1,h2,h3⟩:=h.frm f
 have hl:=(List.getElem?_eq_some_iff.1 hv).1
 unfold ld1
 rw [mX (o:=i) (k:=1) h2 (by omega),List.drop_eq_getElem_cons hl,List.take_succ_cons,List.take_zero,(List.getElem?_eq_some_iff.1 hv).2]
theorem Cz.ldN {x:Addr} {n i k:Nat} {cs:List Value} (h:Cz σ Y x n cs) (hk:i+k≤n):Go.Pg.ldN k (aadd x i) σ=some (.agg ((cs.drop i).take k).toArray,σ):=by
 obtain ⟨h1,h2,h3⟩:=h
 unfold Go.Pg.ldN
 rw [mX (o:=i) (k:=k) h2 (by omega)]
theorem dL {x:Addr} {n i:Nat} {cs:List Value} {v:Value} (h:Cz σ Y x n cs) (hv:cs[i]?=some v) (f:Value→Pg) (Q:cN):Wp P ov (.act (ld1 (aadd x i)) f) σ Q=Wp P ov (f v) σ Q:=oF (h.kp hv) f Q
theorem Cz.ofSt {b:Nat} {cs:List Value} (h:St σ b cs) (hY:¬ Y b):Cz σ Y ⟨b,0,some 0⟩ cs.length cs:=by
 refine ⟨.inr ⟨h.1,hY⟩,?_,rfl⟩
 unfold aB.rdN
 simp only [h.2,Nat.zero_div,List.getElem?_cons_zero]
 have:(Nat.ble 0 0&&Nat.ble (0+cs.length) cs.length)=true:=by simp
 rw [this,cond_true]
 simp
theorem qJ {b:Nat} {nm:List UInt8} {v:Vl} {u:En} {cs:List Value} {pu:Option Addr} (h:St σ b (.string (mkB nm)::(cs++[.pointer pu]))) (hY:¬ Y b) (hv:VlR σ Y v cs) (hu:EnR σ Y u pu):EnR σ Y (.cons nm v u) (some ⟨b,0,some 0⟩):=by
 have:=Cz.ofSt h hY
 have hl:=hv.len
 rw [show (Value.string (mkB nm)::(cs++[.pointer pu])).length=9 by simp [hl]] at this
 exact EnR_cons.2 ⟨_,cs,pu,rfl,this.1,this.2.1,hv,hu⟩
theorem LkR_new {b:Nat} {c:Int × Int} {r:List (Int × Int)} {pu:Option Addr} (h:St σ b [.int .i64 c.1,.int .i64 c.2,.pointer pu,.int .i64 ((r.length+1:Nat):Int)]) (hY:¬ Y b) (hr:LkR σ Y r pu):LkR σ Y (c::r) (some ⟨b,0,some 0⟩):=by
 have:=Cz.ofSt h hY
 exact ⟨_,pu,rfl,this.1,this.2.1,hr⟩
theorem qe {b:Nat} {w:Wt} {r:List Wt} {pe q pc pu:Option Addr} {c:Nat} (h:St σ b [.int .i64 (atI w.at_),.pointer pe,.slice q w.vals.length c,.pointer pc,.pointer pu]) (hY:¬ Y b) (he:EnR σ Y w.env pe) (hv:aR σ Y 7 (vlR σ Y) q w.vals) (hq:Emp σ Y q) (hc:LkR σ Y w.calls pc) (hr:WtR σ Y r pu):WtR σ Y (w::r) (some ⟨b,0,some 0⟩):=by
 have:=Cz.ofSt h hY
 exact ⟨_,pe,q,c,pc,pu,rfl,this.1,this.2.1,he,hv,hq,hc,hr⟩
end
end Go.Pg
namespace Go.Pg
section
variable {N:List NV} {c c':Nat}
mutual
theorem vOK_mono (h:c≤c'):∀ v:Vl,vOK N c v→vOK N c' v
 | .mk k n nm l d e a,hv=>by
  rw [vOK] at hv ⊢
  exact ⟨hv.1,fun hk=>⟨(hv.2.1 hk).1,by have:=(hv.2.1 hk).2;omega⟩,lOK_mono h l hv.2.2.1,eOK_mono h e hv.2.2.2⟩
theorem lOK_mono (h:c≤c'):∀ l:List Vl,lOK N c l→lOK N c' l
 |[],_=>by rw [lOK];trivial
 |v::l,hv=>by
  rw [lOK] at hv ⊢
  exact ⟨vOK_mono h v hv.1,lOK_mono h l hv.2⟩
theorem eOK_mono (h:c≤c'):∀ e:En,eOK N c e→eOK N c' e
 | .nil,_=>by rw [eOK];trivial
 | .cons nm v u,hv=>by
  rw [eOK] at hv ⊢
  exact ⟨vOK_mono h v hv.1,eOK_mono h u hv.2⟩
end
theorem mE:∀ {l:List Vl},lOK N c l↔∀ v∈l,vOK N c v
 |[]=>by rw [lOK];simp
 |v::l=>by rw [lOK,mE];simp
theorem lW {nm:List UInt8} {v:Vl} {u:En}:eOK N c (.cons nm v u)↔vOK N c v∧eOK N c u:=by rw [eOK]
theorem xK:eOK N c .nil:=by rw [eOK];trivial
theorem sE {k n:Int} {nm:List UInt8} {l:List Vl} {d:Int} {e:En} {a:Int}:vOK N c (.mk k n nm l d e a)↔(k=5→zm N d)∧(k=6→0≤a∧a<(c:Int))∧lOK N c l∧eOK N c e:=by rw [vOK]
theorem nA {k n:Int} {nm:List UInt8} {l:List Vl} (h5:k≠5) (h6:k≠6) (hl:lOK N c l):vOK N c (.mk k n nm l 0 .nil 0):=by
 rw [sE]
 exact ⟨fun h=>absurd h h5,fun h=>absurd h h6,hl,xK⟩
theorem iS:lOK N c []:=by rw [lOK];trivial
theorem vK {n:Int}:vOK N c (bN n):=nA (by decide) (by decide) iS
theorem xP {n:Int}:vOK N c (boolV n):=nA (by decide) (by decide) iS
theorem xV:vOK N c nH:=nA (by decide) (by decide) iS
theorem ok_zero:vOK N c cA:=nA (by decide) (by decide) iS
theorem ok_con {nm:List UInt8} {l:List Vl} (h:lOK N c l):vOK N c (conV nm l):=nA (by decide) (by decide) h
theorem ok_fun {i:Nat} {e:En} (h:zm N ((i:Nat):Int)) (he:eOK N c e):vOK N c (kL i e):=by
 unfold kL
 rw [sE]
 exact ⟨fun _=>h,fun h=>absurd h (by decide),iS,he⟩
theorem ok_cell {a:Nat} (h:a<c):vOK N c (cellV a):=by
 unfold cellV
 rw [sE]
 exact ⟨fun h=>absurd h (by decide),fun _=>⟨by omega,by omega⟩,iS,xK⟩
theorem vOK_args {v:Vl} (h:vOK N c v):lOK N c v.args:=by cases v;rw [sE] at h;exact h.2.2.1
theorem vOK_env {v:Vl} (h:vOK N c v):eOK N c v.env:=by cases v;rw [sE] at h;exact h.2.2.2
theorem vOK_fun {v:Vl} (h:vOK N c v) (hk:v.k=5):zm N v.node:=by cases v;rw [sE] at h;exact h.1 hk
theorem vOK_cell {v:Vl} (h:vOK N c v) (hk:v.k=6):0≤v.at_∧v.at_<(c:Int):=by cases v;rw [sE] at h;exact h.2.1 hk
theorem ue {s:List UInt8}:∀ {e:En} {v:Vl},eOK N c e→rE s e=some v→vOK N c v
 | .nil,_,_,h=>by cases h
 | .cons nm w u,v,he,h=>by
  rw [lW] at he
  rw [rE] at h
  split at h
  ·cases h;exact he.1
  ·exact ue he.2 h
theorem op_ok {s:List UInt8} {a b:Int} {v:Vl} (h:opV s a b=some v):vOK N c v:=by
 unfold opV at h
 split at h
 ·cases h;exact vK
 split at h
 ·cases h;exact vK
 split at h
 ·cases h;exact vK
 split at h
 ·cases h;exact xP
 split at h
 ·cases h;exact xP
 ·cases h
mutual
theorem meets_ok:∀ (f i:Nat) (v:Vl) (e e':En),vOK N c v→eOK N c e→nP N f i v e=some e'→eOK N c e'
 |0,_,_,_,_,_,_,h=>by rw [nP] at h;cases h
 |f+1,i,v,e,e',hv,he,h=>by
  rw [nP] at h
  split at h
  ·cases h;exact he
  split at h
  ·cases h;rw [lW];exact ⟨hv,he⟩
  split at h
  ·split at h
   ·cases h;exact he
   ·cases h
  split at h
  ·split at h
   ·cases h;exact he
   ·cases h
  split at h
  ·split at h
   ·cases h;exact he
   ·cases h
  split at h
  ·cases h
  ·exact meetsL_ok f _ _ e e' (vOK_args hv) he h
theorem meetsL_ok:∀ (f:Nat) (l:List Nat) (r:List Vl) (e e':En),lOK N c r→eOK N c e→meetsL N f l r e=some e'→eOK N c e'
 |f,[],_,e,e',_,he,h=>by
  rw [meetsL] at h
  ·cases h;exact he
  ·intro i l v r h;cases h
 |f,i::l,[],e,e',_,he,h=>by
  rw [meetsL] at h
  ·cases h;exact he
  ·intro i l v r _ h;cases h
 |f,i::l,v::r,e,e',hr,he,h=>by
  rw [lOK] at hr
  rw [meetsL] at h
  split at h
  ·rename_i e1 h1
   exact meetsL_ok f l r e1 e' hr.2 (meets_ok f i v e e1 hr.1 he h1) h
  ·cases h
end
theorem arms_ok {v:Vl} {e:En} (hv:vOK N c v) (he:eOK N c e):∀ {l:List Nat} {b:Nat} {e':En},vS N v e l=some (b,e')→eOK N c e'∧∃ j,∃ h:j<l.length,j % 2=1∧l[j]=b
 |[],_,_,h=>by cases h
 |[_],_,_,h=>by cases h
 |p::q::r,b,e',h=>by
  rw [vS] at h
  split at h
  ·rename_i e1 h1
   cases h
   exact ⟨meets_ok _ _ _ _ _ hv he h1,1,by simp,rfl,rfl⟩
  ·obtain ⟨h1,j,h2,h3,h4⟩:=arms_ok hv he h
   exact ⟨h1,j+2,by simpa using h2,by omega,by simpa using h4⟩
theorem try_ok:∀ {l:List Wt} {i:Nat} {w:Wt} {r:List Wt},zO N l=some (i,w,r)→w∈l∧w.at_=some i∧(cZ N i).x.k=20∧∀ x∈r,x∈l
 |[],_,_,_,h=>by cases h
 |x::l,i,w,r,h=>by
  rw [zO] at h
  have go:zO N l=some (i,w,r)→w∈x::l∧w.at_=some i∧(cZ N i).x.k=20∧∀ y∈r,y∈x::l:=fun h=>by
   obtain ⟨h1,h2,h3,h4⟩:=try_ok h
   exact ⟨by simp [h1],h2,h3,fun y hy=>by simp [h4 y hy]⟩
  split at h
  ·rename_i j hj
   split at h
   ·rename_i hk
    simp only [Option.some.injEq,Prod.mk.injEq] at h
    obtain ⟨rfl,rfl,rfl⟩:=h
    exact ⟨by simp,hj,hk,fun y hy=>by simp [hy]⟩
   ·exact go h
  ·exact go h
end
section
variable {N:List NV} {D:List Dc}
theorem iT {i:Nat} (h:i<N.length):cZ N i=N[i]:=by unfold cZ;simp [List.getD,h]
theorem kids_num {v:NV} (h:bR v=true):∀ k n:Nat,v.x.k=(k:Int)→eQ.getD k 0=((n:Nat):Int)→v.kids.length=n:=by
 intro k n hk hn
 unfold bR at h
 simp only [Bool.and_eq_true] at h
 have h3:=h.1.1.1.2
 unfold kV at h3
 rw [hk,Int.toNat_natCast,hn,if_neg (by omega),if_neg (by omega)] at h3
 have:((v.kids.length:Nat):Int)=((n:Nat):Int):=by simpa using h3
 omega
theorem dD.kidsOf (g:dD N D) {i:Nat} (hi:i<N.length) (k n:Nat) (hk:N[i].x.k=(k:Int)) (hn:eQ.getD k 0=((n:Nat):Int)):N[i].kids.length=n:=kids_num (g.node i hi).shape k n hk hn
theorem dD.kidE (g:dD N D) {i j:Nat} (hi:i<N.length) (hk:¬ 20<N[i].x.k) (hj:j<N[i].kids.length) (a0:N[i].x.k=11→j % 2=0):okP N (gC N[i] j):=by
 obtain ⟨h1,u,h2,h3⟩:=(g.node i hi).kid j hj
 obtain ⟨h4,h5⟩:=List.getElem?_eq_some_iff.1 h2
 have e:gC N[i] j=N[i].kids[j]:=by unfold gC;simp [List.getD,hj]
 rw [e]
 refine ⟨h4,?_⟩
 rw [h5]
 rw [decide_eq_false (by omega:¬ N[i].x.k>20),Bool.false_or] at h3
 intro hu
 rw [decide_eq_true (by omega:u.x.k>20)] at h3
 simp only [Bool.true_eq,Bool.and_eq_true,decide_eq_true_eq] at h3
 have:=a0 h3.1
 omega
theorem dD.matchOdd (g:dD N D) {i:Nat} (hi:i<N.length) (hk:N[i].x.k=11):N[i].kids.length % 2=1∧3≤N[i].kids.length:=by
 have h:=(g.node i hi).shape
 unfold bR at h
 simp only [Bool.and_eq_true] at h
 have h3:=h.1.1.1.2
 unfold kV at h3
 rw [hk,if_neg (by decide),if_pos (by decide)] at h3
 simp only [Bool.and_eq_true,decide_eq_true_eq] at h3
 exact ⟨h3.2,h3.1⟩
end
end Go.Pg
namespace Go.Pg
section
variable {N:List NV} {D:List Dc} {m:MS}
theorem lP {c:Nat} {l:List Vl} (h:lOK N c l) (j:Nat):vOK N c (l.getD j cA):=by
 by_cases hj:j<l.length
 ·have e:l.getD j cA=l[j]:=by simp [List.getD,hj]
  rw [e]
  exact mE.1 h _ (List.getElem_mem hj)
 ·have e:l.getD j cA=cA:=by simp [List.getD,hj]
  rw [e]
  exact ok_zero
theorem xJ {c:Nat} {l r:List Vl} (h:lOK N c l) (k:lOK N c r):lOK N c (l++r):=mE.2 fun v hv=>by
 rcases List.mem_append.1 hv with hv|hv
 ·exact mE.1 h v hv
 ·exact mE.1 k v hv
theorem xO {c:Nat} {v:Vl} (h:vOK N c v):lOK N c [v]:=mE.2 fun x hx=>by rw [List.mem_singleton.1 hx];exact h
theorem okW_mono {c c':Nat} (h:c≤c') {w:Wt} (hw:okW N c w):okW N c' w:=⟨eOK_mono h _ hw.1,lOK_mono h _ hw.2.1,hw.2.2⟩
theorem okM.goTo (h:okM N m) {i:Nat} {e:En} (hi:okP N i) (he:eOK N m.cells.length e):okM N (m.goTo i e):=⟨hi,he,h.v,h.cells,h.k⟩
theorem okM.value (h:okM N m) {v:Vl} (hv:vOK N m.cells.length v):okM N (m.value v):=⟨h.at_,h.env,hv,h.cells,h.k⟩
theorem okM.stuck (h:okM N m):okM N m.stuck:=⟨h.at_,h.env,h.v,h.cells,h.k⟩
theorem okM.ks (h:okM N m) {k:List Wt} (hk:∀ w∈k,okW N m.cells.length w) (c:List (Int × Int)):okM N { m with k:=k,calls:=c }:=⟨h.at_,h.env,h.v,h.cells,hk⟩
theorem okM.wait (h:okM N m) {w:Wt} (hw:okW N m.cells.length w):okM N { m with k:=w::m.k }:=⟨h.at_,h.env,h.v,h.cells,fun x hx=>by
 rcases List.mem_cons.1 hx with rfl|hx
 ·exact hw
 ·exact h.k x hx⟩
theorem raise_ok (g:dD N D) (h:okM N m) (v:Vl) (hv:vOK N m.cells.length v):okM N (rP N m v):=by
 unfold rP
 split
 ·exact h.stuck
 ·split
  ·rename_i i w r ht
   obtain ⟨h1,h2,h3,h4⟩:=try_ok ht
   have hw:=h.k w h1
   obtain ⟨hi,hp,hl,_⟩:=hw.2.2 i h2
   rw [iT hi] at h3 ⊢
   have a0:=g.kidsOf hi 20 2 h3 rfl
   exact (h.ks (fun x hx=>h.k x (h4 x hx)) _).goTo (g.kidE hi hp (by omega) fun h=>by omega) (lW.2 ⟨hv,hw.1⟩)
  ·exact ⟨h.at_,h.env,h.v,h.cells,fun w hw=>by cases hw⟩
theorem call_ok (g:dD N D) (h:okM N m) (i:Nat) (f a:Vl) (hf:vOK N m.cells.length f) (ha:vOK N m.cells.length a):okM N (yO N m i f a):=by
 unfold yO
 split
 ·exact h.stuck
 rename_i hk
 have hk:f.k=5:=by omega
 obtain ⟨j,hj,a0,a1⟩:=vOK_fun hf hk
 rw [hj,Int.toNat_natCast,iT a0]
 have hp:¬ 20<N[j].x.k:=by omega
 have hl:0<N[j].kids.length:=by
  rcases a1 with h6|h9
  ·have:=g.kidsOf a0 6 1 h6 rfl;omega
  ·have:=g.kidsOf a0 9 2 h9 rfl;omega
 refine (h.ks (fun w hw=>?_) _).goTo (g.kidE a0 hp hl fun h=>by omega) (lW.2 ⟨ha,?_⟩)
 ·rcases List.mem_cons.1 hw with rfl|hw
  ·exact ⟨xK,iS,fun i h=>by cases h⟩
  ·exact h.k w hw
 ·split
  ·exact lW.2 ⟨hf,vOK_env hf⟩
  ·exact vOK_env hf
theorem cell_ok (h:okM N m) (x:NV) (l:List Vl) (hl:lOK N m.cells.length l):okM N (xd m x l):=by
 unfold xd
 split
 ·have e:(m.cells++[l.getD 0 cA]).length=m.cells.length+1:=by simp
  refine ⟨h.at_,?_,?_,?_,?_⟩
  ·show eOK N (m.cells++[l.getD 0 cA]).length m.env
   rw [e];exact eOK_mono (Nat.le_succ _) _ h.env
  ·show vOK N (m.cells++[l.getD 0 cA]).length (cellV m.cells.length)
   rw [e];exact ok_cell (Nat.lt_succ_self _)
  ·show lOK N (m.cells++[l.getD 0 cA]).length (m.cells++[l.getD 0 cA])
   rw [e];exact lOK_mono (Nat.le_succ _) _ (xJ h.cells (xO (lP hl 0)))
  ·intro w hw
   show okW N (m.cells++[l.getD 0 cA]).length w
   rw [e];exact okW_mono (Nat.le_succ _) (h.k w hw)
 ·split
  ·exact h.stuck
  ·split
   ·exact h.value (lP h.cells _)
   ·have e:(m.cells.set (l.getD 0 cA).at_.toNat (l.getD 1 cA)).length=m.cells.length:=by simp
    refine ⟨h.at_,?_,?_,?_,?_⟩
    ·show eOK N (m.cells.set _ _).length m.env
     rw [e];exact h.env
    ·exact xV
    ·show lOK N (m.cells.set _ _).length (m.cells.set _ _)
     rw [e]
     refine mE.2 fun v hv=>?_
     rcases List.mem_or_eq_of_mem_set hv with hv|rfl
     ·exact mE.1 h.cells v hv
     ·exact lP hl 1
    ·intro w hw
     show okW N (m.cells.set _ _).length w
     rw [e];exact h.k w hw
theorem done_ok (g:dD N D) (h:okM N m) (i:Nat) (x:NV) (l:List Vl) (hl:lOK N m.cells.length l):okM N (yC N m i x l):=by
 unfold yC
 split
 ·exact call_ok g h i _ _ (lP hl 0) (lP hl 1)
 split
 ·exact h.value (ok_con hl)
 split
 ·split
  ·rename_i v hv
   split
   ·exact h.value (op_ok hv)
   ·exact h.stuck
  ·exact h.stuck
 split
 ·split
  ·exact ⟨h.at_,h.env,xV,h.cells,h.k⟩
  ·exact h.stuck
 split
 ·exact raise_ok g h _ (lP hl 0)
 ·exact cell_ok h x l hl
theorem comes_ok (g:dD N D) (h:okM N m) {i:Nat} {w:Wt} (hw:okW N m.cells.length w) (hi:w.at_=some i) {v:Vl} (hv:vOK N m.cells.length v):okM N (uW N m i w v):=by
 obtain ⟨a0,hp,a3,a2⟩:=hw.2.2 i hi
 unfold uW
 rw [iT a0]
 split
 ·rename_i hk
  have:=g.kidsOf a0 8 2 hk rfl
  exact h.goTo (g.kidE a0 hp (by omega) fun h=>by omega) (lW.2 ⟨hv,hw.1⟩)
 split
 ·rename_i hk
  have:=g.kidsOf a0 10 3 hk rfl
  unfold tB
  split
  ·exact h.stuck
  split
  ·exact h.goTo (g.kidE a0 hp (by omega) fun h=>by omega) hw.1
  ·exact h.goTo (g.kidE a0 hp (by omega) fun h=>by omega) hw.1
 split
 ·unfold zX
  split
  ·rename_i b e ha
   obtain ⟨h1,j,h2,h3,h4⟩:=arms_ok hv hw.1 ha
   rw [List.length_drop] at h2
   have hb:gC N[i] (1+j)=b:=by
    rw [←h4,List.getElem_drop]
    unfold gC
    simp [List.getD,show 1+j<N[i].kids.length by omega]
   rw [←hb]
   exact h.goTo (g.kidE a0 hp (by omega) fun _=>by omega) h1
  ·exact h.stuck
 rename_i a1
 split
 ·rename_i hk
  have:=g.kidsOf a0 12 2 hk rfl
  exact h.goTo (g.kidE a0 hp (by omega) fun h=>by omega) hw.1
 split
 ·exact h.value hv
 split
 ·rename_i hl
  refine (h.wait (w:=⟨some i,w.env,w.vals++[v],w.calls⟩) ⟨hw.1,xJ hw.2.1 (xO hv),fun j hj=>?_⟩).goTo (g.kidE a0 hp hl fun h=>absurd h a1) hw.1
  cases hj
  exact ⟨a0,hp,by simpa using hl,a2⟩
 ·exact done_ok g h i _ _ (xJ hw.2.1 (xO hv))
theorem iA (g:dD N D) (h:okM N m) {v:Vl} (hv:vOK N m.cells.length v):okM N (eO N m v):=by
 unfold eO
 split
 ·exact ⟨h.at_,h.env,hv,h.cells,h.k⟩
 rename_i w r hk
 have hr:∀ x∈r,okW N m.cells.length x:=fun x hx=>h.k x (by rw [hk];simp [hx])
 have hw:okW N m.cells.length w:=h.k w (by rw [hk];simp)
 split
 ·exact (h.ks hr _).value hv
 ·rename_i i hi
  exact comes_ok g (m:={ m with k:=r }) ⟨h.at_,h.env,h.v,h.cells,hr⟩ hw hi hv
theorem begin_ok (g:dD N D) (h:okM N m):okM N (rT N m):=by
 obtain ⟨a0,hp⟩:=h.at_
 unfold rT
 rw [iT a0]
 split
 ·exact iA g h vK
 split
 ·exact iA g h xP
 split
 ·exact iA g h xV
 split
 ·split
  ·rename_i v hv
   exact iA g h (ue h.env hv)
  ·exact h.stuck
 split
 ·rename_i hk
  exact iA g h (ok_fun ⟨_,rfl,a0,.inl hk⟩ h.env)
 split
 ·rename_i hk
  have:=g.kidsOf a0 9 2 hk rfl
  exact h.goTo (g.kidE a0 hp (by omega) fun h=>by omega) (lW.2 ⟨ok_fun ⟨_,rfl,a0,.inr hk⟩ h.env,h.env⟩)
 split
 ·unfold sK
  split
  ·exact ⟨h.at_,h.env,h.v,h.cells,h.k⟩
  ·exact ⟨h.at_,h.env,vK,h.cells,h.k⟩
 split
 ·exact iA g h (ok_con iS)
 ·rename_i hn
  have hl:0<N[m.at_].kids.length:=List.length_pos_iff.2 hn
  refine (h.wait (w:=⟨some m.at_,m.env,[],m.calls⟩) ⟨h.env,iS,fun j hj=>?_⟩).goTo (g.kidE a0 hp hl fun _=>rfl) h.env
  cases hj
  exact ⟨a0,hp,by simpa using hl,by assumption⟩
theorem tick_ok (h:okM N m):okM N (gH N m):=⟨h.at_,h.env,h.v,h.cells,h.k⟩
theorem step_ok (g:dD N D) (h:okM N m):okM N (jV N m):=by
 unfold jV
 split
 ·exact iA g (tick_ok h) h.v
 ·exact begin_ok g (tick_ok h)
theorem new_ok (g:dD N D) (l:List Int):okM N (xi l):=⟨⟨g.pos,g.root g.pos⟩,xK,ok_zero,iS,fun w hw=>by cases hw⟩
structure Ext (m m':MS):Prop where
 steps:m'.steps=m.steps
 stops:m'.stops=m.stops
 inp:m'.inp=m.inp
 out:m.out <+: m'.out
 out1:m'.out.length≤m.out.length+1
 read:m.read≤m'.read
 read1:m.read≤m.inp.length→m'.read≤m.inp.length
 cells:m.cells.length≤m'.cells.length
 cells1:m'.cells.length≤m.cells.length+1
 nw:m'.nw≤m.nw+1
 err:m.err=0→m'.over=0→m'.err=0
 calls:∀ B,m.calls.length≤B→(∀ w∈m.k,w.calls.length≤B)→m'.calls.length≤B+1∧∀ w∈m'.k,w.calls.length≤B+1
theorem Ext.easy {m m':MS} (h1:m'.steps=m.steps) (h2:m'.stops=m.stops) (h3:m'.inp=m.inp) (h4:m'.out=m.out) (h5:m'.read=m.read) (h6:m'.cells.length=m.cells.length) (h7:m'.nw≤m.nw+1) (h8:m'.err=m.err)
  (h9:m'.calls=m.calls∨∃ w∈m.k,m'.calls=w.calls) (a0:∀ w∈m'.k,w∈m.k∨w.calls=m.calls∨∃ x∈m.k,w.calls=x.calls):Ext m m' where
 steps:=h1
 stops:=h2
 inp:=h3
 out:=by rw [h4];exact List.prefix_refl _
 out1:=by rw [h4];omega
 read:=by omega
 read1:=by omega
 cells:=by omega
 cells1:=by omega
 nw:=h7
 err:=fun h _=>by rw [h8];exact h
 calls:=fun B hB hk=>by
  refine ⟨?_,fun w hw=>?_⟩
  ·rcases h9 with h|⟨w,hw,h⟩
   ·rw [h];omega
   ·rw [h];have:=hk w hw;omega
  ·rcases a0 w hw with h|h|⟨x,hx,h⟩
   ·have:=hk w h;omega
   ·rw [h];omega
   ·rw [h];have:=hk x hx;omega
theorem raise_ext (m:MS) (v:Vl):Ext m (rP N m v):=by
 unfold rP
 split
 ·exact .easy rfl rfl rfl rfl rfl rfl (Nat.le_succ _) rfl (.inl rfl) fun w hw=>.inl hw
 split
 ·rename_i i w r ht
  obtain ⟨h1,_,_,h4⟩:=try_ok ht
  exact .easy rfl rfl rfl rfl rfl rfl (Nat.le_succ _) rfl (.inr ⟨w,h1,rfl⟩) fun x hx=>.inl (h4 x hx)
 ·exact ⟨rfl,rfl,rfl,List.prefix_refl _,Nat.le_succ _,Nat.le_refl _,id,Nat.le_refl _,Nat.le_succ _,Nat.le_succ _,fun _ h=>absurd (show (2:Int)=0 from h) (by decide),fun B hB _=>⟨by show m.calls.length≤B+1;omega,fun w hw=>by cases hw⟩⟩
theorem call_ext (m:MS) (i:Nat) (f a:Vl):Ext m (yO N m i f a):=by
 unfold yO
 split
 ·exact .easy rfl rfl rfl rfl rfl rfl (Nat.le_succ _) rfl (.inl rfl) fun w hw=>.inl hw
 ·refine ⟨rfl,rfl,rfl,List.prefix_refl _,Nat.le_succ _,Nat.le_refl _,id,Nat.le_refl _,Nat.le_succ _,Nat.le_succ _,fun h _=>h,fun B hB hk=>⟨?_,fun w hw=>?_⟩⟩
  ·show (_::m.calls).length≤B+1
   rw [List.length_cons];omega
  ·rcases List.mem_cons.1 hw with rfl|hw
   ·show m.calls.length≤B+1;omega
   ·have:=hk w hw;omega
theorem cell_ext (m:MS) (x:NV) (l:List Vl):Ext m (xd m x l):=by
 unfold xd
 split
 ·refine ⟨rfl,rfl,rfl,List.prefix_refl _,Nat.le_succ _,Nat.le_refl _,id,?_,?_,Nat.le_refl _,fun h _=>h,fun B hB hk=>⟨by show m.calls.length≤B+1;omega,fun w hw=>by have:=hk w hw;omega⟩⟩
  ·show m.cells.length≤(m.cells++[_]).length
   simp
  ·show (m.cells++[_]).length≤m.cells.length+1
   simp
 split
 ·exact .easy rfl rfl rfl rfl rfl rfl (Nat.le_succ _) rfl (.inl rfl) fun w hw=>.inl hw
 split
 ·exact .easy rfl rfl rfl rfl rfl rfl (Nat.le_succ _) rfl (.inl rfl) fun w hw=>.inl hw
 ·exact .easy rfl rfl rfl rfl rfl (by show (m.cells.set _ _).length=_;simp) (Nat.le_refl _) rfl (.inl rfl) fun w hw=>.inl hw
theorem done_ext (m:MS) (i:Nat) (x:NV) (l:List Vl):Ext m (yC N m i x l):=by
 have st:Ext m m.stuck:=.easy rfl rfl rfl rfl rfl rfl (Nat.le_succ _) rfl (.inl rfl) fun w hw=>.inl hw
 have va:∀ v,Ext m (m.value v):=fun v=>.easy rfl rfl rfl rfl rfl rfl (Nat.le_succ _) rfl (.inl rfl) fun w hw=>.inl hw
 unfold yC
 split
 ·exact call_ext m i _ _
 split
 ·exact va _
 split
 ·split
  ·split
   ·exact va _
   ·exact st
  ·exact st
 split
 ·split
  ·refine ⟨rfl,rfl,rfl,List.prefix_append _ _,?_,Nat.le_refl _,id,Nat.le_refl _,Nat.le_succ _,Nat.le_succ _,fun h _=>h,fun B hB hk=>⟨by show m.calls.length≤B+1;omega,fun w hw=>by have:=hk w hw;omega⟩⟩
   show (m.out++[_]).length≤m.out.length+1
   simp
  ·exact st
 split
 ·exact raise_ext m _
 ·exact cell_ext m x l
theorem Ext.ofK {m m':MS} {w:Wt} {r:List Wt} (hk:m.k=w::r) (h:Ext { m with k:=r } m'):Ext m m':=
 ⟨h.steps,h.stops,h.inp,h.out,h.out1,h.read,h.read1,h.cells,h.cells1,h.nw,h.err,fun B hB hw=>h.calls B hB fun x hx=>hw x (by rw [hk];exact List.mem_cons_of_mem _ hx)⟩
theorem comes_ext (m:MS) (i:Nat) (w:Wt) (r:List Wt) (hk:m.k=w::r) (v:Vl):Ext m (uW N { m with k:=r } i w v):=by
 have a0:∀ x∈r,x∈m.k:=fun x hx=>by rw [hk];exact List.mem_cons_of_mem _ hx
 have a1:w∈m.k:=by rw [hk];exact List.mem_cons_self
 have go:∀ j e,Ext m (({ m with k:=r }:MS).goTo j e):=fun j e=>.easy rfl rfl rfl rfl rfl rfl (Nat.le_succ _) rfl (.inl rfl) fun x hx=>.inl (a0 x hx)
 have st:Ext m (({ m with k:=r }:MS).stuck):=.easy rfl rfl rfl rfl rfl rfl (Nat.le_succ _) rfl (.inl rfl) fun x hx=>.inl (a0 x hx)
 unfold uW
 split
 ·exact go _ _
 split
 ·unfold tB
  split
  ·exact st
  split
  ·exact go _ _
  ·exact go _ _
 split
 ·unfold zX
  split
  ·exact go _ _
  ·exact st
 split
 ·exact go _ _
 split
 ·exact .easy rfl rfl rfl rfl rfl rfl (Nat.le_succ _) rfl (.inl rfl) fun x hx=>.inl (a0 x hx)
 split
 ·refine .easy rfl rfl rfl rfl rfl rfl (Nat.le_succ _) rfl (.inl rfl) fun x hx=>?_
  rcases List.mem_cons.1 hx with rfl|hx
  ·exact .inr (.inr ⟨w,a1,rfl⟩)
  ·exact .inl (a0 x hx)
 ·exact (done_ext { m with k:=r } i _ _).ofK hk
theorem fS (m:MS) (v:Vl):Ext m (eO N m v):=by
 unfold eO
 split
 ·exact ⟨rfl,rfl,rfl,List.prefix_refl _,Nat.le_succ _,Nat.le_refl _,id,Nat.le_refl _,Nat.le_succ _,Nat.le_succ _,fun _ h=>absurd (show (1:Int)=0 from h) (by decide),fun B hB hk=>⟨by show m.calls.length≤B+1;omega,fun w hw=>by have:=hk w hw;omega⟩⟩
 rename_i w r hk
 split
 ·exact .easy rfl rfl rfl rfl rfl rfl (Nat.le_succ _) rfl (.inr ⟨w,by rw [hk];exact List.mem_cons_self,rfl⟩) fun x hx=>.inl (by rw [hk];exact List.mem_cons_of_mem _ hx)
 ·exact comes_ext m _ w r hk v
theorem begin_ext (m:MS):Ext m (rT N m):=by
 unfold rT
 split
 ·exact fS m _
 split
 ·exact fS m _
 split
 ·exact fS m _
 split
 ·split
  ·exact fS m _
  ·exact .easy rfl rfl rfl rfl rfl rfl (Nat.le_succ _) rfl (.inl rfl) fun w hw=>.inl hw
 split
 ·exact fS m _
 split
 ·exact .easy rfl rfl rfl rfl rfl rfl (Nat.le_succ _) rfl (.inl rfl) fun w hw=>.inl hw
 split
 ·unfold sK
  split
  ·exact .easy rfl rfl rfl rfl rfl rfl (Nat.le_succ _) rfl (.inl rfl) fun w hw=>.inl hw
  ·rename_i h
   exact ⟨rfl,rfl,rfl,List.prefix_refl _,Nat.le_succ _,Nat.le_succ _,fun _=>by show m.read+1≤m.inp.length;omega,Nat.le_refl _,Nat.le_succ _,Nat.le_succ _,fun h _=>h,fun B hB hk=>⟨by show m.calls.length≤B+1;omega,fun w hw=>by have:=hk w hw;omega⟩⟩
 split
 ·exact fS m _
 ·refine .easy rfl rfl rfl rfl rfl rfl (Nat.le_succ _) rfl (.inl rfl) fun x hx=>?_
  rcases List.mem_cons.1 hx with rfl|hx
  ·exact .inr (.inl rfl)
  ·exact .inl hx
theorem zJ (m:MS):Ext (gH N m) (jV N m):=by
 unfold jV
 split
 ·exact fS _ _
 ·exact begin_ext _
theorem step_bnd (h:bndM m):bndM (jV N m):=by
 have e:=zJ (N:=N) m
 have es:(gH N m).steps=m.steps+1:=rfl
 have e2:=e.steps
 obtain ⟨c1,c2⟩:=e.calls m.steps h.calls h.k
 refine ⟨?_,?_,?_,?_,?_,?_,?_⟩
 ·have:=e.out1;have:=h.out;have:(gH N m).out.length=m.out.length:=rfl;omega
 ·have:=e.cells1;have:=h.cells;have:(gH N m).cells.length=m.cells.length:=rfl;omega
 ·have:=e.nw;have:=h.nw;have:(gH N m).nw=m.nw:=rfl;omega
 ·have:=e.stops
  have h2:(gH N m).stops≤m.stops+1:=by unfold gH;dsimp only;split<;>omega
  have:=h.stops
  omega
 ·omega
 ·intro w hw;have:=c2 w hw;omega
 ·have h1:=e.read1 h.read
  rw [e.inp]
  exact h1
end
end Go.Pg
namespace Go.Pg
open Go.Proofs Go.Utf8 Go.Lib
set_option linter.unusedSimpArgs false
structure TrA where
 pn:Option Addr
 cn:Nat
 pd:Option Addr
 cd:Nat
structure Slt where
 pi:Option Addr
 ci:Nat
 po:Option Addr
 co:Nat
 ro:Nat
 pc:Option Addr
 cc:Nat
 rc:Nat
 css:List (List Value)
 pw:Option Addr
 cw:Nat
 rw_:Nat
 ws:List Value
 vq:Option Addr
 vc:Nat
 vp:Option Addr
 pe:Option Addr
 pk:Option Addr
 pl:Option Addr
def eV (T:TrA) (N:List NV) (D:List Dc) (s:Slt) (m:MS):List Value:=
 [.slice T.pn N.length T.cn,.slice T.pd D.length T.cd,.slice s.pi m.inp.length s.ci,.int .i64 ((m.read:Nat):Int),.slice s.po m.out.length s.co,.slice s.pc m.cells.length s.cc,.slice s.pw m.nw s.cw,.int .i64 ((m.steps:Nat):Int),.int .i64 ((m.stops:Nat):Int),
  .int .i64 m.over,.int .i64 m.err,.bool m.back,.int .i64 m.v.k,.int .i64 m.v.n,.string (mkB m.v.nm),.slice s.vq m.v.args.length s.vc,.int .i64 m.v.node,.pointer s.vp,.int .i64 m.v.at_,.int .i64 ((m.at_:Nat):Int),.pointer s.pe,.pointer s.pk,.pointer s.pl]
def tZ (cs:List Value) (z:Int):Prop:=cs=[.int .i64 z]
abbrev yK (z:Int):Value:=.int .i64 z
def Ft (A:Nat) (s:Slt) (j:Nat):Prop:=j=A∨(s.po≠none∧j=s.ro)∨(s.pc≠none∧j=s.rc)∨(s.pw≠none∧j=s.rw_)
def FX (X:Nat→Prop) (A:Nat) (s:Slt) (j:Nat):Prop:=X j∨Ft A s j
structure Mac (σ:aB) (X:Nat→Prop) (A:Nat) (T:TrA) (N:List NV) (D:List Dc) (s:Slt) (m:MS):Prop where
 st:St σ A (eV T N D s m)
 tree:lR σ (FX X A s) T.pn N T.pd D
 inp:aR σ (FX X A s) 1 tZ s.pi m.inp
 out:SlE σ s.ro s.po s.co 1 (m.out.map yK)
 cells:SlE σ s.rc s.pc s.cc 7 s.css.flatten
 clen:s.css.length=m.cells.length
 cel:∀ i (h:i<s.css.length) (h':i<m.cells.length),VlR σ (FX X A s) m.cells[i] s.css[i]
 wr:SlE σ s.rw_ s.pw s.cw 8 s.ws
 wl:s.ws.length=m.nw*8
 v:VlP σ (FX X A s) m.v s.vq s.vp
 env:EnR σ (FX X A s) m.env s.pe
 k:WtR σ (FX X A s) m.k s.pk
 calls:LkR σ (FX X A s) m.calls s.pl
 xn:∀ j,X j→j<σ.n
 xA:¬ X A
 xo:s.po≠none→¬ X s.ro∧s.ro≠A
 xc:s.pc≠none→¬ X s.rc∧s.rc≠A∧(s.po≠none→s.rc≠s.ro)
 xw:s.pw≠none→¬ X s.rw_∧s.rw_≠A∧(s.po≠none→s.rw_≠s.ro)∧(s.pc≠none→s.rw_≠s.rc)
section
variable {σ σ':aB} {X S:Nat→Prop} {A:Nat} {T:TrA} {N:List NV} {D:List Dc} {s s':Slt} {m m':MS} {P:Program} {ov:Ov}
theorem Mac.fn (h:Mac σ X A T N D s m):∀ j,FX X A s j→j<σ.n:=by
 rintro j (hj|rfl|⟨hp,rfl⟩|⟨hp,rfl⟩|⟨hp,rfl⟩)
 ·exact h.xn j hj
 ·exact h.st.1
 ·exact h.out.lt hp
 ·exact h.cells.lt hp
 ·exact h.wr.lt hp
theorem Mac.frm (h:Mac σ X A T N D s m) (f:Frm σ σ' S) (hS:∀ j,j<σ.n→S j→X j):Mac σ' X A T N D s m:=by
 have hY:∀ j,j<σ.n→S j→FX X A s j:=fun j hj hs=>.inl (hS j hj hs)
 have hI:∀ j,j<σ.n→FX X A s j→FX X A s j:=fun _ _ h=>h
 exact ⟨f.st h.st fun hs=>h.xA (hS _ h.st.1 hs),h.tree.step f hY hI,h.inp.step f hY hI fun _ _ h=>h,h.out.frm f fun hp hs=>(h.xo hp).1 (hS _ (h.out.lt hp) hs),h.cells.frm f fun hp hs=>(h.xc hp).1 (hS _ (h.cells.lt hp) hs),h.clen,
  fun i h1 h2=>jL f hY hI _ _ (h.cel i h1 h2),h.wr.frm f fun hp hs=>(h.xw hp).1 (hS _ (h.wr.lt hp) hs),h.wl,h.v.step f hY hI,EnR_step f hY hI _ _ h.env,mR f hY hI h.k,iQ f hY hI h.calls,fun j hj=>Nat.lt_of_lt_of_le (h.xn j hj) f.n,h.xA,h.xo,h.xc,h.xw⟩
theorem Mac.frmN (h:Mac σ X A T N D s m) (f:Frm σ σ' NoB):Mac σ' X A T N D s m:=h.frm f fun _ _ h=>h.elim
structure Same (s s':Slt) (m m':MS):Prop where
 pi:s'.pi=s.pi
 ci:s'.ci=s.ci
 po:s'.po=s.po
 co:s'.co=s.co
 ro:s'.ro=s.ro
 pc:s'.pc=s.pc
 cc:s'.cc=s.cc
 rc:s'.rc=s.rc
 css:s'.css=s.css
 pw:s'.pw=s.pw
 cw:s'.cw=s.cw
 rw_:s'.rw_=s.rw_
 ws:s'.ws=s.ws
 inp:m'.inp=m.inp
 out:m'.out=m.out
 cells:m'.cells=m.cells
 nw:m'.nw=m.nw
theorem Same.ft (h:Same s s' m m'):Ft A s'=Ft A s:=by
 funext j
 unfold Ft
 rw [h.po,h.ro,h.pc,h.rc,h.pw,h.rw_]
theorem Same.fx (h:Same s s' m m'):FX X A s'=FX X A s:=by
 funext j
 unfold FX
 rw [h.ft]
theorem Mac.upd (h:Mac σ X A T N D s m) (f:Frm σ σ' (· =A)) (a0:St σ' A (eV T N D s' m')) (hs:Same s s' m m') (hv:VlP σ (FX X A s) m'.v s'.vq s'.vp) (he:EnR σ (FX X A s) m'.env s'.pe) (hk:WtR σ (FX X A s) m'.k s'.pk) (hl:LkR σ (FX X A s) m'.calls s'.pl):Mac σ' X A T N D s' m':=by
 have hY:∀ j,j<σ.n→j=A→FX X A s j:=fun j _ h=>.inr (.inl h)
 have hI:∀ j,j<σ.n→FX X A s j→FX X A s j:=fun _ _ h=>h
 obtain ⟨e1,e2,e3,e4,e5,e6,e7,e8,e9,e10,e11,e12,e13,e14,e15,e16,e17⟩:=id hs
 have efx:FX X A s'=FX X A s:=hs.fx
 refine ⟨a0,?_,?_,?_,?_,?_,?_,?_,?_,?_,?_,?_,?_,fun j hj=>Nat.lt_of_lt_of_le (h.xn j hj) f.n,h.xA,?_,?_,?_⟩
 ·rw [efx];exact h.tree.step f hY hI
 ·rw [efx,e1,e14];exact h.inp.step f hY hI fun _ _ h=>h
 ·rw [e5,e3,e4,e15];exact h.out.frm f fun hp h2=>(h.xo hp).2 h2
 ·rw [e8,e6,e7,e9];exact h.cells.frm f fun hp h2=>(h.xc hp).2.1 h2
 ·rw [e9,e16];exact h.clen
 ·intro i h1 h2
  have h3:i<s.css.length:=by rw [e9] at h1;exact h1
  have h4:i<m.cells.length:=by rw [e16] at h2;exact h2
  have:=jL f hY hI _ _ (h.cel i h3 h4)
  rw [efx]
  simp only [e9,e16]
  exact this
 ·rw [e12,e10,e11,e13];exact h.wr.frm f fun hp h2=>(h.xw hp).2.1 h2
 ·rw [e13,e17];exact h.wl
 ·rw [efx];exact hv.step f hY hI
 ·rw [efx];exact EnR_step f hY hI _ _ he
 ·rw [efx];exact mR f hY hI hk
 ·rw [efx];exact iQ f hY hI hl
 ·rw [e3,e5];exact h.xo
 ·rw [e6,e8,e3,e5];exact h.xc
 ·rw [e10,e12,e3,e5,e6,e8];exact h.xw
structure Mov (σ σ':aB) (A:Nat) (s s':Slt):Prop where
 frm:Frm σ σ' (Ft A s)
 sub:∀ j,j<σ.n→Ft A s' j→Ft A s j
theorem Mov.refl:Mov σ σ A s s:=⟨Frm.refl _ _,fun _ _ h=>h⟩
theorem Mov.trans {σ'':aB} {s'':Slt} (h:Mov σ σ' A s s') (k:Mov σ' σ'' A s' s''):Mov σ σ'' A s s'':=
 ⟨h.frm.trans k.frm (fun _ _ h=>h) fun j hj h2=>h.sub j hj h2,fun j hj h2=>h.sub j hj (k.sub j (Nat.lt_of_lt_of_le hj h.frm.n) h2)⟩
theorem Mov.ofN (f:Frm σ σ' NoB):Mov σ σ' A s s:=⟨f.mono fun _ _ h=>h.elim,fun _ _ h=>h⟩
theorem Mov.ofA (f:Frm σ σ' (· =A)) (hs:Ft A s'=Ft A s):Mov σ σ' A s s':=⟨f.mono fun _ _ h=>.inl h,fun j _ h=>by rw [hs] at h;exact h⟩
def QM (σ:aB) (X:Nat→Prop) (A:Nat) (T:TrA) (N:List NV) (D:List Dc) (s:Slt) (m':MS):Value→aB→Prop:=fun v σ'=>v=.tuple #[]∧∃ s',Mac σ' X A T N D s' m'∧Mov σ σ' A s s'
theorem QM.up {σ1:aB} {s1:Slt} (k:Mov σ σ1 A s s1) {m':MS} {v:Value} (h:QM σ1 X A T N D s1 m' v σ'):QM σ X A T N D s m' v σ':=by
 obtain ⟨rfl,s',h1,h2⟩:=h
 exact ⟨rfl,s',h1,k.trans h2⟩
theorem wp_stKQ {b i:Nat} {cs vs:List Value} {p:Pg} {Q:cN} (h:St σ b cs) (hi:i+vs.length≤cs.length) (hv:vs.all one=true)
  (k:∀ σ',Frm σ σ' (· =b)→σ'.n=σ.n→St σ' b (cs.take i++vs++cs.drop (i+vs.length))→Wp P ov p σ' Q):Wp P ov (.act (stC (aadd ⟨b,0,some 0⟩ i) vs) fun v=>cE v fun l=>aA l p) σ Q:=by
 have e:Go.Pg.stC ⟨b,0+i,some 0⟩ vs σ=some (.tuple #[],σ.put b (.blk ⟨cs.take i++vs++cs.drop (i+vs.length),0,[cs.length],0⟩)):=by
  obtain ⟨_,h⟩:=h
  unfold Go.Pg.stC aB.wrN
  simp only [h,Nat.zero_div]
  have:(Nat.beq (0+1) [cs.length].length&&Nat.ble (0+i+vs.length) cs.length&&vs.all one)=true:=by simp [hv];omega
  rw [this,cond_true,Nat.zero_add]
 rw [aY,show aadd ⟨b,0,some 0⟩ i=⟨b,0+i,some 0⟩ from rfl,e]
 simp only [dA,aJ]
 exact k _ (Frm.put _ _ _ h.1) rfl (h.put (by simp;omega))
theorem mS {β:Type} {Y:Nat→Prop} {c:Nat} {R:List Value→β→Prop} {p:Option Addr} {ts:List β} (h:aR σ Y c R p ts) {i n o:Nat} {J:Int} (hJ:J=((i:Nat):Int)) (hi:i<ts.length) (hn:n=ts.length) (ho:o<c) {w:Nat} (hw:w=i*c+o) {f:Value→Pg} {Q:cN}
  (k:∀ cs,R cs ts[i]→∃ v,cs[o]?=some v∧Wp P ov (f v) σ Q):Wp P ov (aF p fun a=>grd (decide (J<((n:Nat):Int))) (.act (ld1 (aadd a w)) f)) σ Q:=by
 obtain ⟨x,cs,rfl,h2,h3⟩:=Kp.ofRow h hi
 subst hw hJ hn
 obtain ⟨v,hv,hk⟩:=k cs h2
 simp only [bO]
 rw [aQ]
 refine ⟨by simp;omega,?_⟩
 have:=oF (h3 o v ho hv) f Q (P:=P) (ov:=ov)
 rw [show aadd (aadd x (i*c)) o=aadd x (i*c+o) by simp [aadd,Nat.add_assoc]] at this
 rw [this]
 exact hk
end
end Go.Pg
namespace Go.Pg
open Go.Proofs Go.Utf8 Go.Lib
set_option linter.unusedSimpArgs false
section
variable {σ:aB}
theorem wo {r:Int} (h:rOK r) (σ:aB):EvF aG ovD 132 [.int .i32 r] σ (.int .i64 (dW r)) σ:=by
 refine EvF.of (T132_eq _) rfl ?_
 rw [T132,aI,aI,aC]
 by_cases h1:r=95∨r=39
 ·have a0:((r==95)||(r==39))=true:=by simpa using h1
  have hc:dW r=1:=cls_1 (by rcases h1 with h1|h1<;>simp [h1])
  rw [if_neg (by rw [a0];simp),hc]
  simp [wp_ret,T132k0,T132k17,aW,aL,bA,aO,aJ]
 ·have a0:((r==95)||(r==39))=false:=by simpa using h1
  rw [if_pos (by rw [a0];rfl),aD,WpF.eq (vg h σ)]
  simp only [bA,wp_ret,T132k0,aW,aL,aJ,aC]
  by_cases h2:isLetterU r=true
  ·rw [if_pos h2,cls_1 (.inr (.inr h2))]
   simp [wp_ret,T132k17,aW,aL,aO,aJ]
  ·have n1:¬ (r=95∨r=39∨isLetterU r=true):=fun h=>h.elim (fun h=>h1 (.inl h)) fun h=>h.elim (fun h=>h1 (.inr h)) h2
   rw [if_neg h2]
   by_cases h3:48≤r∧r≤57
   ·rw [if_pos (by simpa using h3),cls_2 n1 h3]
    simp [wp_ret,T132k17,aW,aL,aO,aJ]
   ·rw [if_neg (by simpa using h3)]
    simp only [T132k17,aW,jT,aL,aO,aJ]
    by_cases b1:r=32
    ·rw [cls_3 n1 h3 (by simp [b1])];subst b1;simp [wp_ret,aI,T132k15,T132k16,aW,aL,aO,bA,aJ]
    by_cases b2:r=9
    ·rw [cls_3 n1 h3 (by simp [b2])];subst b2;simp [wp_ret,aI,T132k15,T132k16,T132k2,aW,aL,aO,bA,aJ]
    by_cases b3:r=10
    ·rw [cls_3 n1 h3 (by simp [b3])];subst b3;simp [wp_ret,aI,T132k15,T132k16,T132k1,T132k2,aW,aL,aO,bA,aJ]
    by_cases b4:r=13
    ·rw [cls_3 n1 h3 (by simp [b4])];subst b4;simp [wp_ret,aI,T132k15,T132k16,T132k1,T132k2,aW,aL,aO,bA,aJ]
    have n3:¬ (r=32∨r=9∨r=10∨r=13):=by simp only [b1,b2,b3,b4,or_self,not_false_eq_true]
    by_cases hm:r∈marks
    ·rw [cls_4 n1 h3 n3 hm]
     unfold marks at hm
     simp only [List.mem_cons,List.mem_nil_iff,or_false] at hm
     rcases hm with rfl|rfl|rfl|rfl|rfl|rfl|rfl|rfl|rfl|rfl|rfl|rfl|rfl<;>
      simp [wp_ret,aI,T132k15,T132k16,T132k1,T132k2,T132k3,T132k4,T132k5,T132k6,T132k7,T132k8,T132k9,T132k10,T132k11,T132k12,T132k13,T132k14,aW,aL,aO,bA,aJ]
    ·rw [cls_0 n1 h3 n3 hm]
     unfold marks at hm
     simp only [List.mem_cons,List.mem_nil_iff,or_false,not_or] at hm
     obtain ⟨m1,m2,m3,m4,m5,m6,m7,m8,m9,m10,m11,m12,m13⟩:=hm
     have q:∀ k:Int,¬ r=k→(r==k)=false:=fun k hk=>by simpa using hk
     simp [wp_ret,aI,aC,T132k15,T132k16,T132k1,T132k2,T132k3,T132k4,T132k5,T132k6,T132k7,T132k8,T132k9,T132k10,T132k11,T132k12,T132k13,T132k14,aW,jT,aL,aO,bA,aJ,b1,b2,b3,b4,m1,m2,m3,m4,m5,m6,m7,m8,m9,m10,m11,m12,m13]
def Cls (g:FuncId) (may:Nat→Bool):Prop:=∀ (r:Nat) (σ:aB),rOK (r:Nat)→EvF aG ovD g [.int .i32 (r:Nat)] σ (.bool (may r)) σ
theorem cls_dgt:Cls 135 dig:=by
 intro r σ h
 refine EvF.of (T135_eq _) rfl ?_
 rw [T135,aD,WpF.eq (wo h σ),aO,wp_ret]
 exact ⟨rfl,rfl⟩
theorem cls_lod:Cls 144 lod:=by
 intro r σ h
 refine EvF.of (T144_eq _) rfl ?_
 rw [T144,aD,WpF.eq (wo h σ),aO,wp_ret]
 exact ⟨rfl,rfl⟩
theorem wp_run {g:FuncId} {may:Nat→Bool} (hg:Cls g may) (L:List UInt8) {Q:Value→aB→Prop} (hQ:∀ σ',Frm σ σ' NoB→Q (.int .i64 (run may L:Nat)) σ'):
  WpF aG ovD 134 [.string (mkB L),.func (.func g) #[] #[]] σ Q:=by
 refine WpF.of (T134_eq _ _) rfl ?_
 rw [T134,aY,xy]
 simp only [jG,bO]
 refine Wp.loop (fun m st σ'=>∃ p,m=L.length - p∧p≤L.length∧Frm σ σ' NoB∧σ.n<σ'.n∧σ'.get σ.n=some (.iter (mkB L) p)∧st=[.int .i64 0]∧run may L=p+run may (L.drop p)) L.length
  ⟨0,rfl,by omega,Frm.rng _ _,by rw [aB.push_n];omega,eG _ _,rfl,by simp⟩ ?_
 rintro m st σ' ⟨p,rfl,hp,hF,hn,a1,rfl,hr⟩
 simp only [T134b0,aL,aO,aJ]
 by_cases h1:p<L.length
 ·have a0:L.drop p≠[]:=by simp;omega
  have hw:=eE a0
  rw [List.length_drop] at hw
  rw [iL a1 (by rw [bW];exact h1),aI,nV,aD,nX L p hp]
  simp only [List.nil_append,List.append_nil]
  rw [WpF.eq (hg _ _ (kW _)),bA,aC]
  rw [gR a0] at hr
  by_cases hm:may (bX (L.drop p)).1=true
  ·rw [if_pos hm,List.drop_drop] at hr
   rw [if_neg (by simp [hm]),wp_ret]
   simp only [T134k0,jT,aW,aL,aO,aJ]
   rw [wp_ret]
   refine ⟨_,?_,p+(bX (L.drop p)).2,rfl,by omega,hF.putNew (Nat.le_refl _) hn _,hn,eC _ _ _,rfl,by omega⟩
   omega
  ·rw [if_neg hm] at hr
   rw [if_pos (by simp [hm]),wp_ret]
   simp only [T134k0,T134k1,aW,aL,aO,aJ]
   rw [wp_ret]
   simp only [vX,aW,aL,aO,aJ]
   rw [wp_ret]
   rw [Nat.add_zero] at hr
   rw [←hr]
   exact ⟨_,rfl,hQ _ (hF.putNew (Nat.le_refl _) hn _)⟩
 ·obtain rfl:p=L.length:=by omega
  rw [oC a1 (by rw [bW];omega),wp_ret]
  simp only [T134k1,aW,aL,aO,aJ]
  rw [wp_ret,bW]
  rw [List.drop_length,run_nil,Nat.add_zero] at hr
  rw [←hr]
  exact ⟨_,rfl,hQ _ hF⟩
theorem wp_upperL {L:List UInt8} (hL:L≠[]) {Q:Value→aB→Prop} (hQ:∀ σ',Frm σ σ' NoB→Q (.bool (isUpperU ((bX L).1:Nat))) σ'):WpF aG ovD 145 [.string (mkB L)] σ Q:=by
 have hl:=List.length_pos_iff.2 hL
 refine WpF.of (T145_eq _) rfl ?_
 rw [T145,aY,xy]
 simp only [jG,bO]
 refine Wp.count 0 (fun _ st σ'=>σ'=σ.push (.iter (mkB L) 0)∧st=[.bool false]) ⟨rfl,rfl⟩ (fun j _ _ hj _=>by omega) ?_
 rintro st σ' ⟨rfl,rfl⟩
 simp only [T145b0,aL,bA,aJ]
 have e:=nX L 0 (by omega)
 rw [List.drop_zero] at e
 rw [iL (eG _ _) (by rw [bW];exact hl),e,aI,aD,WpF.eq (ev_upper (kW L) _)]
 simp only [bA,wp_ret,T145k0,T145k1,aW,vX,aL,aJ]
 exact ⟨_,rfl,hQ _ ((Frm.rng σ _).putNew (Nat.le_refl _) (by rw [aB.push_n];omega) _)⟩
theorem ze (L p:List UInt8):EvF aG ovD 147 [.string (mkB L),.string (bs p)] σ (.bool (decide (L.take p.length=p))) σ:=by
 have a0:EvF aG ovD 150 [.string (mkB L),.string (bs p)] σ (.bool (decide (L.take p.length=p))) σ:=by
  refine EvF.of (T150_eq _ _) rfl ?_
  have hs:(bs p).size=p.length:=rfl
  rw [T150,aI,hs,bW,aC]
  by_cases h:p.length≤L.length
  ·rw [if_pos (by simp;omega),aQ]
   refine ⟨by simp;omega,?_⟩
   rw [wp_ret]
   simp only [T150k0,aW,aL,bA,aJ]
   rw [wp_ret,ext_0,xj,tl_bs]
   refine ⟨?_,rfl⟩
   congr 2
   by_cases e:L.take p.length=p
   ·rw [e];simp
   ·simp [e]
  ·rw [if_neg (by simp;omega),wp_ret]
   simp only [T150k0,aW,aL,bA,aJ]
   rw [wp_ret]
   refine ⟨?_,rfl⟩
   have:¬ L.take p.length=p:=by
    intro e
    have:=congrArg List.length e
    rw [List.length_take] at this
    omega
   simp [this]
 refine EvF.of (T147_eq _ _) rfl ?_
 rw [T147,aD,WpF.eq a0,bA,wp_ret]
 exact ⟨rfl,rfl⟩
def EvB (p:Pg) (σ:aB) (b:Bool):Prop:=∀ Q:cN,Wp aG ovD p σ Q=Q .normal [.bool b] σ
theorem EvB.ret (σ:aB) (b:Bool):EvB (.ret .normal [.bool b]) σ b:=fun Q=>by rw [wp_ret]
theorem EvB.cond {p:Pg} {σ:aB} {b c:Bool} (h:EvB p σ b):EvB (bif c then .ret .normal [.bool c] else p) σ (c||b):=by
 cases c with
 |true=>exact EvB.ret σ true
 |false=>exact h
theorem EvB.join {p:Pg} {k:Ex→List Value→Pg} {σ:aB} {b:Bool} (h:EvB p σ b) (hk:∀ x,EvB (k .normal [.bool x]) σ x):EvB (.join p k) σ b:=fun Q=>by rw [aI,h,hk b]
theorem ev_isKey (t:List UInt8):EvF aG ovD 146 [.string (mkB t)] σ (.bool (iR t)) σ:=by
 refine EvF.of (T146_eq _) rfl ?_
 have hk:∃ b,b=iR t∧Wp aG ovD (T146k17 .normal [.bool b]) σ (fun e vs σ1=>Wp aG ovD (T146k18 e vs) σ1 fun _ vs σ1=>vs=[.bool (iR t)]∧σ1=σ):=by
  refine ⟨_,rfl,?_⟩
  simp only [T146k17,aW,aL,bA,aJ]
  rw [aC]
  cases iR t with
  |true=>
   rw [if_pos rfl,wp_ret]
   simp only [T146k18,aW,aL,bA,aJ]
   rw [wp_ret]
   exact ⟨rfl,rfl⟩
  |false=>
   rw [if_neg (by simp),wp_ret]
   simp only [T146k18,jT,aW,aL,bA,aJ]
   rw [wp_ret]
   exact ⟨rfl,rfl⟩
 obtain ⟨b,hb,hk⟩:=hk
 rw [T146,aI,aI]
 have pass:∀ {k:Ex→List Value→Pg},(∀ x,k .normal [.bool x]=.ret .normal [.bool x])→∀ x,EvB (k .normal [.bool x]) σ x:=fun h x=>by rw [h];exact EvB.ret _ _
 have passK:∀ x:Bool,T146k0 .normal [.bool x]=.ret .normal [.bool x]:=fun x=>by simp only [T146k0,aW,aL,bA,aJ]
 have key:∀ p,(∃ c,EvB p σ c∧c=b)→Wp aG ovD p σ fun e vs σ1=>Wp aG ovD (T146k17 e vs) σ1 fun e vs σ1=>Wp aG ovD (T146k18 e vs) σ1 fun _ vs σ1=>vs=[.bool (iR t)]∧σ1=σ:=by
  rintro p ⟨c,hp,rfl⟩
  rw [hp]
  exact hk
 apply key
 apply Exists.intro
 apply And.intro
 ·repeat' first
   |exact EvB.ret _ _
   |apply EvB.cond
   |(apply EvB.join;case hk=>exact pass fun x=>passK x)
 ·rw [hb]
  simp only [iR,keys,List.any_cons,List.any_nil,xj,tl_bs,Bool.or_false]
theorem wp_value (t:List UInt8) (ht:∀ b∈t,48≤b.toNat∧b.toNat≤57) {Q:Value→aB→Prop} (hQ:∀ n σ',Frm σ σ' NoB→Q (.tuple #[.int .i64 n,.bool (mL t 0)]) σ'):
  WpF aG ovD 136 [.string (mkB t)] σ Q:=by
 refine WpF.of (T136_eq _) rfl ?_
 rw [T136,aY,xy]
 simp only [jG,bO]
 refine Wp.loop (fun m st σ'=>∃ (p:Nat) (n:Int),m=t.length - p∧p≤t.length∧Frm σ σ' NoB∧σ.n<σ'.n∧σ'.get σ.n=some (.iter (mkB t) p)∧0≤n∧n≤4611686018427387903∧st=[.int .i64 n,.bool false,.int .i64 0]∧mL t 0=mL (t.drop p) n) t.length
  ⟨0,0,rfl,by omega,Frm.rng _ _,by rw [aB.push_n];omega,eG _ _,by omega,by omega,rfl,by simp⟩ ?_
 rintro m st σ' ⟨p,n,rfl,hp,hF,hn,a0,h0,h1,rfl,hv⟩
 simp only [T136b0,aL,aO,bA,aJ]
 by_cases a1:p<t.length
 ·obtain ⟨b,r,hb⟩:∃ b r,t.drop p=b::r:=by
   cases hX:t.drop p with
   |nil=>simp at hX;omega
   |cons b r=>exact ⟨b,r,rfl⟩
  have a4:=ht b (List.mem_of_mem_drop (by rw [hb];simp))
  have hr:r=t.drop (p+1):=by
   have:=congrArg (List.drop 1) hb
   rw [List.drop_drop] at this
   simpa using this.symm
  have hd:=lO (b:=b) (r:=r) (by omega)
  rw [iL a0 (by rw [bW];exact a1),nX t p hp,hb,hd,aI]
  simp only
  have e32:wi32 ((b.toNat:Int) - 48)=(b.toNat:Int) - 48:=wi32_in (by omega)
  have e64:aT ((b.toNat:Int) - 48)=(b.toNat:Int) - 48:=aV (by omega)
  have ex:aT (4611686018427387903 - ((b.toNat:Int) - 48))=4611686018427387903 - ((b.toNat:Int) - 48):=aV (by omega)
  have ed:Int.tdiv (4611686018427387903 - ((b.toNat:Int) - 48)) 10=(4611686018427387903 - ((b.toNat:Int) - 48)) / 10:=Int.tdiv_eq_ediv_of_nonneg (by omega)
  have ed2:aT (Int.tdiv (4611686018427387903 - ((b.toNat:Int) - 48)) 10)=Int.tdiv (4611686018427387903 - ((b.toNat:Int) - 48)) 10:=aV (by rw [ed];omega)
  rw [e32,e64,ex,ed2,aC]
  rw [hb,show mL (b::r) n=if n>Int.tdiv (4611686018427387903 - ((b.toNat:Int) - 48)) 10 then false else mL r (10*n+((b.toNat:Int) - 48)) from rfl] at hv
  by_cases hc:n>Int.tdiv (4611686018427387903 - ((b.toNat:Int) - 48)) 10
  ·rw [if_pos hc] at hv
   rw [if_pos (by simpa using hc),wp_ret]
   simp only [T136k0,aW,aL,aO,bA,aJ]
   rw [wp_ret]
   simp only [T136k1,vX,aW,aL,aO,bA,aJ]
   rw [wp_ret,←hv]
   exact ⟨_,rfl,hQ _ _ (hF.putNew (Nat.le_refl _) hn _)⟩
  ·rw [if_neg hc] at hv
   rw [if_neg (by simpa using hc),wp_ret]
   have a3:aT (10*n)=10*n:=aV (by rw [ed] at hc;omega)
   have a2:aT (10*n+((b.toNat:Int) - 48))=10*n+((b.toNat:Int) - 48):=aV (by rw [ed] at hc;omega)
   simp only [T136k0,jT,aW,aL,aO,bA,aJ]
   rw [wp_ret,a3,a2]
   refine ⟨t.length - (p+1),by omega,p+1,10*n+((b.toNat:Int) - 48),rfl,by omega,hF.putNew (Nat.le_refl _) hn _,hn,eC _ _ _,by omega,by rw [ed] at hc;omega,rfl,?_⟩
   rw [hv,hr]
 ·obtain rfl:p=t.length:=by omega
  rw [oC a0 (by rw [bW];omega),wp_ret]
  simp only [T136k1,aW,aL,aO,bA,aJ]
  rw [List.drop_length] at hv
  have:mL t 0=true:=hv
  rw [wp_ret,←this]
  exact ⟨_,rfl,hQ _ _ hF⟩
theorem wp_marked {L:List UInt8} (hL:L≠[]) {Q:Value→aB→Prop} (hQ:∀ σ',Frm σ σ' NoB→Q (wv (oK L).1 (oK L).2 0 0) σ'):WpF aG ovD 137 [.string (mkB L)] σ Q:=by
 refine WpF.of (T137_eq _) rfl ?_
 rw [T137]
 refine aP fun σ1 b2 a2 b1=>?_
 rw [aY,cT]
 simp only [bT]
 have a5:Frm σ1 (σ1.newBlk [.string (bs [58,61]),.string (bs [45,62])] 1) NoB:=Frm.new _ _ _ _
 have a4:=Row.new σ1 1 [.string (bs [58,61]),.string (bs [45,62])] 2 (by decide) rfl (by intro x hx;simp at hx;rcases hx with rfl|rfl<;>rfl)
 generalize σ1.newBlk [.string (bs [58,61]),.string (bs [45,62])] 1=σ2 at a5 a4
 have b0:=a5.stN b1
 have a6:=b2.seq a5
 have done:∀ (σ3:aB) (x:List Value) (k:Int) (t:List UInt8),Frm σ σ3 NoB→St σ3 σ.n [.int .i64 k,.string (mkB t),.int .i64 0,.int .i64 0]→oK L=(k,t)→
   Wp aG ovD (.act (ldN 4 ⟨σ.n,0,some 0⟩) fun v40=>.ret .ret [v40]) σ3 fun _ vs σ'=>∃ v,vs=[v]∧Q v σ':=by
  intro σ3 x k t a1 a0 he
  rw [aS a0 4 rfl,wp_ret]
  have:=hQ σ3 a1
  rw [he] at this
  exact ⟨_,rfl,this⟩
 have setW:∀ (k:Int) (t:List UInt8) (p:Pg) (R:cN),(∀ σ3,Frm σ σ3 NoB→St σ3 σ.n [.int .i64 k,.string (mkB t),.int .i64 0,.int .i64 0]→Wp aG ovD p σ3 R)→
   Wp aG ovD (.act (stC ⟨σ.n,0,some 0⟩ [.int .i64 k,.string (mkB t),.int .i64 0,.int .i64 0]) fun v=>cE v fun l=>aA l p) σ2 R:=by
  intro k t p R h
  refine bC b0 rfl rfl fun σ3 a1 b3 a0=>h σ3 (a6.fresh a1 fun j hj e=>by omega) a0
 refine Wp.count 2 (fun j st σ'=>σ'=σ2∧st=[.int .i64 ((j:Nat):Int)]∧(1≤j→L.take 2≠[58,61])∧(2≤j→L.take 2≠[45,62])) ⟨rfl,rfl,by omega,by omega⟩ ?_ ?_
 ·rintro j st σ' hj ⟨rfl,rfl,a2,a7⟩
  have ej:aT ((j:Int)+1)=((j+1:Nat):Int):=by rw [aV (by omega)];omega
  simp only [T137b0,aL,aO,aJ,bO]
  rw [aC,if_pos (by simp;omega),aI,aQ]
  refine ⟨by simp;omega,?_⟩
  rw [Int.toNat_natCast]
  have a8:j=0∨j=1:=by omega
  rcases a8 with rfl|rfl
  ·rw [mH a4 (v:=.string (bs [58,61])) rfl,fK,aD,WpF.eq (ze _ _),bA,aC]
   by_cases h1:L.take 2=[58,61]
   ·rw [if_pos (by simpa using h1)]
    refine setW 5 [58,61] _ _ fun σ3 a1 a0=>?_
    rw [wp_ret]
    simp only [T137k0,aW,aJ]
    rw [wp_ret]
    simp only [T137k2,vX,aW,aL,aO,aJ]
    exact done σ3 [] 5 [58,61] a1 a0 (by unfold oK;rw [if_pos h1])
   ·rw [if_neg (by simpa using h1),wp_ret]
    simp only [T137k0,jT,aW,aJ]
    rw [wp_ret,ej]
    exact ⟨rfl,rfl,fun _=>h1,by omega⟩
  ·rw [mH a4 (v:=.string (bs [45,62])) rfl,fK,aD,WpF.eq (ze _ _),bA,aC]
   by_cases h1:L.take 2=[45,62]
   ·rw [if_pos (by simpa using h1)]
    refine setW 5 [45,62] _ _ fun σ3 a1 a0=>?_
    rw [wp_ret]
    simp only [T137k0,aW,aJ]
    rw [wp_ret]
    simp only [T137k2,vX,aW,aL,aO,aJ]
    exact done σ3 [] 5 [45,62] a1 a0 (by unfold oK;rw [if_neg (a2 (by omega)),if_pos h1])
   ·rw [if_neg (by simpa using h1),wp_ret]
    simp only [T137k0,jT,aW,aJ]
    rw [wp_ret,ej]
    exact ⟨rfl,rfl,fun _=>a2 (by omega),fun _=>h1⟩
 ·rintro st σ' ⟨rfl,rfl,a2,a7⟩
  have h1:=a2 (by omega)
  have h2:=a7 (by omega)
  obtain ⟨b,r,rfl⟩:∃ b r,L=b::r:=by
   cases L with
   |nil=>exact absurd rfl hL
   |cons b r=>exact ⟨b,r,rfl⟩
  have a9:cM (mkB (b::r)) 0=(b.toNat:Int):=rfl
  have a3:(mkB (b::r)).size=r.length+1:=rfl
  simp only [T137b0,aL,aO,aJ,bO]
  rw [aC,if_neg (by simp),wp_ret]
  simp only [T137k2,aW,aL,aO,aJ]
  rw [aI,aQ]
  refine ⟨by simp [a3],?_⟩
  rw [a9,aC]
  have bad:b=62∨b=58→Wp aG ovD (T137k1 ⟨σ.n,0,some 0⟩ (mkB (b::r)) .normal [.bool true]) σ' fun _ vs σ'=>∃ v,vs=[v]∧Q v σ':=by
   intro hb
   simp only [T137k1,aW,aL,bA,aJ]
   rw [aC,if_pos rfl]
   refine setW 0 [] _ _ fun σ3 a1 a0=>?_
   exact done σ3 [] 0 [] a1 a0 (by unfold oK;rw [if_neg h1,if_neg h2,if_pos (by simpa using hb)])
  by_cases c1:b=62
  ·subst c1
   rw [if_neg (by simp),wp_ret]
   exact bad (.inl rfl)
  ·have n1:¬ ((b.toNat:Int)=62):=fun e=>c1 (UInt8.toNat_inj.1 (by show b.toNat=62;omega))
   rw [if_pos (by simpa using n1),aQ]
   refine ⟨by simp [a3],?_⟩
   rw [wp_ret]
   by_cases c2:b=58
   ·subst c2
    exact bad (.inr rfl)
   ·have n2:¬ ((b.toNat:Int)=58):=fun e=>c2 (UInt8.toNat_inj.1 (by show b.toNat=58;omega))
    have e2:((b.toNat:Int)==58)=false:=by simpa using n2
    rw [e2]
    simp only [T137k1,aW,aL,bA,aJ]
    rw [aC,if_neg (by simp),aQ]
    refine ⟨by simp [a3];omega,?_⟩
    rw [ext_0]
    refine setW 5 _ _ _ fun σ3 a1 a0=>?_
    exact done σ3 [] 5 _ a1 a0 (by unfold oK;rw [if_neg h1,if_neg h2,if_neg (by simp [c1,c2])])
theorem wp_named {L:List UInt8} (hL:L≠[]) {Q:Value→aB→Prop} (hQ:∀ σ',Frm σ σ' NoB→Q (wv (uX L).1 (uX L).2 0 0) σ'):WpF aG ovD 133 [.string (mkB L)] σ Q:=by
 refine WpF.of (T133_eq _) rfl ?_
 have b5:=qF (may:=lod) L
 rw [T133]
 refine aP fun σ1 c1 c6 b9=>?_
 rw [aD]
 refine wp_run cls_lod L fun σ2 a9=>?_
 have b8:=a9.stN b9
 rw [aO,aQ]
 refine ⟨by simp [bW];omega,?_⟩
 rw [Int.toNat_natCast,ext_0]
 refine aP fun σ3 b3 c5 b1=>?_
 have a7:=b3.stN b8
 generalize hA:σ2.n=A at b1
 have c7:σ.n<A:=by rw [←hA];have:=a9.n;omega
 refine bC b1 rfl rfl fun σ4 b2 c4 b7=>?_
 have a6:=b2.st a7 (by omega)
 have b0:Frm σ σ4 NoB:=((c1.seq a9).seq b3).fresh b2 fun j hj e=>by omega
 rw [aI,aD]
 refine wp_upperL hL fun σ5 a8=>?_
 have a4:=a8.stN b7
 have a0:=a8.stN a6
 have a2:=b0.seq a8
 have fin:∀ (σ6:aB) (k:Int),Frm σ σ6 NoB→St σ6 A [.int .i64 k,.string (mkB (L.take (run lod L))),.int .i64 0,.int .i64 0]→St σ6 σ.n [.int .i64 0,.string (bs []),.int .i64 0,.int .i64 0]→(uX L).1=k→
   Wp aG ovD (T133k2 ⟨A,0,some 0⟩ ⟨σ.n,0,some 0⟩ .normal []) σ6 fun _ vs σ'=>∃ v,vs=[v]∧Q v σ':=by
  intro σ6 k a1 a3 a5 hk
  simp only [T133k2,aW,aJ]
  rw [aS a3 4 rfl]
  simp only [mY,aL,aO,fK,aJ]
  refine bC a5 rfl rfl fun σ7 c0 c3 b6=>?_
  rw [aS b6 4 rfl,wp_ret]
  have:=hQ σ7 (a1.fresh c0 fun j hj e=>by omega)
  rw [hk] at this
  exact ⟨_,rfl,this⟩
 rw [bA,aI,aC]
 by_cases hu:isUpperU ((bX L).1:Nat)=true
 ·rw [if_pos hu]
  refine bB a4 (by simp) rfl fun σ6 a1 b4 a3=>?_
  rw [wp_ret]
  simp only [T133k1,aW,aJ]
  rw [wp_ret]
  refine fin σ6 3 (a2.fresh a1 fun j hj e=>by omega) a3 (a1.st a0 (by omega)) ?_
  unfold uX
  rw [if_pos hu]
 ·rw [if_neg hu,aE a4 (v:=.string (mkB (L.take (run lod L)))) rfl,fK,aD,WpF.eq (ev_isKey _),bA,aI,aC]
  by_cases hk:iR (L.take (run lod L))=true
  ·rw [if_pos hk]
   refine bB a4 (by simp) rfl fun σ6 a1 b4 a3=>?_
   rw [wp_ret]
   simp only [T133k0,T133k1,aW,aJ]
   rw [wp_ret]
   simp only [aW,aJ]
   rw [wp_ret]
   refine fin σ6 4 (a2.fresh a1 fun j hj e=>by omega) a3 (a1.st a0 (by omega)) ?_
   unfold uX
   rw [if_neg hu,if_pos hk]
  ·rw [if_neg hk,wp_ret]
   simp only [T133k0,T133k1,aW,aJ]
   rw [wp_ret]
   simp only [aW,aJ]
   rw [wp_ret]
   refine fin σ5 2 a2 a4 a0 ?_
   unfold uX
   rw [if_neg hu,if_neg hk]
theorem vx:∀ (n:Nat) (L:List UInt8),L.length≤n→∀ b∈L.take (run dig L),48≤b.toNat∧b.toNat≤57
 |0,L,h,b,hb=>by
  have:L=[]:=List.eq_nil_of_length_eq_zero (by omega)
  subst this
  simp at hb
 |n+1,L,h,b,hb=>by
  by_cases hL:L=[]
  ·subst hL;simp at hb
  ·rw [gR hL] at hb
   split at hb
   ·rename_i hm
    have hc:dW ((bX L).1:Nat)=2:=by simpa [dig] using hm
    have hd:=cls_dig hc
    obtain ⟨a,r,rfl,ha,hw⟩:=xQ hL (by omega)
    rw [hw,Nat.add_comm,List.take_succ_cons,List.drop_succ_cons,List.drop_zero] at hb
    rcases List.mem_cons.1 hb with rfl|hb
    ·omega
    ·exact vx n r (by simpa using h) b hb
   ·simp at hb
theorem wp_word {L:List UInt8} (hL:L≠[]) {Q:Value→aB→Prop} (hQ:∀ σ',Frm σ σ' NoB→Q (wv (dC L).1 (dC L).2 0 0) σ'):WpF aG ovD 119 [.string (mkB L)] σ Q:=by
 refine WpF.of (T119_eq _) rfl ?_
 rw [T119]
 refine aP fun σ1 a5 b2 a4=>?_
 rw [aD,WpF.eq (ev_decode hL _)]
 simp only [dA,aL,aO,aJ]
 rw [aD,WpF.eq (wo (kW L) _),aO,aI,aI]
 have fin:∀ (σ2:aB) (k:Int) (t:List UInt8),Frm σ σ2 NoB→St σ2 σ.n [.int .i64 k,.string (mkB t),.int .i64 0,.int .i64 0]→dC L=(k,t)→
   Wp aG ovD (T119k2 ⟨σ.n,0,some 0⟩ .ret []) σ2 fun _ vs σ'=>∃ v,vs=[v]∧Q v σ':=by
  intro σ2 k t a0 a9 he
  simp only [T119k2,aW,aJ]
  rw [aS a9 4 rfl,wp_ret]
  have:=hQ σ2 a0
  rw [he] at this
  exact ⟨_,rfl,this⟩
 have no:∀ (σ2:aB),Frm σ1 σ2 NoB→dC L=(0,[])→Wp aG ovD (T119k2 ⟨σ.n,0,some 0⟩ .normal []) σ2 fun _ vs σ'=>∃ v,vs=[v]∧Q v σ':=by
  intro σ2 a0 he
  simp only [T119k2,jT,aW,aJ]
  refine bC (a0.stN a4) rfl rfl fun σ3 a1 a6 a3=>?_
  rw [aS a3 4 rfl,wp_ret]
  have:=hQ σ3 ((a5.seq a0).fresh a1 fun j hj e=>by omega)
  rw [he] at this
  exact ⟨_,rfl,this⟩
 rw [aC]
 by_cases h1:dW ((bX L).1:Nat)=1
 ·rw [if_pos (by simpa using h1),aC]
  by_cases h2:(bX L).1=39
  ·rw [if_neg (by simp [h2]),wp_ret]
   simp only [T119k1,jT,aW,aJ]
   rw [wp_ret]
   exact no σ1 (Frm.refl _ _) (by unfold dC;rw [if_pos h1,if_pos h2])
  ·rw [if_pos (by simp;omega),aD]
   refine wp_named hL fun σ2 a0=>?_
   unfold wv
   simp only [mY,aL,aO,fK,aJ]
   refine bC (a0.stN a4) rfl rfl fun σ3 a1 a6 a3=>?_
   rw [wp_ret]
   simp only [T119k1,aW,aJ]
   rw [wp_ret]
   exact fin σ3 _ _ ((a5.seq a0).fresh a1 fun j hj e=>by omega) a3 (by unfold dC;rw [if_pos h1,if_neg h2])
 ·rw [if_neg (by simpa using h1),aI,aC]
  by_cases h2:dW ((bX L).1:Nat)=2
  ·have a7:=qF (may:=dig) L
   rw [if_pos (by simpa using h2),aD]
   refine wp_run cls_dgt L fun σ2 a0=>?_
   rw [aO,aQ]
   refine ⟨by simp [bW];omega,?_⟩
   rw [Int.toNat_natCast,ext_0,aD]
   refine wp_value _ (vx _ L (Nat.le_refl _)) fun n σ3 a1=>?_
   simp only [dA,aL,aO,bA,aJ]
   rw [aC]
   have a2:=a0.seq a1
   by_cases h3:mL (L.take (run dig L)) 0=true
   ·rw [if_pos h3,aQ]
    refine ⟨by simp [bW];omega,?_⟩
    refine bC (a2.stN a4) rfl rfl fun σ4 b0 b1 a8=>?_
    rw [wp_ret]
    simp only [T119k0,T119k1,aW,aJ]
    rw [wp_ret]
    simp only [aW,aJ]
    rw [wp_ret]
    exact fin σ4 _ _ ((a5.seq a2).fresh b0 fun j hj e=>by omega) a8 (by unfold dC;rw [if_neg h1,if_pos h2,if_pos h3])
   ·rw [if_neg h3,wp_ret]
    simp only [T119k0,T119k1,jT,aW,aJ]
    rw [wp_ret]
    simp only [jT,aW,aJ]
    rw [wp_ret]
    exact no σ3 a2 (by unfold dC;rw [if_neg h1,if_pos h2,if_neg h3])
  ·rw [if_neg (by simpa using h2),aC]
   by_cases h3:dW ((bX L).1:Nat)=4
   ·rw [if_pos (by simpa using h3),aD]
    refine wp_marked hL fun σ2 a0=>?_
    unfold wv
    simp only [mY,aL,aO,fK,aJ]
    refine bC (a0.stN a4) rfl rfl fun σ3 a1 a6 a3=>?_
    rw [wp_ret]
    simp only [T119k0,T119k1,aW,aJ]
    rw [wp_ret]
    simp only [aW,aJ]
    rw [wp_ret]
    exact fin σ3 _ _ ((a5.seq a0).fresh a1 fun j hj e=>by omega) a3 (by unfold dC;rw [if_neg h1,if_neg h2,if_pos h3])
   ·rw [if_neg (by simpa using h3),wp_ret]
    simp only [T119k0,T119k1,jT,aW,aJ]
    rw [wp_ret]
    simp only [jT,aW,aJ]
    rw [wp_ret]
    exact no σ1 (Frm.refl _ _) (by unfold dC;rw [if_neg h1,if_neg h2,if_neg h3])
end
end Go.Pg
namespace Go.Pg
open Go.Proofs Go.Utf8 Go.Lib
set_option linter.unusedSimpArgs false
theorem EvB.wp {p:Pg} {σ:aB} {b:Bool} (h:EvB p σ b) {Q:cN} (k:Q .normal [.bool b] σ):Wp aG ovD p σ Q:=by rw [h];exact k
def justM (k:Int) (s:List UInt8):Bool:=decide (s≠[])&&(decide (s.length≤4000)&&decide (dC s=(k,s)))
theorem justM_of {k:Int} {s:List UInt8} (h:wZ k s=true):justM k s=true:=by
 unfold wZ at h
 split at h
 ·cases h
 rename_i hl
 split at h
 ·rename_i w hw
  simp only [Bool.and_eq_true,decide_eq_true_eq] at h
  obtain ⟨h1,h2⟩:=h
  have hc:=(rU s (s.length+1) 0 0 [w] (Nat.zero_le _) (by rw [List.drop_zero];exact hw)).1
  obtain ⟨_,c1,c2,c3,_,c4,_⟩:=hc
  rw [h2] at c1 c2 c4
  have e:w.fr=0:=by omega
  rw [e,List.drop_zero,h1] at c4
  unfold justM
  simp only [Bool.and_eq_true,decide_eq_true_eq]
  exact ⟨c2,by omega,c4.eq⟩
 ·cases h
section
variable {σ:aB}
theorem vn {k:Int} {s:List UInt8} (hj:justM k s=true) {Q:Value→aB→Prop} (hQ:∀ σ',Frm σ σ' NoB→Q (.bool true) σ'):WpF aG ovD 105 [.string (mkB s),.int .i64 k] σ Q:=by
 unfold justM at hj
 simp only [Bool.and_eq_true,decide_eq_true_eq] at hj
 obtain ⟨h0,h1,h2⟩:=hj
 refine WpF.of (T105_eq _ _) rfl ?_
 rw [T105,aI,bS,aC,if_pos (by simp [h0])]
 simp only [wpS,T105k1,bW]
 rw [aC,if_neg (by simp;omega),aD]
 refine wp_word h0 fun σ1 a5=>?_
 unfold wv
 simp only [wpS]
 refine aP fun σ2 a4 a7 a2=>?_
 refine bC a2 rfl rfl fun σ3 a3 a6 a1=>?_
 have a0:=a5.seq (a4.fresh a3 fun j hj h=>by omega)
 rw [aI,aE a1 rfl]
 simp only [wpS,h2]
 rw [aC,if_pos (by simp),aE a1 rfl]
 simp only [wpS,T105k0,h2,fD]
 exact ⟨_,rfl,by simpa using hQ σ3 a0⟩
theorem jY {s:List UInt8} (h:sQ s=true) {Q:Value→aB→Prop} (hQ:∀ σ',Frm σ σ' NoB→Q (.bool true) σ'):WpF aG ovD 77 [.string (mkB s)] σ Q:=by
 unfold sQ at h
 simp only [Bool.and_eq_true,decide_eq_true_eq] at h
 refine WpF.of (T77_eq _) rfl ?_
 rw [T77,aI,bS,aC,if_pos (by simp [h.2]),aD]
 refine vn (justM_of h.1) fun σ1 a0=>?_
 simp only [wpS,T77k0]
 exact ⟨_,rfl,hQ σ1 a0⟩
theorem yI {s:List UInt8} (h:qp s=true) {Q:Value→aB→Prop} (hQ:∀ σ',Frm σ σ' NoB→Q (.bool true) σ'):WpF aG ovD 79 [.string (mkB s)] σ Q:=by
 refine WpF.of (T79_eq _) rfl ?_
 rw [T79,aD]
 refine vn (justM_of h) fun σ1 a0=>?_
 simp only [wpS]
 exact ⟨_,rfl,hQ σ1 a0⟩
theorem wp_number85 {v:NV} (q:Option Addr) (c:Nat) (h:nC v.x.k v.x.n=true):WpF aG ovD 108 [.agg (nvC v q c).toArray] σ fun w σ'=>w=.bool true∧Frm σ σ' NoB:=by
 refine WpF.of (T108_eq _ _ _ _ _ _ _ _ _) rfl ?_
 rw [T108]
 refine aP fun σ1 a1 a2 a0=>?_
 generalize σ.n=A at a0
 have a0:St σ1 A (nvC v q c):=a0
 rw [aE a0 rfl]
 simp only [wpS]
 refine EvB.wp (EvB.cond (EvB.ret _ _)) ?_
 simp only [wpS,T108k3]
 unfold nC at h
 rw [aC]
 by_cases h1:v.x.k=1∨v.x.k=23
 ·rw [if_pos h1] at h
  simp only [Bool.and_eq_true,decide_eq_true_eq] at h
  rw [if_pos (by simpa using h1),aI,aE a0 rfl]
  simp only [wpS]
  rw [aC,if_pos (by simpa using h.1),aE a0 rfl]
  simp only [wpS,T108k0,T108k4]
  exact ⟨_,rfl,by simpa using h.2,a1⟩
 ·rw [if_neg h1] at h
  rw [if_neg (by simpa using h1),aI]
  refine EvB.wp (EvB.cond (EvB.ret _ _)) ?_
  simp only [wpS,T108k2]
  rw [aC]
  by_cases h2:v.x.k=2∨v.x.k=24
  ·rw [if_pos h2] at h
   rw [if_pos (by simpa using h2),aI,aE a0 rfl]
   simp only [wpS]
   rw [aC]
   simp only [Bool.or_eq_true,decide_eq_true_eq] at h
   by_cases h3:v.x.n=0
   ·rw [if_neg (by simp [h3])]
    simp only [wpS,T108k1,T108k4]
    exact ⟨_,rfl,rfl,a1⟩
   ·rw [if_pos (by simpa using h3),aE a0 rfl]
    simp only [wpS,T108k1,T108k4]
    exact ⟨_,rfl,by rcases h with h|h;exact absurd h h3;simp [h],a1⟩
  ·rw [if_neg h2] at h
   rw [if_neg (by simpa using h2)]
   simp only [wpS,T108k4]
   rw [aE a0 rfl]
   simp only [wpS]
   exact ⟨_,rfl,by simpa using h,a1⟩
def zi (k:Int):Int × Int:=
 if k=5∨k=26 then (0,3) else if k=11 then (3,1000) else if k=6∨k=15∨k=16∨k=17∨k=19 then (1,1)
 else if k=7∨k=8∨k=9∨k=12∨k=13∨k=14∨k=20 then (2,2) else if k=10 then (3,3) else (0,0)
theorem EvB.pass {k:Ex→List Value→Pg} (h:∀ x,k .normal [.bool x]=.ret .normal [.bool x]) (x:Bool):EvB (k .normal [.bool x]) σ x:=by rw [h];exact EvB.ret _ _
theorem ev_kids87 (k:Int):EvF aG ovD 110 [.int .i64 k] σ (.tuple #[.int .i64 (zi k).1,.int .i64 (zi k).2]) σ:=by
 refine EvF.of (T110_eq _) rfl ?_
 have p:∀ {K:Ex→List Value→Pg},(∀ x,K .normal [.bool x]=.ret .normal [.bool x])→∀ x,EvB (K .normal [.bool x]) σ x:=fun h=>EvB.pass h
 rw [T110,aI]
 refine EvB.wp (EvB.cond (EvB.ret _ _)) ?_
 unfold zi
 simp only [wpS,T110k10]
 rw [aC]
 by_cases c1:k=5∨k=26
 ·rw [if_pos (by simpa using c1),if_pos c1]
  simp only [wpS,T110k11]
  exact ⟨trivial,trivial⟩
 rw [if_neg (by simpa using c1),if_neg c1,aC]
 by_cases c2:k=11
 ·rw [if_pos (by simpa using c2),if_pos c2]
  simp only [wpS,T110k11]
  exact ⟨trivial,trivial⟩
 rw [if_neg (by simpa using c2),if_neg c2,aI]
 refine EvB.wp (EvB.cond (EvB.join (EvB.cond (EvB.join (EvB.cond (EvB.join (EvB.cond (EvB.ret _ _)) (p fun x=>by simp only [wpS,T110k0]))) (p fun x=>by simp only [wpS,T110k1]))) (p fun x=>by simp only [wpS,T110k2]))) ?_
 simp only [wpS,T110k9]
 rw [aC]
 by_cases c3:k=6∨k=15∨k=16∨k=17∨k=19
 ·rw [if_pos (by simpa using c3),if_pos c3]
  simp only [wpS,T110k11]
  exact ⟨trivial,trivial⟩
 rw [if_neg (by simpa using c3),if_neg c3,aI]
 refine EvB.wp (EvB.cond (EvB.join (EvB.cond (EvB.join (EvB.cond (EvB.join (EvB.cond (EvB.join (EvB.cond (EvB.join (EvB.cond (EvB.ret _ _)) (p fun x=>by simp only [wpS,T110k3]))) (p fun x=>by simp only [wpS,T110k4]))) (p fun x=>by simp only [wpS,T110k5]))) (p fun x=>by simp only [wpS,T110k6]))) (p fun x=>by simp only [wpS,T110k7]))) ?_
 simp only [wpS,T110k8]
 rw [aC]
 by_cases c4:k=7∨k=8∨k=9∨k=12∨k=13∨k=14∨k=20
 ·rw [if_pos (by simpa using c4),if_pos c4]
  simp only [wpS,T110k11]
  exact ⟨trivial,trivial⟩
 rw [if_neg (by simpa using c4),if_neg c4,aC]
 by_cases c5:k=10
 ·rw [if_pos (by simpa using c5),if_pos c5]
  simp only [wpS,T110k11]
  exact ⟨trivial,trivial⟩
 ·rw [if_neg (by simpa using c5),if_neg c5]
  simp only [wpS,T110k11]
  exact ⟨trivial,trivial⟩
theorem kidsR_ok {k:Int} {n:Nat} (h1:1≤k) (h2:k≤26) (h:kV k n=true) (hn:n≤1000):(zi k).1≤(n:Int)∧(n:Int)≤(zi k).2∧(k=11→n % 2=1):=by
 have e:∃ i:Nat,i<27∧k=(i:Int):=⟨k.toNat,by omega,by omega⟩
 obtain ⟨i,hi,rfl⟩:=e
 have:∀ i:Fin 27,1≤i.1→(zi (i.1:Int)=if eQ.getD i.1 0= -2 then (0,3) else if eQ.getD i.1 0= -3 then (3,1000) else (eQ.getD i.1 0,eQ.getD i.1 0))∧(((i.1:Int)=11)→eQ.getD i.1 0= -3):=by decide
 obtain ⟨e1,e2⟩:=this ⟨i,hi⟩ (by show 1≤i;omega)
 rw [e1]
 unfold kV at h
 rw [Int.toNat_natCast] at h
 dsimp only at e2 ⊢
 split at h
 ·rename_i c
  rw [if_pos c]
  have h:n≤3:=by simpa using h
  refine ⟨by show (0:Int)≤n;omega,by show (n:Int)≤3;omega,fun a0=>?_⟩
  rw [e2 a0] at c
  exact absurd c (by decide)
 ·rename_i c
  rw [if_neg c]
  split at h
  ·rename_i c2
   rw [if_pos c2]
   simp only [Bool.and_eq_true,decide_eq_true_eq] at h
   exact ⟨by show (3:Int)≤n;omega,by show (n:Int)≤1000;omega,fun _=>h.2⟩
  ·rename_i c2
   rw [if_neg c2]
   have h:(n:Int)=eQ.getD i 0:=by simpa using h
   refine ⟨by simp only;omega,by simp only;omega,fun a0=>absurd (e2 a0) c2⟩
theorem wj {Y:Nat→Prop} {p:Option Addr} {c:Nat} {l:List (List UInt8)} (h:aR σ Y 1 (qZ σ Y) p l) (hl:l.length≤1000000000) (s:List UInt8):
  WpF aG ovD 81 [.slice p l.length c,.string (mkB s)] σ fun v σ'=>v=.bool (l.contains s)∧σ'=σ:=by
 refine WpF.of (T81_eq _ _ _ _) rfl ?_
 rw [T81,aD]
 refine WpF.of (T106_eq _ _ _ _) rfl ?_
 rw [T106]
 refine Wp.count l.length (fun j st σ'=>σ'=σ∧st=[.int .i64 ((j:Nat):Int),.int .i64 0]∧∀ i (hi:i<l.length),i<j→l[i]≠s) ⟨rfl,rfl,fun i _ h=>by omega⟩ ?_ ?_
 ·rintro j st σ' hj ⟨rfl,rfl,a0⟩
  have ej:aT ((j:Int)+1)=((j+1:Nat):Int):=by rw [aV (by omega)];omega
  unfold T106b0
  simp only [wpS]
  rw [aC,if_pos (by simp;omega),aI]
  refine dF h hj rfl fun cs a1=>⟨_,a1,?_⟩
  simp only [wpS,fD]
  rw [aC]
  by_cases he:s=l[j]
  ·rw [if_pos (by simpa using he)]
   simp only [wpS,T106k0,T106k1]
   refine ⟨_,rfl,?_⟩
   simp only [wpS]
   refine ⟨_,rfl,?_,trivial⟩
   rw [show l.contains s=true from List.contains_iff_mem.2 (by rw [he];exact List.getElem_mem hj)]
   simp
  ·rw [if_neg (by simpa using he)]
   simp only [wpS,T106k0,ej]
   refine ⟨trivial,trivial,fun i hi a2=>?_⟩
   by_cases h2:i=j
   ·subst h2;exact fun h=>he h.symm
   ·exact a0 i hi (by omega)
 ·rintro st σ' ⟨rfl,rfl,a0⟩
  unfold T106b0
  simp only [wpS]
  rw [aC,if_neg (by simp)]
  simp only [wpS,T106k1]
  refine ⟨_,rfl,?_⟩
  simp only [wpS]
  refine ⟨_,rfl,?_,trivial⟩
  have:l.contains s=false:=by
   rw [Bool.eq_false_iff]
   intro h
   obtain ⟨i,hi,he⟩:=List.mem_iff_getElem.1 (List.contains_iff_mem.1 h)
   exact a0 i hi hi he
  rw [this]
  try rfl
end
end Go.Pg
namespace Go.Pg
open Go.Proofs Go.Utf8 Go.Lib
set_option linter.unusedSimpArgs false
section
variable {σ:aB}
theorem past_kd {h:Act} {v:Value} {σ τ:aB} (e:h σ=some (v,τ)):past h v [σ]=true:=by
 simp [past,pJ,e,lG]
theorem wp_texts86 {v:NV} (q:Option Addr) (c:Nat) (hn:kE v.x.k v.x.nm=true) (hp:uA v.x.k v.x.pm=true):WpF aG ovD 109 [.agg (nvC v q c).toArray] σ fun w σ'=>w=.bool true∧Frm σ σ' NoB:=by
 have p:∀ {σ:aB} {K:Ex→List Value→Pg},(∀ x,K .normal [.bool x]=.ret .normal [.bool x])→∀ x,EvB (K .normal [.bool x]) σ x:=fun h=>EvB.pass h
 refine WpF.of (T109_eq _ _ _ _ _ _ _ _ _) rfl ?_
 rw [T109]
 refine aP fun σ1 a3 a4 a0=>?_
 generalize σ.n=A at a0
 have a0:St σ1 A (nvC v q c):=a0
 rw [aE a0 rfl]
 simp only [wpS]
 rw [aE a0 rfl]
 simp only [wpS]
 rw [aE a0 rfl]
 simp only [wpS]
 have fin:∀ τ,Frm σ1 τ NoB→Wp aG ovD (T109k9 .normal [.bool true,.bool true]) τ fun _ vs σ'=>∃ w,vs=[w]∧w=.bool true∧Frm σ σ' NoB:=by
  intro τ hτ
  simp only [wpS,T109k9]
  exact ⟨_,rfl,rfl,a3.seq hτ⟩
 refine EvB.wp (EvB.cond (EvB.join (EvB.cond (EvB.ret _ _)) (p fun x=>by simp only [wpS,T109k0]))) ?_
 simp only [wpS,T109k8]
 unfold kE at hn
 unfold uA at hp
 rw [aC]
 by_cases c1:v.x.k=4∨v.x.k=8∨v.x.k=22
 ·rw [if_pos (by omega)] at hn
  rw [if_neg (by omega)] at hp
  rw [if_pos (by simpa using c1),aE a0 rfl]
  simp only [wpS]
  rw [aD]
  refine jY hn fun τ hτ=>?_
  simp only [wpS,bS,hp,T109k7]
  exact fin τ hτ
 rw [if_neg (by simpa using c1),aI,aC]
 by_cases c2:v.x.k=9
 ·rw [if_pos (by omega)] at hn
  rw [if_pos (by omega)] at hp
  rw [if_pos (by simpa using c2),aE a0 rfl]
  simp only [wpS]
  rw [bK,aD]
  refine jY hn fun τ hτ=>?_
  simp only [wpS]
  rw [aE (hτ.stN a0) rfl,aQ]
  refine ⟨past_kd (a0.ldF rfl),?_⟩
  simp only [wpS]
  rw [aD]
  refine jY hp fun τ2 hτ2=>?_
  simp only [wpS,T109k6,T109k7]
  exact fin τ2 (hτ.seq hτ2)
 rw [if_neg (by simpa using c2),aI]
 refine EvB.wp (EvB.cond (EvB.ret _ _)) ?_
 simp only [wpS,T109k5]
 rw [aC]
 by_cases c3:v.x.k=6∨v.x.k=20
 ·rw [if_neg (by omega),if_neg (by omega),if_neg (by omega)] at hn
  rw [if_pos (by omega)] at hp
  rw [if_pos (by simpa using c3),aE a0 rfl]
  simp only [wpS]
  rw [aD]
  refine jY hp fun τ hτ=>?_
  simp only [wpS,bS,hn,T109k4,T109k6,T109k7]
  exact fin τ hτ
 rw [if_neg (by omega)] at hp
 rw [if_neg (by simpa using c3),aI]
 refine EvB.wp (EvB.cond (EvB.ret _ _)) ?_
 simp only [wpS,T109k3]
 rw [if_neg (by omega)] at hn
 rw [aC]
 by_cases c4:v.x.k=5∨v.x.k=26
 ·rw [if_pos c4] at hn
  rw [if_pos (by simpa using c4),aE a0 rfl]
  simp only [wpS]
  rw [aD]
  refine yI hn fun τ hτ=>?_
  simp only [wpS,bS,hp,T109k2,T109k4,T109k6,T109k7]
  exact fin τ hτ
 rw [if_neg c4] at hn
 rw [if_neg (by simpa using c4),aI,aC]
 by_cases c5:v.x.k=14
 ·rw [if_pos c5] at hn
  rw [if_pos (by simpa using c5),aY,cT]
  have a1:Frm σ1 (σ1.newBlk (([[43],[45],[42],[60],[61]]:List (List UInt8)).map fun t=>Value.string (mkB t)) 1) NoB:=Frm.new _ _ _ _
  have a2:=Row.new σ1 1 (([[43],[45],[42],[60],[61]]:List (List UInt8)).map fun t=>Value.string (mkB t)) 5 (by decide) rfl (by intro y hy;obtain ⟨t,_,rfl⟩:=List.mem_map.1 hy;rfl)
  rw [show ([(.string (bs [43])),(.string (bs [45])),(.string (bs [42])),(.string (bs [60])),(.string (bs [61]))]:List Value)=([[43],[45],[42],[60],[61]]:List (List UInt8)).map fun t=>Value.string (mkB t) from rfl]
  generalize σ1.newBlk (([[43],[45],[42],[60],[61]]:List (List UInt8)).map fun t=>Value.string (mkB t)) 1=σ2 at a1 a2 ⊢
  simp only [wpS]
  rw [aE (a1.stN a0) rfl]
  simp only [wpS]
  rw [aD]
  refine WpF.mono (wj (l:=[[43],[45],[42],[60],[61]]) (gV (.inr ⟨0,1,rfl,a2⟩)) (by decide) v.x.nm) ?_
  rintro _ _ ⟨rfl,rfl⟩
  have e:([[43],[45],[42],[60],[61]]:List (List UInt8)).contains v.x.nm=true:=by
   simp only [Bool.or_eq_true,decide_eq_true_eq] at hn
   rw [List.contains_iff_mem]
   simp only [List.mem_cons,List.not_mem_nil,or_false]
   rcases hn with (((h|h)|h)|h)|h<;>simp [h]
  simp only [wpS,e,bS,hp,T109k1,T109k2,T109k4,T109k6,T109k7]
  exact fin _ a1
 ·rw [if_neg c5] at hn
  rw [if_neg (by simpa using c5)]
  simp only [wpS,bS,hn,hp,T109k1,T109k2,T109k4,T109k6,T109k7]
  exact fin σ1 (Frm.refl _ _)
theorem wp_alone62 {Y:Nat→Prop} {pn pd:Option Addr} {N:List NV} {D:List Dc} {cn cd:Nat} (hT:dK σ Y pn N pd D) (hD:D.length≤1000000) (hC:∀ d∈D,d.cons.length≤1000000) {v:NV} (q:Option Addr) (k:Nat) (hs:bR v=true) (hk:v.kids.length≤1000) (hc:v.x.k=5∨v.x.k=26→∃ x,ofD v.x.nm 0 D=some x∧x.2.2=v.kids.length):
  WpF aG ovD 84 [trV pn N.length cn pd D.length cd,.agg (nvC v q k).toArray] σ fun w σ'=>w=.bool true∧Frm σ σ' NoB:=by
 unfold bR at hs
 simp only [Bool.and_eq_true,decide_eq_true_eq] at hs
 obtain ⟨⟨⟨⟨⟨h1,h2⟩,h3⟩,h4⟩,h5⟩,h6⟩:=hs
 obtain ⟨k1,k2,k3⟩:=kidsR_ok h1 h2 h3 hk
 refine WpF.of (T84_eq _ _ _ _ _ _ _ _ _ _ _ _ _ _ _) rfl ?_
 rw [T84]
 refine aP fun σ1 c0 c3 b5=>?_
 generalize σ.n=A at b5
 refine aP fun σ2 b6 c1 a1=>?_
 have a8:=b6.stN b5
 generalize σ1.n=B at a1
 have a1:St σ2 B (nvC v q k):=a1
 have b1:=c0.seq b6
 rw [aI,aE a1 rfl]
 simp only [wpS]
 rw [aC,if_pos (by simp;omega),aE a1 rfl]
 simp only [wpS]
 rw [aC,if_pos (by simp;omega),aS a1 7 rfl]
 have ev:∀ {f:List Value→Pg},asAgg (.agg (nvC v q k).toArray) f=f (nvC v q k):=fun {f}=>by rw [mY]
 unfold nvC at a1 ⊢
 simp only [wpS]
 rw [aD]
 refine WpF.mono (wp_number85 q k h4) ?_
 rintro _ σ3 ⟨rfl,b0⟩
 simp only [wpS]
 have b4:=b0.stN a1
 rw [aC,if_pos (by rfl),aS b4 7 rfl]
 simp only [wpS]
 rw [aD]
 refine WpF.mono (wp_texts86 q k h5 h6) ?_
 rintro _ σ4 ⟨rfl,a9⟩
 have a0:=a9.stN b4
 have a3:=(b0.seq a9).stN a8
 have a2:=b1.seq (b0.seq a9)
 have b3:=hT.frm a2
 simp only [wpS,T84k3,Bool.not_true]
 rw [aC,if_neg (by simp),aE a0 rfl]
 simp only [wpS]
 rw [aD,WpF.eq (ev_kids87 v.x.k)]
 simp only [wpS]
 rw [aE a0 (i:=4) rfl]
 simp only [wpS]
 rw [aC,if_pos (by simp;omega),aE a0 (i:=4) rfl]
 simp only [wpS]
 rw [aC,if_pos (by simp;omega),aE a0 (i:=0) rfl]
 simp only [wpS]
 have next:Wp aG ovD (T84k2 ⟨B,0,some 0⟩ ⟨A,0,some 0⟩ .normal [.bool false]) σ4 fun _ vs σ'=>∃ w,vs=[w]∧w=.bool true∧Frm σ σ' NoB:=by
  simp only [wpS,T84k2]
  rw [aC,if_neg (by simp),aI,aE a0 (i:=0) rfl]
  simp only [wpS]
  have cont:∀ b:Bool,(b=true↔¬ (v.x.k=5∨v.x.k=26))→Wp aG ovD (T84k1 ⟨A,0,some 0⟩ ⟨B,0,some 0⟩ .normal [.bool b]) σ4 fun _ vs σ'=>∃ w,vs=[w]∧w=.bool true∧Frm σ σ' NoB:=by
   intro b hb
   simp only [wpS,T84k1]
   rw [aC]
   by_cases a5:v.x.k=5∨v.x.k=26
   case neg=>
    rw [if_pos (hb.2 a5)]
    simp only [wpS]
    exact ⟨_,rfl,rfl,a2⟩
   rw [if_neg fun h=>hb.1 h a5,aS a3 2 rfl]
   simp only [wpS]
   rw [aE a0 (i:=2) rfl]
   simp only [wpS]
   rw [aD]
   refine WpF.mono (wp_Of30 b3.decls hD hC v.x.nm) ?_
   rintro _ σ5 ⟨rfl,a4⟩
   obtain ⟨⟨d,c,m⟩,b2,hm⟩:=hc a5
   have b9:=a4.stN a0
   have a7:=a4.stN a3
   have b8:=b3.frm a4
   obtain ⟨_,g1,g2,g3⟩:=zI _ _ _ _ b2
   simp only [Nat.sub_zero] at g1 g2 g3 hm
   rw [b2,sR]
   simp only [wpS]
   rw [aC,if_pos (by rfl),aE a7 rfl]
   simp only [wpS]
   refine dI b8.decls g1 rfl (o:=1) (by decide) fun cs a6=>?_
   obtain ⟨q1,k1,rfl,b7⟩:=a6
   refine ⟨_,rfl,?_⟩
   simp only [wpS]
   refine dI b7 g2 rfl (o:=1) (by decide) fun cs a6=>?_
   obtain ⟨q2,k2,rfl,_,_⟩:=a6
   refine ⟨_,rfl,?_⟩
   simp only [wpS]
   rw [aE b9 (i:=4) rfl]
   simp only [wpS,T84k0]
   exact ⟨_,rfl,by rw [g3,hm];simp,a2.seq a4⟩
  rw [aC]
  by_cases k5:v.x.k=5
  ·rw [if_neg (by simp [k5])]
   simp only [wpS]
   exact cont false ⟨fun h=>Bool.noConfusion h,fun h=>absurd (Or.inl k5) h⟩
  ·rw [if_pos (by simpa using k5),aE a0 (i:=0) rfl]
   simp only [wpS]
   refine cont _ ?_
   rw [bne_iff_ne]
   constructor
   ·rintro h (h'|h')
    ·exact k5 h'
    ·exact h h'
   ·exact fun h h'=>h (.inr h')
 rw [aC]
 by_cases k11:v.x.k=11
 ·rw [if_pos (by simpa using k11),aE a0 (i:=4) rfl]
  simp only [wpS]
  rw [aD]
  refine WpF.of (T85_eq _) rfl ?_
  rw [T85]
  simp only [wpS]
  refine ⟨_,rfl,?_⟩
  have e:(Int.tmod ((v.kids.length:Nat):Int) 2==1)=true:=by
   rw [Int.tmod_eq_emod_of_nonneg (by omega),beq_iff_eq]
   have:=k3 k11
   omega
  simp only [wpS,e,Bool.not_true]
  exact next
 ·rw [if_neg (by simpa using k11)]
  simp only [wpS]
  exact next
theorem same_str (a b:List UInt8):Instr.sameNow .string (.string (mkB a)) (.string (mkB b))=some (decide (a=b)):=by
 show some (a.toArray==b.toArray)=_
 by_cases h:a=b
 ·simp [h]
 ·simp [h]
def esT (l:List (List UInt8)):List (Value × Value):=l.map fun s=>(.string (mkB s),.bool true)
theorem find_esT (s:List UInt8):∀ l:List (List UInt8),s∉l→dJ .string (.string (mkB s)) (esT l)=some none
 |[],_=>rfl
 |t::l,h=>by
  unfold esT
  rw [List.map_cons,dJ,same_str,decide_eq_false fun e=>h (by simp [e])]
  exact find_esT s l fun h2=>h (by simp [h2])
theorem set_esT (s:List UInt8):∀ l:List (List UInt8),s∉l→gY .string (.string (mkB s)) (.bool true) (esT l)=some (esT (l++[s]))
 |[],_=>rfl
 |t::l,h=>by
  unfold esT
  rw [List.map_cons,gY,same_str,decide_eq_false fun e=>h (by simp [e])]
  simp only
  have:=set_esT s l fun h2=>h (by simp [h2])
  unfold esT at this
  rw [this]
  try rfl
theorem twiceM_ne {l:List (List UInt8)} (h:cP l=false) {j:Nat} (hj:j<l.length):l[j]∉l.take j:=by
 intro hm
 obtain ⟨i,hi,he⟩:=List.mem_iff_getElem.1 hm
 rw [List.getElem_take] at he
 rw [List.length_take] at hi
 rw [wC hj (by omega:i<j) he.symm] at h
 cases h
theorem rZ {Y:Nat→Prop} {l:List (List UInt8)} {p:Option Addr} {c:Nat} (h:aR σ Y 1 (qZ σ Y) p l) (hl:l.length≤1000000000) (ht:cP l=false):
  WpF aG ovD 50 [.slice p l.length c] σ fun v σ'=>v=.bool false∧Frm σ σ' NoB:=by
 refine WpF.of (T50_eq _ _ _) rfl ?_
 rw [T50]
 refine wp_mkMap fun σ1 a7 a5 a4=>?_
 generalize hA:σ.n=A at a4 a5
 refine Wp.count l.length (fun j st σ'=>st=[.int .i64 ((j:Nat):Int),.bool false]∧Frm σ σ' NoB∧σ'.get A=some (.map (esT (l.take j)))∧A<σ'.n) ⟨rfl,a7,by simpa [esT] using a4,by omega⟩ ?_ ?_
 ·rintro j st σ2 hj ⟨rfl,a0,a2,a1⟩
  have ej:aT ((j:Int)+1)=((j+1:Nat):Int):=by rw [aV (by omega)];omega
  have a3:=twiceM_ne ht hj
  unfold T50b0
  simp only [wpS]
  rw [aC,if_pos (by simp;omega),aI]
  refine dF (h.later a0) hj rfl fun cs a6=>⟨_,a6,?_⟩
  simp only [wpS]
  have e1:lkp .string (.bool false) (some A) (.string (mkB l[j])) false σ2=some (.bool false,σ2):=by
   unfold lkp aB.getMap
   simp only [a2,Option.map_some,find_esT _ _ a3]
   try rfl
  rw [aY,e1]
  simp only [wpS]
  rw [aC,if_neg (by simp)]
  have e2:mup .string (some A) (.string (mkB l[j])) (.bool true) σ2=some (.tuple #[],σ2.put A (.map (esT (l.take (j+1))))):=by
   unfold mup aB.getMapW
   simp only [a2,set_esT _ _ a3]
   rw [List.take_succ_eq_append_getElem hj]
  rw [aY,e2]
  simp only [wpS,T50k0,ej]
  exact ⟨trivial,a0.putNew (by omega) a1 _,eC _ _ _,a1⟩
 ·rintro st σ2 ⟨rfl,a0,a2,a1⟩
  unfold T50b0
  simp only [wpS]
  rw [aC,if_neg (by simp)]
  simp only [wpS,T50k1]
  exact ⟨_,rfl,rfl,a0⟩
end
end Go.Pg
namespace Go.Pg
open Go.Proofs Go.Utf8 Go.Lib
set_option linter.unusedSimpArgs false
def asD (D:List Dc):List (List UInt8):=D.flatMap fun d=>d.cons.flatMap (·.args)
section
variable {σ σ':aB} {X:Nat→Prop} {lo b c:Nat} {p:Option Addr} {l:List (List UInt8)} {P:Program} {ov:Ov}
structure mM (lo:Nat) (σ:aB) (X:Nat→Prop) (b:Nat) (p:Option Addr) (c:Nat) (l:List (List UInt8)):Prop where
 row:SlE σ b p c 1 (l.map cW)
 lo:p≠none→lo≤b
 no:p≠none→¬ X b
theorem mM.nil:mM lo σ X b none 0 []:=⟨.inl ⟨rfl,rfl,rfl⟩,fun h=>absurd rfl h,fun h=>absurd rfl h⟩
theorem mM.frm {S:Nat→Prop} (h:mM lo σ X b p c l) (f:Frm σ σ' S) (hS:p≠none→¬ S b):mM lo σ' X b p c l:=⟨h.row.frm f hS,h.lo,h.no⟩
theorem mM.x {X':Nat→Prop} (h:mM lo σ X b p c l) (hX:p≠none→b<σ.n→X' b→X b):mM lo σ X' b p c l:=⟨h.row,h.lo,fun hp h2=>h.no hp (hX hp (h.row.lt hp) h2)⟩
theorem wp_own1 (h:mM lo σ X b p c l) (hX:∀ j,X j→j<σ.n) (hlo:lo≤σ.n) (hl:l.length≤1000000) (t:List UInt8) {g:Option Addr→Nat→Nat→Pg} {Q:cN}
  (K:∀ σ' b' p' c',Frm σ σ' (fun j=>p≠none∧j=b)→((p≠none∧b'=b)∨σ.n≤b')→mM lo σ' X b' p' c' (l++[t])→Wp P ov (g p' (l++[t]).length c') σ' Q):
  Wp P ov (.act (wW 1 1 [.string (mkB t)]) fun v=>aN v fun p1 n1 c1=>.act (apS 1 16 p l.length c p1 n1 c1) fun w=>aN w g) σ Q:=by
 refine kJ (len:=l.length) h.row (by rw [List.length_map,Nat.mul_one]) (by decide) (by decide) rfl (by intro y hy;simp at hy;subst hy;rfl) (by omega) (by omega) fun σ1 b' off s c' hF hb hR=>?_
 have:=K σ1 b' (some ⟨b',off,some s⟩) c' hF hb ⟨.inr ⟨off,s,rfl,by rw [List.map_append];exact hR⟩,fun _=>by
  rcases hb with ⟨h1,rfl⟩|h1
  ·exact h.lo h1
  ·omega,fun _=>by
  rcases hb with ⟨h1,rfl⟩|h1
  ·exact h.no h1
  ·intro h2;have:=hX _ h2;omega⟩
 rw [List.length_append] at this
 exact this
theorem wp_ownX {Y:Nat→Prop} {q:Option Addr} {ts:List (List UInt8)} {n k:Nat} (h:mM lo σ X b p c l) (hX:∀ j,X j→j<σ.n) (hlo:lo≤σ.n) (hl:l.length+ts.length≤1000000) (hr:aR σ Y 1 (qZ σ Y) q ts) (he:Emp σ Y q) (hn:n=ts.length) {g:Option Addr→Nat→Nat→Pg} {Q:cN}
  (K:∀ σ' b' p' c',Frm σ σ' (fun j=>p≠none∧j=b)→(p'≠none→(p≠none∧b'=b)∨σ.n≤b')→mM lo σ' X b' p' c' (l++ts)→Wp P ov (g p' (l++ts).length c') σ' Q):
  Wp P ov (.act (apS 1 16 p l.length c q n k) fun w=>aN w g) σ Q:=by
 subst hn
 refine xR (n:=ts.length) h.row (by rw [List.length_map]) (aR.src (f:=cW) (fun _ _ h=>h) hr he) (by rw [List.length_map]) (by intro y hy;obtain ⟨t,_,rfl⟩:=List.mem_map.1 hy;rfl) (by omega) (by omega) fun σ1 b' p' c' hF hb hR=>?_
 have a0:p'≠none→(p≠none∧b'=b)∨σ.n≤b':=fun h=>hb.resolve_left h
 have:=K σ1 b' p' c' hF a0 ⟨by rw [List.map_append];exact hR,fun h0=>by
  rcases a0 h0 with ⟨h1,rfl⟩|h1
  ·exact h.lo h1
  ·omega,fun h0=>by
  rcases a0 h0 with ⟨h1,rfl⟩|h1
  ·exact h.no h1
  ·intro h2;have:=hX _ h2;omega⟩
 rw [List.length_append] at this
 exact this
end
section
variable {σ σ':aB} {Y:Nat→Prop}
theorem xm (s:List UInt8):EvF aG ovD 78 [.string (mkB s)] σ (.bool (eH s)) σ:=by
 refine EvF.of (T78_eq _) rfl ?_
 rw [T78]
 simp only [wpS,bS]
 exact ⟨rfl,trivial⟩
theorem wp_ld0 {P:Program} {ov:Ov} {b:Nat} {v:Value} {cs:List Value} (h:St σ b (v::cs)) (g:Value→Pg) (Q:cN):Wp P ov (.act (ld1 ⟨b,0,some 0⟩) g) σ Q=Wp P ov (g v) σ Q:=aE (i:=0) h rfl g Q
theorem zj (f:FuncId) (x y:Array Value) (g:FuncId→List Value→List Value→Pg):nV (.func (.func f) x y) g=g f x.toList y.toList:=rfl
theorem wp_all61 {p:Option Addr} {c A B:Nat} {l ns:List (List UInt8)} {q:Option Addr} {k:Nat} (h:aR σ Y 1 (qZ σ Y) p l) (hl:l.length≤1000000000) (hA:St σ A [.slice q ns.length k]) (hN:aR σ NoB 1 (qZ σ NoB) q ns) (a1:ns.length≤1000000) (hB:St σ B [.func (.func 80) #[] #[.pointer (some ⟨A,0,some 0⟩)]])
  (ha:∀ t∈l,(ns.contains t||eH t)=true):
  WpF aG ovD 83 [.slice p l.length c,.func (.func 82) #[] #[.pointer (some ⟨B,0,some 0⟩)]] σ fun v σ'=>v=.bool false∧σ'=σ:=by
 refine WpF.of (T83_eq _ _ _ _) rfl ?_
 rw [T83,aD]
 refine WpF.of (T107_eq _ _ _ _) rfl ?_
 rw [T107]
 refine Wp.count l.length (fun j st σ'=>σ'=σ∧st=[.int .i64 ((j:Nat):Int),.int .i64 0]) ⟨rfl,rfl⟩ ?_ ?_
 ·rintro j st σ' hj ⟨rfl,rfl⟩
  have ej:aT ((j:Int)+1)=((j+1:Nat):Int):=by rw [aV (by omega)];omega
  have hk:=ha _ (List.getElem_mem hj)
  unfold T107b0
  simp only [wpS]
  rw [aC,if_pos (by simp;omega),aI]
  refine dF h hj rfl fun cs a0=>⟨_,a0,?_⟩
  simp only [wpS,zj,List.nil_append,List.singleton_append]
  rw [aD]
  refine WpF.of (T82_eq _ _) rfl ?_
  rw [T82,wp_ld0 hB]
  simp only [zj,List.nil_append,List.singleton_append]
  rw [aD]
  refine WpF.of (T80_eq _ _) rfl ?_
  have key:Wp aG ovD (T80k0 .normal [.bool true]) σ' fun _ vs σ'_1=>∃ v,vs=[v]∧Wp aG ovD (eR v fun b7=>.ret .ret [.bool !b7]) σ'_1 fun _ vs σ'_2=>∃ v,vs=[v]∧Wp aG ovD (eR v fun b18=>bif b18 then .ret .ret [.int .i64 ((j:Nat):Int)] else .ret .normal [.int .i64 0]) σ'_2 fun e vs σ'_3=>Wp aG ovD (T107k0 ((j:Nat):Int) e vs) σ'_3 fun e st' σ'_4=>match e with
    | .normal=>σ'_4=σ'∧st'=[.int .i64 ((j+1:Nat):Int),.int .i64 0]
    |e=>Wp aG ovD (T107k1 e st') σ'_4 fun _ vs σ'_5=>∃ v,vs=[v]∧Wp aG ovD (asInt .i64 v fun i5=>.ret .ret [.bool (decide (i5≥0))]) σ'_5 fun _ vs σ'_6=>∃ v,vs=[v]∧v=.bool false∧σ'_6=σ':=by
   simp only [wpS,T80k0]
   refine ⟨_,rfl,?_⟩
   simp only [wpS,Bool.not_true]
   refine ⟨_,rfl,?_⟩
   simp only [wpS]
   rw [aC,if_neg (by simp)]
   simp only [wpS,T107k0,ej]
   exact ⟨trivial,trivial⟩
  rw [T80,aI,aD,WpF.eq (xm _)]
  simp only [wpS]
  rw [aC]
  cases hb:eH l[j] with
  |true=>
   rw [if_neg (by simp)]
   simp only [wpS]
   exact key
  |false=>
   rw [hb,Bool.or_false] at hk
   rw [if_pos (by rfl),wp_ld0 hA]
   simp only [wpS]
   rw [aD]
   refine WpF.mono (wj hN (by omega) l[j]) ?_
   rintro _ _ ⟨rfl,rfl⟩
   simp only [wpS,hk]
   exact key
 ·rintro st σ' ⟨rfl,rfl⟩
  unfold T107b0
  simp only [wpS]
  rw [aC,if_neg (by simp)]
  simp only [wpS,T107k1]
  refine ⟨_,rfl,?_⟩
  simp only [wpS]
  exact ⟨_,rfl,rfl,trivial⟩
theorem asD_len {D:List Dc} {m:Nat} (h:∀ d∈D,d.cons.length≤m∧∀ c∈d.cons,c.args.length≤3):(asD D).length≤D.length*(m*3):=by
 have h1:∀ l:List Cn,(∀ c∈l,c.args.length≤3)→(l.flatMap (·.args)).length≤l.length*3:=by
  intro l
  induction l with
  |nil=>intro _;simp
  |cons c l ih=>
   intro h
   rw [List.flatMap_cons,List.length_append,List.length_cons]
   have:=ih fun x hx=>h x (by simp [hx])
   have:=h c (by simp)
   omega
 induction D with
 |nil=>simp [asD]
 |cons d D ih=>
  unfold asD at ih ⊢
  rw [List.flatMap_cons,List.length_append,List.length_cons,Nat.succ_mul]
  have h2:=ih fun x hx=>h x (by simp [hx])
  obtain ⟨h3,h4⟩:=h d (by simp)
  have h5:=h1 d.cons h4
  have h6:d.cons.length*3≤m*3:=Nat.mul_le_mul_right 3 h3
  omega
theorem wp_decls31 {D:List Dc} {pd:Option Addr} {cd:Nat} (hT:aR σ Y 2 (dcR σ Y) pd D) (ht:eK D=true):WpF aG ovD 47 [.slice pd D.length cd] σ fun v σ'=>v=.bool true∧Frm σ σ' NoB:=by
 rw [uV] at ht
 simp only [Bool.and_eq_true,decide_eq_true_eq,Bool.not_eq_true',List.all_eq_true] at ht
 obtain ⟨⟨⟨⟨i5,i2⟩,j5⟩,j7⟩,d0⟩:=ht
 have a9:∀ d∈D,sQ d.nm=true∧eH d.nm=false∧1≤d.cons.length∧d.cons.length≤20∧∀ c∈d.cons,qp c.nm=true∧c.args.length≤3:=by
  intro d hd
  have:=i5 d hd
  unfold okD okC at this
  simp only [Bool.and_eq_true,decide_eq_true_eq,Bool.not_eq_true',List.all_eq_true] at this
  obtain ⟨⟨⟨⟨a1,a2⟩,a3⟩,a4⟩,a5⟩:=this
  exact ⟨a1,a2,a3,a4,a5⟩
 clear i5
 have k7:(cR D).length≤400:=Nat.le_trans (yY 20 D fun d hd=>(a9 d hd).2.2.2.1) (by omega)
 have k9:(asD D).length≤1200:=Nat.le_trans (asD_len (m:=20) fun d hd=>⟨(a9 d hd).2.2.2.1,fun c hc=>((a9 d hd).2.2.2.2 c hc).2⟩) (by omega)
 have j6:∀ {i:Nat} (hi:i<D.length),dG (D.take (i+1))=dG (D.take i)++[D[i].nm]∧cR (D.take (i+1))=cR (D.take i)++D[i].cons.map (·.nm)∧asD (D.take (i+1))=asD (D.take i)++D[i].cons.flatMap (·.args):=fun {i} hi=>by
  unfold dG cR asD
  rw [List.take_succ_eq_append_getElem hi,List.map_append,List.flatMap_append,List.flatMap_append]
  simp
 have c9:∀ i,(dG (D.take i)).length≤20∧(cR (D.take i)).length≤400∧(asD (D.take i)).length≤1200:=fun i=>by
  have e1:cR D=cR (D.take i)++cR (D.drop i):=by unfold cR;rw [←List.flatMap_append,List.take_append_drop]
  have e2:asD D=asD (D.take i)++asD (D.drop i):=by unfold asD;rw [←List.flatMap_append,List.take_append_drop]
  rw [e1,List.length_append] at k7
  rw [e2,List.length_append] at k9
  refine ⟨?_,by omega,by omega⟩
  unfold dG
  rw [List.length_map,List.length_take]
  omega
 refine WpF.of (T47_eq _ _ _) rfl ?_
 rw [T47]
 refine aP fun σ1 l8 k5 i9=>?_
 generalize n4:σ.n=A at i9 k5
 refine Wp.count D.length (fun i st σ'=>∃ ra qa ka rc qc kc rn qn kn,st=[.int .i64 ((i:Nat):Int),.slice qa (asD (D.take i)).length ka,.slice qc (cR (D.take i)).length kc,.bool false]∧St σ' A [.slice qn (dG (D.take i)).length kn]∧
   mM A σ' (· =A) rn qn kn (dG (D.take i))∧mM A σ' (fun j=>j=A∨qn≠none∧j=rn) rc qc kc (cR (D.take i))∧mM A σ' (fun j=>j=A∨(qn≠none∧j=rn)∨qc≠none∧j=rc) ra qa ka (asD (D.take i))∧Frm σ σ' NoB)
  ⟨0,none,0,0,none,0,0,none,0,rfl,i9,.nil,.nil,.nil,l8⟩ ?_ ?_
 ·rintro i st σ2 hi ⟨ra,qa,ka,rc,qc,kc,rn,qn,kn,rfl,d3,d5,f0,e3,e7⟩
  have ei:aT ((i:Int)+1)=((i+1:Nat):Int):=by rw [aV (by omega)];omega
  obtain ⟨o1,o2,o3,o4,o5⟩:=a9 _ (List.getElem_mem hi)
  obtain ⟨tk1,tk2,tk3⟩:=j6 hi
  obtain ⟨b1,b2,b3⟩:=c9 i
  obtain ⟨c1,c2,c3⟩:=c9 (i+1)
  rw [tk2,List.length_append,List.length_map] at c2
  rw [tk3,List.length_append] at c3
  have m9:=d3.1
  unfold T47b1
  simp only [wpS]
  rw [aC,if_pos (by simp;omega),aI]
  refine dM (hT.later e7) hi rfl fun cs f6=>?_
  obtain ⟨q,k,rfl,c8⟩:=f6
  generalize hd:D[i]=d at o1 o2 o3 o4 o5 tk1 tk2 tk3 c2 c3 c8
  simp only [wpS]
  refine aP fun σ3 e6 f5 c0=>?_
  refine bC c0 rfl rfl fun σ4 c7 k4 b8=>?_
  generalize hB:σ2.n=B at c0 b8 c7 f5
  have a0:Frm σ2 σ4 NoB:=e6.fresh c7 fun j hj h=>by omega
  clear c0 e6 c7
  rw [aI,aE b8 rfl]
  simp only [wpS]
  rw [aD]
  refine jY o1 fun σ5 c6=>?_
  have a6:=a0.seq c6
  have b7:=c6.stN b8
  have b6:=a6.stN d3
  simp only [wpS]
  rw [aC,if_pos (by rfl),aE b7 rfl]
  simp only [wpS]
  rw [aD,WpF.eq (xm _),o2]
  simp only [wpS]
  rw [aC,if_pos (by rfl),aE b7 (i:=1) rfl]
  simp only [wpS]
  rw [aC,if_pos (by simp;omega),aE b7 (i:=1) rfl]
  simp only [wpS,T47k3]
  rw [decide_eq_false (show ¬ ((d.cons.length:Nat):Int)>20 by omega),aC,if_neg (by simp),wp_ld0 b6]
  simp only [wpS]
  rw [aE b7 (i:=0) rfl]
  simp only [wpS]
  have e4:=d5.frm a6 fun _ h=>h
  have e9:=f0.frm a6 fun _ h=>h
  have e0:=e3.frm a6 fun _ h=>h
  have m2:=a6.n
  have n2:=b7.1
  refine wp_own1 e4 (fun j h=>by omega) (by omega) (by omega) d.nm fun σ6 rn6 qn6 kn6 b0 b4 g6=>?_
  have i0:Frm σ σ6 NoB:=(e7.seq a6).trans b0 (fun _ _ h=>h) fun j hj h=>by have:=e4.lo h.1;omega
  have d1:=b0.st b6 fun h=>e4.no h.1 h.2.symm
  have f1:qn≠none→rn<B:=fun h=>by have:=d5.row.lt h;omega
  have i8:=b0.st b7 fun h=>by have:=f1 h.1;omega
  have i3:mM A σ6 (fun j=>j=A∨qn6≠none∧j=rn6) rc qc kc (cR (D.take i)):=(e9.frm b0 fun hp h=>e9.no hp (.inr h)).x fun hp i6 h=>by
   rcases h with h|⟨_,h⟩
   ·exact .inl h
   ·rcases b4 with ⟨h1,h2⟩|h1
    ·exact .inr ⟨h1,by omega⟩
    ·have:=e9.row.lt hp;omega
  have g4:mM A σ6 (fun j=>j=A∨(qn6≠none∧j=rn6)∨qc≠none∧j=rc) ra qa ka (asD (D.take i)):=(e0.frm b0 fun hp h=>e0.no hp (.inr (.inl h))).x fun hp i6 h=>by
   rcases h with h|⟨_,h⟩|h
   ·exact .inl h
   ·rcases b4 with ⟨h1,h2⟩|h1
    ·exact .inr (.inl ⟨h1,by omega⟩)
    ·have:=e0.row.lt hp;omega
   ·exact .inr (.inr h)
  have k3:=b0.n
  refine bC d1 rfl rfl fun σ7 c5 m8 g1=>?_
  have j0:=g6.frm c5 fun hp h=>g6.no hp h
  have m0:=i3.frm c5 fun hp h=>i3.no hp (.inl h)
  have l3:=g4.frm c5 fun hp h=>g4.no hp (.inl h)
  have l1:=c5.st i8 (by omega)
  have g9:Frm σ σ7 NoB:=i0.fresh c5 fun j hj h=>by omega
  rw [aE l1 (i:=1) rfl]
  simp only [wpS]
  have k6:A≤σ7.n:=by omega
  have n3:A<σ7.n:=by omega
  have f3:∀ j,(j=A∨qn6≠none∧j=rn6)→j<σ7.n:=by
   rintro j (h|⟨h,h2⟩)
   ·omega
   ·have:=j0.row.lt h;omega
  clear c5 b0 i8 b7 b8 d1 b6 g6 i3 g4 e4 e9 e0 a6 c6 a0 b4
  refine Wp.count d.cons.length (fun j st σ'=>∃ ra qa ka rc qc kc,st=[.int .i64 ((j:Nat):Int),.slice qa (asD (D.take i)++(d.cons.take j).flatMap (·.args)).length ka,.slice qc (cR (D.take i)++(d.cons.take j).map (·.nm)).length kc,.bool false]∧St σ' A [.slice qn6 (dG (D.take i)++[d.nm]).length kn6]∧
    mM A σ' (· =A) rn6 qn6 kn6 (dG (D.take i)++[d.nm])∧mM A σ' (fun j=>j=A∨qn6≠none∧j=rn6) rc qc kc (cR (D.take i)++(d.cons.take j).map (·.nm))∧mM A σ' (fun j=>j=A∨(qn6≠none∧j=rn6)∨qc≠none∧j=rc) ra qa ka (asD (D.take i)++(d.cons.take j).flatMap (·.args))∧Frm σ σ' NoB∧σ7.n≤σ'.n)
   ⟨ra,qa,ka,rc,qc,kc,by simp,g1,j0,by simpa using m0,by simpa using l3,g9,Nat.le_refl _⟩ ?_ ?_
  ·rintro j st σ8 hj ⟨ra8,qa8,ka8,rc8,qc8,kc8,rfl,b5,g5,d7,d9,e5,k2⟩
   have ej:aT ((j:Int)+1)=((j+1:Nat):Int):=by rw [aV (by omega)];omega
   obtain ⟨p1,p2⟩:=o5 _ (List.getElem_mem hj)
   have kt1:(d.cons.take (j+1)).map (·.nm)=(d.cons.take j).map (·.nm)++[d.cons[j].nm]:=by rw [List.take_succ_eq_append_getElem hj,List.map_append];try rfl
   have kt2:(d.cons.take (j+1)).flatMap (·.args)=(d.cons.take j).flatMap (·.args)++d.cons[j].args:=by rw [List.take_succ_eq_append_getElem hj,List.flatMap_append];simp
   have kl1:(cR (D.take i)++(d.cons.take j).map (·.nm)).length≤400:=by rw [List.length_append,List.length_map,List.length_take];omega
   have kl2:((d.cons.take j).flatMap (·.args)).length≤(d.cons.flatMap (·.args)).length:=by
    conv=>rhs;rw [←List.take_append_drop j d.cons,List.flatMap_append,List.length_append]
    omega
   unfold T47b0
   simp only [wpS]
   rw [aC,if_pos (by simp;omega),aI]
   refine dM (c8.later e5) hj rfl fun cs f6=>?_
   obtain ⟨q1,k1,rfl,i4,i7⟩:=f6
   generalize d.cons[j]=cn at p1 p2 kt1 kt2 i4 i7
   simp only [wpS]
   refine aP fun σ9 j3 k0 g2=>?_
   refine bC g2 rfl rfl fun σa g7 m7 f7=>?_
   generalize hC:σ8.n=C at g2 f7 g7 k0
   have g8:Frm σ8 σa NoB:=j3.fresh g7 fun j hj h=>by omega
   clear g2 j3 g7
   rw [aI,aE f7 rfl]
   simp only [wpS]
   rw [aD]
   refine yI p1 fun σb j2=>?_
   have a7:=g8.seq j2
   have d8:=j2.stN f7
   have g0:=a7.stN b5
   have l7:=g5.frm a7 fun _ h=>h
   have e8:=d7.frm a7 fun _ h=>h
   have g3:=d9.frm a7 fun _ h=>h
   have m6:=a7.n
   have n1:=d8.1
   have i1:=e5.seq a7
   have f4:∀ j,(j=A∨qn6≠none∧j=rn6)→j<σb.n:=fun j h=>by have:=f3 j h;omega
   simp only [wpS]
   rw [aC,if_pos (by rfl),aE d8 (i:=1) rfl]
   simp only [wpS,T47k0]
   rw [decide_eq_false (show ¬ ((cn.args.length:Nat):Int)>3 by omega),aC,if_neg (by simp),aE d8 (i:=0) rfl]
   simp only [wpS]
   refine wp_own1 e8 f4 (by omega) (by omega) cn.nm fun σc rcc qcc kcc c4 f2 j4=>?_
   have k8:qc8≠none→rc8<C:=fun h=>by have:=d7.row.lt h;omega
   have m5:=c4.n
   have b9:Frm σ σc NoB:=i1.trans c4 (fun _ _ h=>h) fun j hj h=>by have:=e8.lo h.1;omega
   have l0:=c4.st d8 fun h=>by have:=k8 h.1;omega
   have f9:=c4.st g0 fun h=>e8.no h.1 (.inl h.2.symm)
   have l6:=l7.frm c4 fun hp h=>e8.no h.1 (.inr ⟨hp,h.2.symm⟩)
   have d4:mM A σc (fun j=>j=A∨(qn6≠none∧j=rn6)∨qcc≠none∧j=rcc) ra8 qa8 ka8 (asD (D.take i)++(d.cons.take j).flatMap (·.args)):=(g3.frm c4 fun hp h=>g3.no hp (.inr (.inr h))).x fun hp i6 h=>by
    rcases h with h|h|⟨_,h⟩
    ·exact .inl h
    ·exact .inr (.inl h)
    ·rcases f2 with ⟨h1,h2⟩|h1
     ·exact .inr (.inr ⟨h1,by omega⟩)
     ·have:=g3.row.lt hp;omega
   have j9:∀ j,(j=A∨(qn6≠none∧j=rn6)∨qcc≠none∧j=rcc)→j<σc.n:=by
    rintro j (h|h|⟨h,h2⟩)
    ·have:=f4 j (.inl h);omega
    ·have:=f4 j (.inr h);omega
    ·have:=j4.row.lt h;omega
   rw [aE l0 (i:=1) rfl]
   simp only [wpS]
   refine wp_ownX d4 j9 (by omega) (by rw [List.length_append];omega) ((i4.later b9)) (i7.step (Y':=Y) b9 (fun _ _ h=>h.elim) fun _ _ h=>h) rfl fun σd rad qad kad d6 j8 l2=>?_
   simp only [wpS,T47k1,ej]
   have m4:=d6.n
   have l9:=j4.frm d6 fun hp h=>d4.no h.1 (.inr (.inr ⟨hp,h.2.symm⟩))
   have l5:=l6.frm d6 fun hp h=>d4.no h.1 (.inr (.inl ⟨hp,h.2.symm⟩))
   have f8:=d6.st f9 fun h=>d4.no h.1 (.inl h.2.symm)
   rw [kt1,kt2,←List.append_assoc,←List.append_assoc]
   exact ⟨rad,qad,kad,rcc,qcc,kcc,rfl,f8,l5,l9,l2,b9.trans d6 (fun _ _ h=>h) fun j hj h=>by have:=d4.lo h.1;omega,by omega⟩
  ·rintro st σ8 ⟨ra8,qa8,ka8,rc8,qc8,kc8,rfl,b5,g5,d7,d9,e5,k2⟩
   rw [List.take_length] at d7 d9 ⊢
   unfold T47b0
   simp only [wpS]
   rw [aC,if_neg (by simp)]
   simp only [wpS,T47k2,T47k4,ei]
   rw [tk1,tk2,tk3]
   exact ⟨ra8,qa8,ka8,rc8,qc8,kc8,rn6,qn6,kn6,rfl,b5,g5,d7,d9,e5⟩
 ·rintro st σ2 ⟨ra,qa,ka,rc,qc,kc,rn,qn,kn,rfl,d3,d5,f0,e3,e7⟩
  rw [List.take_length] at d3 d5 f0 e3 ⊢
  unfold T47b1
  simp only [wpS]
  rw [aC,if_neg (by simp)]
  simp only [wpS,T47k6]
  refine aP fun σ3 e6 f5 c0=>?_
  refine bC c0 rfl rfl fun σ4 c7 k4 b8=>?_
  generalize hB:σ2.n=B at c0 b8 c7 f5
  have a0:Frm σ2 σ4 NoB:=e6.fresh c7 fun j hj h=>by omega
  have d2:=a0.stN d3
  have j1:=d5.frm a0 fun _ h=>h
  have m1:=f0.frm a0 fun _ h=>h
  have l4:=e3.frm a0 fun _ h=>h
  have m3:(dG D).length≤20:=by unfold dG;rw [List.length_map];exact i2
  rw [aI,aC,if_pos (by simp;omega),wp_ld0 d2]
  simp only [wpS]
  rw [aD]
  refine WpF.mono (rZ (gV j1.row) (by omega) j5) ?_
  rintro _ σ5 ⟨rfl,c6⟩
  simp only [wpS]
  rw [aC,if_pos (by rfl),aD]
  refine WpF.mono (rZ (gV (m1.frm c6 fun _ h=>h).row) (by omega) j7) ?_
  rintro _ σ6 ⟨rfl,b0⟩
  have a8:=c6.seq b0
  simp only [wpS]
  rw [aC,if_pos (by rfl),aD]
  have hk:∀ t∈asD D,((dG D).contains t||eH t)=true:=by
   intro t ht
   unfold asD at ht
   obtain ⟨d,hd,ht⟩:=List.mem_flatMap.1 ht
   obtain ⟨c,hc,ht⟩:=List.mem_flatMap.1 ht
   have:=d0 d hd
   unfold oQ at this
   exact List.all_eq_true.1 (List.all_eq_true.1 this c hc) t ht
  refine WpF.mono (wp_all61 (gV (l4.frm a8 fun _ h=>h).row) (by omega) (a8.stN d2) (gV (j1.frm a8 fun _ h=>h).row) (by omega) (a8.stN b8) hk) ?_
  rintro _ _ ⟨rfl,rfl⟩
  simp only [wpS,T47k5]
  exact ⟨_,rfl,rfl,(e7.seq a0).seq a8⟩
end
end Go.Pg
