/- GRow, EmA, RdI, FlA, FlB, FlC, FlD, FlE, FlF, FlG, MdA, MdB, MdC, CovA, CovB, CvA, GdA, CvB, CvC, GdB, GdC, CvD -/
import Derived.Test.YtadmleckoibeeaaGreatDoorP5
set_option maxHeartbeats 1000000
namespace Go.Pg
section
variable {β:Type}
def rE (R:aB→(Nat→Prop)→List Value→β→Prop):Prop:=
 ∀ (σ σ':aB) (S Y Y':Nat→Prop) (cs:List Value) (b:β),Frm σ σ' S→(∀ j,j<σ.n→S j→Y j)→(∀ j,j<σ.n→Y' j→Y j)→R σ Y cs b→R σ' Y' cs b
structure GR (R:aB→(Nat→Prop)→List Value→β→Prop) (k:Nat) (σ:aB) (Y:Nat→Prop) (rb:Nat) (l:List β) (css:List (List Value)) (p:Option Addr) (c:Nat):Prop where
 row:SlE σ rb p c k css.flatten
 hr:p≠none→¬ Y rb
 len:css.length=l.length
 cl:∀ cs∈css,cs.length=k
 el:∀ i (h:i<css.length) (h':i<l.length),R σ (fun j=>Y j∨p≠none∧j=rb) css[i] l[i]
variable {R:aB→(Nat→Prop)→List Value→β→Prop} {k:Nat} {σ σ':aB} {Y Y' S:Nat→Prop} {rb:Nat} {l:List β} {css:List (List Value)} {p:Option Addr} {c:Nat}
theorem GR.zero:GR R k σ Y 0 [] [] none 0:=⟨.inl ⟨rfl,rfl,rfl⟩,fun h=>absurd rfl h,rfl,fun _ h=>(List.not_mem_nil h).elim,fun _ h=>absurd h (Nat.not_lt_zero _)⟩
theorem GR.step (hM:rE R) (h:GR R k σ Y rb l css p c) (f:Frm σ σ' S) (hS:∀ j,j<σ.n→S j→Y j) (hY:∀ j,j<σ.n→Y' j→Y j):GR R k σ' Y' rb l css p c:=
 ⟨h.row.frm f fun hp h1=>h.hr hp (hS _ (h.row.lt hp) h1),fun hp h1=>h.hr hp (hY _ (h.row.lt hp) h1),h.len,h.cl,fun i h1 h2=>hM _ _ _ _ _ _ _ f (fun j hj h3=>.inl (hS j hj h3)) (fun j hj h3=>h3.elim (fun h3=>.inl (hY j hj h3)) .inr) (h.el i h1 h2)⟩
theorem GR.frm (hM:rE R) (h:GR R k σ Y rb l css p c) (f:Frm σ σ' S) (hS:∀ j,j<σ.n→S j→Y j):GR R k σ' Y rb l css p c:=GR.step (Y':=Y) hM h f hS fun _ _ h=>h
theorem GR.frmN (hM:rE R) (h:GR R k σ Y rb l css p c) (f:Frm σ σ' NoB):GR R k σ' Y rb l css p c:=GR.step (S:=NoB) (Y':=Y) hM h f (fun _ _ h=>h.elim) fun _ _ h=>h
theorem GR.lt (h:GR R k σ Y rb l css p c) (hp:p≠none):rb<σ.n:=h.row.lt hp
theorem GR.nil (hk:1≤k) (h:GR R k σ Y rb l css p c) (hp:p=none):l=[]∧css=[]:=by
 rcases h.row with ⟨_,_,h0⟩|⟨off,s,h1,_⟩
 ·have h1:=iD h.cl
  rw [h0,List.length_nil] at h1
  have h2:css.length=0:=by
   rcases Nat.mul_eq_zero.1 h1.symm with h3|h3
   ·exact h3
   ·omega
  have h3:=h.len
  exact ⟨List.eq_nil_of_length_eq_zero (by omega),List.eq_nil_of_length_eq_zero h2⟩
 ·rw [hp] at h1;cases h1
theorem GR.close (hM:rE R) (hk:1≤k) (h:GR R k σ Y rb l css p c):aT σ Y k (R σ Y) p l:=by
 have el:∀ i (h1:i<css.length) (h2:i<l.length),R σ Y css[i] l[i]:=fun i h1 h2=>hM _ _ _ _ _ _ _ (Frm.refl σ NoB) (fun _ _ h=>h.elim) (fun _ _ h=>.inl h) (h.el i h1 h2)
 rcases h.row with ⟨hp,_,_⟩|⟨off,s,rfl,hR⟩
 ·rw [(h.nil hk hp).1]
  exact aT.nil
 ·exact aT.own hR (h.hr (by simp)) h.len h.cl el
theorem GR.more (hM:rE R) (hYn:∀ j,Y j→j<σ.n) (h:GR R k σ Y rb l css p c) {ys:List Value} {b:β} (hy:ys.length=k) (hb:R σ (fun j=>Y j∨p≠none∧j=rb) ys b) {rb' off s c':Nat} (hF:Frm σ σ' fun j=>p≠none∧j=rb) (hrb:(p≠none∧rb'=rb)∨σ.n≤rb') (hR:Row σ' rb' off s c' k (css.flatten++ys)):
  GR R k σ' Y rb' (l++[b]) (css++[ys]) (some ⟨rb',off,some s⟩) c':=by
 have hnY:¬ Y rb':=by
  rcases hrb with ⟨hp,rfl⟩|hrb
  ·exact h.hr hp
  ·intro h1;have:=hYn _ h1;omega
 have hYY:∀ i,i<σ.n→(Y i∨some (⟨rb',off,some s⟩:Addr)≠none∧i=rb')→(Y i∨p≠none∧i=rb):=by
  rintro i hi (h1|⟨_,h1⟩)
  ·exact .inl h1
  ·subst h1
   rcases hrb with ⟨hp,rfl⟩|hrb
   ·exact .inr ⟨hp,rfl⟩
   ·omega
 have hS:∀ j,j<σ.n→(p≠none∧j=rb)→(Y j∨p≠none∧j=rb):=fun _ _ h=>.inr h
 refine ⟨.inr ⟨off,s,rfl,by simpa using hR⟩,fun _=>hnY,by simp [h.len],?_,?_⟩
 ·intro cs hcs
  rcases List.mem_append.1 hcs with hcs|hcs
  ·exact h.cl cs hcs
  ·rw [List.mem_singleton.1 hcs];exact hy
 ·intro i h1 h2
  by_cases hi:i<css.length
  ·have hi2:i<l.length:=by rw [←h.len];exact hi
   rw [List.getElem_append_left hi,List.getElem_append_left hi2]
   exact hM _ _ _ _ _ _ _ hF hS hYY (h.el i hi hi2)
  ·have hi1:i=css.length:=by simp at h1;omega
   subst hi1
   have e1:(css++[ys])[css.length]'h1=ys:=by simp
   have e2:(l++[b])[css.length]'h2=b:=by simp [h.len]
   rw [e1,e2]
   exact hM _ _ _ _ _ _ _ hF hS hYY hb
variable {P:Program} {ov:Ov}
theorem lF (hM:rE R) (hYn:∀ j,Y j→j<σ.n) (h:GR R k σ Y rb l css p c) (hk:1≤k) (hk2:k<64) {ys:List Value} {b:β} (hy:ys.length=k) (hy1:∀ y∈ys,one y=true) (hb:R σ (fun j=>Y j∨p≠none∧j=rb) ys b) (hl:l.length≤1000000) {byt:Nat} (hbt:byt≤1000) {g:Option Addr→Nat→Nat→Pg} {Q:cJ}
  (K:∀ σ' rb' p' c',Frm σ σ' (fun j=>p≠none∧j=rb)→((p≠none∧rb'=rb)∨σ.n≤rb')→GR R k σ' Y rb' (l++[b]) (css++[ys]) (some p') c'→Wp P ov (g (some p') (l.length+1) c') σ' Q):
  Wp P ov (.act (rJ k 1 ys) fun v=>aM v fun p1 n1 c1=>.act (apS k byt p l.length c p1 n1 c1) fun w=>aM w g) σ Q:=by
 have hb1:2*(l.length+1)*byt≤281474976710656:=Nat.le_trans (Nat.mul_le_mul (Nat.mul_le_mul (Nat.le_refl 2) (Nat.succ_le_succ hl)) hbt) (by decide)
 refine jQ (len:=l.length) h.row (by rw [iD h.cl,h.len]) hk hk2 hy hy1 hb1 (by omega) fun σ1 rb' off s c' hF1 hrb hR1=>?_
 exact K σ1 rb' ⟨rb',off,some s⟩ c' hF1 hrb (h.more hM hYn hy hb hF1 hrb hR1)
theorem wp_gaddC (hM:rE R) (hYn:∀ j,Y j→j<σ.n) (h:GR R k σ Y rb l css p c) (hk:1≤k) (hk2:k<64) {ys:List Value} {b:β} (hy:ys.length=k) (hy1:∀ y∈ys,one y=true) (hb:R σ (fun j=>Y j∨p≠none∧j=rb) ys b) (hl:l.length≤1000000) {byt:Nat} (hbt:byt≤1000) {ck:List (Act × Value)} (hck:∀ σ',Frm σ σ' NoB→chks ck σ'=true) {g:Option Addr→Nat→Nat→Pg} {Q:cJ}
  (K:∀ σ' rb' p' c',Frm σ σ' (fun j=>p≠none∧j=rb)→((p≠none∧rb'=rb)∨σ.n≤rb')→GR R k σ' Y rb' (l++[b]) (css++[ys]) (some p') c'→Wp P ov (g (some p') (l.length+1) c') σ' Q):
  Wp P ov (.get fun h1=>grd (chks ck h1) (.act (rJ k 1 ys) fun v=>aM v fun p1 n1 c1=>.get fun h2=>grd (chks ck h2) (.act (apS k byt p l.length c p1 n1 c1) fun w=>aM w g))) σ Q:=by
 have hb1:2*(l.length+1)*byt≤281474976710656:=Nat.le_trans (Nat.mul_le_mul (Nat.mul_le_mul (Nat.le_refl 2) (Nat.succ_le_succ hl)) hbt) (by decide)
 refine wp_appC (len:=l.length) h.row (by rw [iD h.cl,h.len]) hk hk2 hy hy1 hb1 (by omega) hck fun σ1 rb' off s c' hF1 hrb hR1=>?_
 exact K σ1 rb' ⟨rb',off,some s⟩ c' hF1 hrb (h.more hM hYn hy hb hF1 hrb hR1)
end
end Go.Pg
namespace Go.Pg
section
variable {σ σ':aB} {Y Y' S:Nat→Prop}
def Emp (σ:aB) (Y:Nat→Prop) (q:Option Addr):Prop:=∀ a,q=some a→Vis σ Y a∧σ.rdN a 0=some []
theorem Emp.none:Emp σ Y none:=fun _ h=>by cases h
theorem Emp.step {q:Option Addr} (h:Emp σ Y q) (f:Frm σ σ' S) (hS:∀ j,j<σ.n→S j→Y j) (hY:∀ j,j<σ.n→Y' j→Y j):Emp σ' Y' q:=by
 intro a ha
 obtain ⟨h1,h2⟩:=h a ha
 have:=rdN_keep (n:=0) (k:=0) f h1 hS
 rw [show aadd a 0=a from rfl] at this
 exact ⟨h1.step f hY,by rw [this];exact h2⟩
theorem Row.emp {b off s c esz:Nat} {xs:List Value} (h:Row σ b off s c esz xs) (hb:¬ Y b):Emp σ Y (some ⟨b,off,some s⟩):=by
 intro a ha
 cases ha
 exact ⟨.inr ⟨h.lt,hb⟩,by simpa using h.rdN (i:=0) (k:=0) (Nat.zero_le _)⟩
theorem SlE.emp {b c esz:Nat} {p:Option Addr} {xs:List Value} (h:SlE σ b p c esz xs) (hb:p≠none→¬ Y b):Emp σ Y p:=by
 rcases h with ⟨rfl,_,_⟩|⟨off,s,rfl,hR⟩
 ·exact Emp.none
 ·exact hR.emp (hb (by simp))
theorem GR.emp {β:Type} {R:aB→(Nat→Prop)→List Value→β→Prop} {k rb c:Nat} {l:List β} {css:List (List Value)} {p:Option Addr} (h:GR R k σ Y rb l css p c):Emp σ Y p:=h.row.emp h.hr
theorem rdN_join {a:Addr} {n k:Nat} {xs ys:List Value} (h:σ.rdN a n=some xs) (h2:σ.rdN (aadd a n) k=some ys):σ.rdN a (n+k)=some (xs++ys):=by
 obtain ⟨b,off,s⟩:=a
 unfold aB.rdN aadd at h2
 unfold aB.rdN at h ⊢
 cases s with
 |none=>
  simp only at h h2 ⊢
  obtain ⟨h1,h3⟩:=pJ _ _ _ h
  obtain ⟨h4,h5⟩:=pJ _ _ _ h2
  have:=oldN_of (old:=σ.old) (b:=b) (xs++ys) off fun i v hv=>by
   by_cases hi:i<xs.length
   ·rw [List.getElem?_append_left hi] at hv
    exact h3 i v hv
   ·rw [List.getElem?_append_right (by omega)] at hv
    have:=h5 _ _ hv
    rw [show off+n+(i - xs.length)=off+i by omega] at this
    exact this
  rw [List.length_append,h1,h4] at this
  exact this
 |some s=>
  simp only at h h2 ⊢
  split at h2
  ·rename_i B hB
   rw [hB] at h
   simp only at h
   split at h2
   ·rename_i hi hhi
    rw [hhi] at h
    simp only at h
    obtain ⟨h1,h3⟩:=bif_some' h
    obtain ⟨h4,h5⟩:=bif_some' h2
    simp only [Option.some.injEq] at h3 h5
    simp only [Bool.and_eq_true,Nat.ble_eq] at h1 h4
    have h6:(Nat.ble B.dirty (s / 64)&&Nat.ble (off+(n+k)) hi)=true:=by
     simp only [Bool.and_eq_true,Nat.ble_eq]
     omega
    rw [h6,cond_true,←h3,←h5,List.take_add,List.drop_drop]
   ·cases h2
  ·cases h2
theorem aT.whole {β:Type} {R:List Value→β→Prop} {f:β→Value} (hR:∀ cs t,R cs t→cs=[f t]) {a:Addr} {ts:List β} (h:aT σ Y 1 R (some a) ts) (he:Emp σ Y (some a)):σ.rdN a ts.length=some (ts.map f):=by
 have:∀ m,m≤ts.length→σ.rdN a m=some ((ts.take m).map f):=by
  intro m
  induction m with
  |zero=>intro _;simpa using (he a rfl).2
  |succ m ih=>
   intro hm
   obtain ⟨x,cs,hx,_,h3,h4⟩:=h m hm
   cases hx
   rw [hR _ _ h4,Nat.mul_one] at h3
   rw [rdN_join (ih (by omega)) h3,List.take_succ_eq_append_getElem hm,List.map_append]
   try rfl
 have:=this _ (Nat.le_refl _)
 rwa [List.take_length] at this
variable {P:Program} {ov:Ov}
theorem sJ {b cap len cap2 n byt:Nat} {p p2:Option Addr} {xs ys:List Value} {g:Option Addr→Nat→Nat→Pg} {Q:cJ} (h:SlV σ b p cap xs) (hlen:len=xs.length) (h2:p2=none∧ys=[]∨∃ a,p2=some a∧σ.rdN a ys.length=some ys) (hn:n=ys.length) (hyo:∀ y∈ys,one y=true)
  (hb:2*(len+n)*byt≤281474976710656) (hb2:len+n≤4611686018427387904)
  (k:∀ σ' b' p' cap',Frm σ σ' (fun j=>p≠none∧j=b)→(p'=none∨(p≠none∧b'=b)∨σ.n≤b')→SlV σ' b' p' cap' (xs++ys)→Wp P ov (g p' (len+n) cap') σ' Q):
  Wp P ov (.act (apS 1 byt p len cap p2 n cap2) fun w=>aM w g) σ Q:=by
 subst hlen
 subst hn
 by_cases h0:ys=[]
 ·subst h0
  have e:apS 1 byt p xs.length cap p2 ([]:List Value).length cap2 σ=some (.slice p xs.length cap,σ):=by
   rcases h2 with ⟨rfl,_⟩|⟨a,rfl,h2⟩
   ·rw [apS_none];exact lM h.cap
   ·rw [mL (show σ.rdN a (([]:List Value).length*1)=some [] by simpa using h2)]
    exact lM h.cap
  rw [aZ,e]
  simp only [bK]
  refine k σ b p cap (Frm.refl _ _) ?_ (by simpa using h)
  cases p with
  |none=>exact .inl rfl
  |some a=>exact .inr (.inl ⟨by simp,rfl⟩)
 ·have hy1:1≤ys.length:=by
   cases ys with
   |nil=>exact absurd rfl h0
   |cons y ys=>simp
  have hs:∃ a,p2=some a∧σ.rdN a (ys.length*1)=some ys:=by
   rcases h2 with ⟨_,h2⟩|⟨a,rfl,h2⟩
   ·exact absurd h2 h0
   ·exact ⟨a,rfl,by rw [Nat.mul_one];exact h2⟩
  obtain ⟨a,rfl,hr⟩:=hs
  rw [aZ,mL hr]
  rcases h with ⟨rfl,rfl,rfl⟩|⟨off,s,rfl,h⟩
  ·rw [List.length_nil,mU (by decide) hy1 (by simp) hyo (by simpa using hb) (by simpa using hb2)]
   simp only [bK]
   have:=k (σ.newBlk ys 1) σ.n (some ⟨σ.n,0,some 1⟩) ys.length (Frm.new _ _ _ _) (.inr (.inr (Nat.le_refl _))) (.inr ⟨0,1,rfl,by simpa using Row.new σ 1 ys ys.length (by decide) (by simp) hyo⟩)
   simpa using this
  ·obtain ⟨σ',s',cap',e1,e2,e3,e4,e5⟩:=h.append (byt:=byt) (len:=xs.length) (n:=ys.length) (ys:=ys) (by simp) (by simp) (by decide) hy1 hyo hb hb2
   rw [e1]
   simp only [bK]
   exact k σ' b _ cap' ((Frm.of1 h.lt e2 e3 e4).mono fun j _ e=>⟨by simp,e⟩) (.inr (.inl ⟨by simp,rfl⟩)) (.inr ⟨off,s',rfl,e5⟩)
theorem aT.src {β:Type} {R:List Value→β→Prop} {f:β→Value} (hR:∀ cs t,R cs t→cs=[f t]) {p:Option Addr} {ts:List β} (h:aT σ Y 1 R p ts) (he:Emp σ Y p):p=none∧ts.map f=[]∨∃ a,p=some a∧σ.rdN a (ts.map f).length=some (ts.map f):=by
 cases p with
 |none=>
  refine .inl ⟨rfl,?_⟩
  cases ts with
  |nil=>rfl
  |cons t ts=>
   obtain ⟨x,cs,hx,_⟩:=h 0 (by simp)
   cases hx
 |some a=>exact .inr ⟨a,rfl,by rw [List.length_map];exact h.whole hR he⟩
def Kp (σ:aB) (a:Addr) (v:Value):Prop:=∀ σ',Frm σ σ' NoB→ld1 a σ'=some (v,σ')
theorem Kp.frm {a:Addr} {v:Value} (h:Kp σ a v) (f:Frm σ σ' NoB):Kp σ' a v:=fun τ g=>h τ (f.seq g)
theorem Kp.now {a:Addr} {v:Value} (h:Kp σ a v):ld1 a σ=some (v,σ):=h σ (Frm.refl _ _)
theorem Kp.st {b i:Nat} {cs:List Value} {v:Value} (h:St σ b cs) (hv:cs[i]?=some v):Kp σ (aadd ⟨b,0,some 0⟩ i) v:=fun _ f=>(f.stN h).ldF hv
theorem Kp.ofRow {β:Type} {c:Nat} {R:List Value→β→Prop} {p:Option Addr} {ts:List β} (h:aT σ Y c R p ts) {i:Nat} (hi:i<ts.length):∃ x cs,p=some x∧R cs ts[i]∧∀ o v,o<c→cs[o]?=some v→Kp σ (aadd (aadd x (i*c)) o) v:=by
 obtain ⟨x,cs,rfl,h1,h2,h3⟩:=h i hi
 refine ⟨x,cs,rfl,h3,fun o v ho hv τ f=>?_⟩
 have hl:=(List.getElem?_eq_some_iff.1 hv).1
 have h4:τ.rdN (aadd x (i*c)) c=some cs:=by rw [rdN_keep f h1 fun _ _ h=>h.elim];exact h2
 unfold ld1
 rw [mQ (o:=o) (k:=1) h4 (by omega),List.drop_eq_getElem_cons hl,List.take_succ_cons,List.take_zero,(List.getElem?_eq_some_iff.1 hv).2]
theorem sL {a:Addr} {v:Value} (h:Kp σ a v) (f:Value→Pg) (Q:cJ):Wp P ov (.act (ld1 a) f) σ Q=Wp P ov (f v) σ Q:=by rw [aZ,h.now]
theorem chkAt_kp {a:Addr} {v:Value} (h:Kp σ a v) (f:Frm σ σ' NoB):qC (ld1 a) v σ'=true:=by
 unfold qC
 rw [h _ f]
 exact oA v
theorem iC {a:Addr} {v:Value} {l:List (Act × Value)} (h:Kp σ a v) (hl:chks l σ=true):chks ((ld1 a,v)::l) σ=true:=by
 unfold chks
 rw [chkAt_kp h (Frm.refl _ _),hl]
 try rfl
theorem past_kp {a:Addr} {v:Value}:∀ {l:List aB},(∀ τ∈l,Kp τ a v)→past (ld1 a) v l=true
 |[],_=>rfl
 |τ::l,h=>by
  unfold past
  rw [chkAt_kp (h τ (by simp)) (Frm.refl _ _),past_kp fun τ' h'=>h τ' (by simp [h'])]
  try rfl
end
end Go.Pg
namespace Go.Pg
open Go.Proofs Go.Utf8 Go.Lib
set_option linter.unusedSimpArgs false
section
variable {σ σ':aB} {B lo:Nat} {p:Option Addr} {cap:Nat} {ws:List Wd} {e:Nat} {r:Rs}
theorem wd_small (hW:∀ w∈ws,w.t.length≤1000000) (i:Nat):(wdM ws e i).t.length≤1000000:=by
 unfold wdM
 split
 ·exact hW _ (List.getElem_mem _)
 ·simp
theorem wp_reader (hW:∀ w∈ws,w.t.length≤1000000):∀ n,RIH B lo p cap ws e n:=by
 intro n
 induction n using Nat.strongRecOn with
 |ind n ih=>
  cases n with
  |zero=>
   intro f r x σ _ _ h _
   cases h
  |succ n=>
   have ih':∀ m,m≤n→RIH B lo p cap ws e m:=fun m hm=>ih m (by omega)
   have ihn:=ih' n (Nat.le_refl _)
   intro f r x σ he hp h hR
   cases f with
   |expr=>exact wp_expr ihn h hR
   |set=>exact wp_set' ihn h hR
   |cmp=>exact wp_cmp ihn h hR
   |sum=>exact wp_sum ih' h hR
   |mul=>exact wp_mul ih' h hR
   |app=>exact wp_app ih' h hR
   |pre=>exact wp_pre ihn h hR
   |atom=>exact wp_atom ihn h hR (wd_small hW _)
   |con=>exact wp_con ih' hp h hR
   |bracket=>exact wp_bracket ihn h hR
   |long=>exact wp_long ih' h hR
   |pat=>exact wp_pat ih' h hR (wd_small hW _)
   |sumL a=>cases he
   |mulL a=>cases he
   |appL a=>cases he
   |conL a=>cases he
   |armL k m=>cases he
   |patL a=>cases he
def pQ (_:aB) (_:Nat→Prop) (cs:List Value) (t:List UInt8):Prop:=cs=[.string (mkB t)]
def cnR (σ:aB) (Y:Nat→Prop) (cs:List Value) (c:Cn):Prop:=∃ q k,cs=[.string (mkB c.nm),.slice q c.args.length k]∧aT σ Y 1 (pQ σ Y) q c.args∧Emp σ Y q
def dcR (σ:aB) (Y:Nat→Prop) (cs:List Value) (d:Dc):Prop:=∃ q k,cs=[.string (mkB d.nm),.slice q d.cons.length k]∧aT σ Y 2 (cnR σ Y) q d.cons
theorem iT:rE pQ:=fun _ _ _ _ _ _ _ _ _ _ h=>h
theorem dW:rE cnR:=by
 rintro σ σ' S Y Y' cs c f hS hY ⟨q,k,h1,h2,h3⟩
 exact ⟨q,k,h1,h2.step f hS hY fun _ _ h=>h,h3.step f hS hY⟩
theorem cQ:rE dcR:=by
 rintro σ σ' S Y Y' cs c f hS hY ⟨q,k,h1,h2⟩
 exact ⟨q,k,h1,h2.step f hS hY fun _ _ h=>dW _ _ _ _ _ _ _ f hS hY h⟩
theorem wp_decls {n:Nat} {x:List Dc × Rs} (h:gP ws e n [] r=some x) (hR:Rdr σ B lo p cap ws e r):
  WpF aF ovD 43 [bU B] σ fun v σ'=>∃ q k,v=.slice q x.1.length k∧aT σ' (bZ B σ.n) 2 (dcR σ' (bZ B σ.n)) q x.1∧Rdr σ' B lo p cap ws e x.2∧Frm σ σ' (· =B):=by
 refine WpF.of (T43_eq _) rfl ?_
 rw [T43]
 have hB:=hR.st.1
 have hlo:=hR.low
 have hlen:=hR.len
 refine Wp.loop (fun m st σ'=>∃ (l:List Dc) (r':Rs) (rb:Nat) (css:List (List Value)) (q:Option Addr) (c:Nat),st=[.slice q l.length c]∧gP ws e m l r'=some x∧GR dcR 2 σ' (bZ B σ.n) rb l css q c∧Rdr σ' B lo p cap ws e r'∧Frm σ σ' (· =B)∧l.length≤r'.p) n
  ⟨[],r,0,[],none,0,rfl,h,.zero,hR,Frm.refl _ _,by simp⟩ ?_
 clear h
 rintro m st σ1 ⟨l,r',rb,css,q,c,rfl,h,hG,hR1,hF1,hl⟩
 cases m with
 |zero=>cases h
 |succ m=>
 have hn1:=hF1.n
 have hpl:=hR1.pl
 rw [gP] at h
 unfold T43b2
 simp only [wpS]
 rw [aD]
 refine WpF.mono (bV hR1 kType) ?_
 rintro _ σ2 ⟨rfl,hR2,hF2⟩
 simp only [wpS]
 rw [aC]
 unfold gA at hR2
 have hF02:=hF1.seq hF2
 have hG2:=hG.frm cQ hF2 fun _ _ h=>.inl h
 by_cases hm:isM ws e kType r'=true
 case neg=>
  rw [if_neg hm] at h hR2
  have hx:=ofS h
  subst hx
  rw [if_neg hm]
  simp only [wpS,T43k7]
  exact ⟨_,rfl,_,_,rfl,hG2.close cQ (by decide),hR2,hF02⟩
 rw [if_pos hm] at h hR2
 rw [if_pos hm,aK,aD]
 obtain ⟨cs,h1,h⟩:=aQ h
 refine WpF.mono (fW hR2 (by decide)) ?_
 rintro _ σ3 ⟨rfl,hR3,hF3⟩
 simp only [wpS]
 refine aN fun σ4 hF4 hn4 hS4=>?_
 refine bD hS4 rfl rfl fun σ5 hF5 hn5 hS5=>?_
 have hn2:=hF2.n
 have hn3:=hF3.n
 generalize hA:σ3.n=A at hS4 hS5 hF5 hn4
 have hAB:A≠B:=by omega
 have hF35:Frm σ3 σ5 NoB:=hF4.fresh hF5 fun j hj h=>by omega
 have hF25:Frm σ2 σ5 (· =B):=hF3.seq hF35.no
 rw [aD]
 refine WpF.mono (cD (hR3.frm hF35) [61]) ?_
 rintro _ σ6 ⟨rfl,hR6,hF6⟩
 simp only [wpS]
 have hF26:=hF25.seq hF6
 have hS6:=hF6.st hS5 hAB
 have hn6:=hF6.n
 have g0:r'.p+1≤(bN ws e [61] (bI ws e 2 r'.next).2).p:=by
  have q1:=(cE (ws:=ws) (e:=e) (k:=2) (by decide) r'.next).1.le
  have q2:=(bG (ws:=ws) (e:=e) [61] (bI ws e 2 r'.next).2).1.le
  have q3:r'.next.p=r'.p+1:=rfl
  omega
 have gc:=(sM _ _ _ _ _ h1).le
 generalize hnm:(bI ws e 2 r'.next).1=nm at hS6 h
 refine Wp.loop (fun m2 st σ'=>∃ (lc:List Cn) (more:Bool) (r2:Rs) (rc:Nat) (cc:List (List Value)) (qc:Option Addr) (kc:Nat),st=[.bool more]∧nV ws e m2 lc more r2=some cs∧St σ' A [.string (mkB nm),.slice qc lc.length kc]∧GR cnR 2 σ' (bZ B (A+1)) rc lc cc qc kc∧Rdr σ' B lo p cap ws e r2∧Frm σ2 σ' (· =B)∧A+1≤σ'.n∧lc.length≤r2.p+1∧(r2.bad=false→lc.length≤r2.p)) m
  ⟨[],true,_,0,[],none,0,rfl,h1,hS6,.zero,hR6,hF26,by omega,by simp,fun _=>by simp⟩ ?_
 clear h1 hS6 hR6 hF26 hF6 hn6
 rintro m2 st σ7 ⟨lc,more,r2,rc,cc,qc,kc,rfl,h1,hS7,hGc,hR7,hF7,hn7,hlc,hlb⟩
 cases m2 with
 |zero=>cases h1
 |succ m2=>
 rw [nV] at h1
 unfold T43b1
 simp only [wpS]
 have hp7:=hR7.pl
 have done:¬ (more=true∧r2.bad=false)→Wp aF ovD (T43k5 (some ⟨B,0,some 0⟩) ⟨A,0,some 0⟩ q l.length c (.exit 2) [.bool more]) σ7 fun e_1 vs σ'=>Wp aF ovD (T43k6 e_1 vs) σ' fun e_1 st' σ'=>match e_1 with
   | .normal=>∃ m',m'<m+1∧∃ (l:List Dc) (r':Rs) (rb:Nat) (css:List (List Value)) (q:Option Addr) (c:Nat),st'=[.slice q l.length c]∧gP ws e m' l r'=some x∧GR dcR 2 σ' (bZ B σ.n) rb l css q c∧Rdr σ' B lo p cap ws e r'∧Frm σ σ' (· =B)∧l.length≤r'.p
   |e_1=>Wp aF ovD (T43k7 e_1 st') σ' fun _ vs σ'=>∃ v,vs=[v]∧∃ q k,v=.slice q x.1.length k∧aT σ' (bZ B σ.n) 2 (dcR σ' (bZ B σ.n)) q x.1∧Rdr σ' B lo p cap ws e x.2∧Frm σ σ' (· =B):=by
  intro hc
  rw [if_neg hc] at h1
  have hx:=ofS h1
  subst hx
  simp only [wpS,T43k5]
  rw [aD]
  refine WpF.mono (cD hR7 kIn) ?_
  rintro _ σ8 ⟨rfl,hR8,hF8⟩
  simp only [wpS]
  rw [aP (hF8.st hS7 hAB) 2 rfl]
  simp only [wpS]
  have hF28:=hF7.seq hF8
  have hn8:=hF8.n
  have hGc8:=hGc.frm dW hF8 fun _ _ h=>.inl h
  have hlow:∀ j,j<σ8.n→(bZ B σ.n j∨q≠none∧j=rb)→bZ B (A+1) j:=by
   rintro j _ ((h1|h1)|⟨h1,h2⟩)
   ·exact .inl h1
   ·exact .inr (by omega)
   ·exact .inr (by have:=hG2.lt h1;omega)
  have hb:dcR σ8 (fun j=>bZ B σ.n j∨q≠none∧j=rb) [.string (mkB nm),.slice qc lc.length kc] ⟨nm,lc⟩:=
   cQ _ _ _ _ _ _ _ (Frm.refl σ8 NoB) (fun _ _ h=>h.elim) hlow ⟨qc,kc,rfl,hGc8.close dW (by decide)⟩
  refine lF cQ (jP hR8 (by omega)) (hG2.frm cQ hF28 fun _ _ h=>.inl h) (by decide) (by decide) rfl (by intro y hy;simp at hy;rcases hy with rfl|rfl<;>rfl) hb (by omega) (by decide) fun σ9 rb9 p9 c9 hF9 hrb9 hG9=>?_
  simp only [wpS,T43k6]
  have hrb:q≠none→σ.n≤rb∧rb≠B:=fun hq=>by
   have:=hG2.hr hq
   simp only [bZ,not_or] at this
   exact ⟨by omega,this.1⟩
  have ge:=(bG (ws:=ws) (e:=e) kIn r2).1.le
  refine ⟨m,by omega,l++[⟨nm,lc⟩],_,rb9,_,_,c9,by simp,h,hG9,hR8.frmS hF9 (fun h=>(hrb h.1).2 h.2.symm) (fun j hj=>by have:=(hrb hj.1).1;omega),(hF02.seq hF28).trans hF9 (fun _ _ h=>h) fun j hj h=>by have:=(hrb h.1).1;omega,?_⟩
  show (l++[(⟨nm,lc⟩:Dc)]).length≤(bN ws e kIn r2).p
  rw [List.length_append,List.length_singleton]
  have gc':(bN ws e [61] (bI ws e 2 r'.next).2).p≤r2.p:=gc
  omega
 rw [aC]
 by_cases d1:more=true
 case neg=>
  rw [if_neg (by simpa using d1)]
  simp only [wpS,T43k4]
  rw [aC,if_neg (by simp)]
  simp only [wpS]
  exact done fun h=>d1 h.1
 rw [if_pos (by simpa using d1),aE hR7.st rfl]
 simp only [wpS,T43k4]
 rw [aC]
 by_cases d2:r2.bad=true
 ·rw [if_neg (by simp [d2])]
  simp only [wpS]
  exact done fun h=>by rw [d2] at h;exact absurd h.2 (by simp)
 have d2':r2.bad=false:=by simpa using d2
 clear done
 rw [if_pos ⟨d1,d2'⟩] at h1
 obtain ⟨ar,h3,h1⟩:=aQ h1
 rw [if_pos (by simp [d2']),aK,aD]
 refine WpF.mono (fW hR7 (by decide)) ?_
 rintro _ σ8 ⟨rfl,hR8,hF8⟩
 simp only [wpS]
 refine aN fun σ9 hF9 hn9 hS9=>?_
 refine bD hS9 rfl rfl fun σa hFa hna hSa=>?_
 have hn8:=hF8.n
 generalize hC:σ8.n=C at hS9 hSa hFa hn9
 have hCB:C≠B:=by omega
 have hCA:A<C:=by omega
 have hF8a:Frm σ8 σa NoB:=hF9.fresh hFa fun j hj h=>by omega
 have hF7a:Frm σ7 σa (· =B):=hF8.seq hF8a.no
 rw [aD]
 refine WpF.mono (bV (hR8.frm hF8a) kOf) ?_
 rintro _ σb ⟨rfl,hRb,hFb⟩
 simp only [wpS]
 unfold gA at hRb
 have hF7b:=hF7a.seq hFb
 have hSb:=hFb.st hSa hCB
 have hnb:=hFb.n
 generalize hcn:(bI ws e 3 r2).1=cn at hSb h1
 have gname:=cE (ws:=ws) (e:=e) (k:=3) (by decide) r2
 have put:∀ (r3:Rs) (ra:Nat) (ca:List (List Value)) (qa:Option Addr) (ka:Nat) (σ':aB),ar.2=r3→Frm σ7 σ' (· =B)→Rdr σ' B lo p cap ws e r3→St σ' C [.string (mkB cn),.slice qa ar.1.length ka]→GR pQ 1 σ' (bZ B (C+1)) ra ar.1 ca qa ka→C+1≤σ'.n→Go2 ws r2 r3→
   Wp aF ovD (T43k2 ⟨A,0,some 0⟩ ⟨C,0,some 0⟩ .normal []) σ' fun e_1 vs σ'=>Wp aF ovD (T43k3 (some ⟨B,0,some 0⟩) e_1 vs) σ' fun e_1 st' σ'=>match e_1 with
    | .normal=>∃ m',m'<m2+1∧∃ (lc:List Cn) (more:Bool) (r2:Rs) (rc:Nat) (cc:List (List Value)) (qc:Option Addr) (kc:Nat),st'=[.bool more]∧nV ws e m' lc more r2=some cs∧St σ' A [.string (mkB nm),.slice qc lc.length kc]∧GR cnR 2 σ' (bZ B (A+1)) rc lc cc qc kc∧Rdr σ' B lo p cap ws e r2∧Frm σ2 σ' (· =B)∧A+1≤σ'.n∧lc.length≤r2.p+1∧(r2.bad=false→lc.length≤r2.p)
    |e_1=>Wp aF ovD (T43k5 (some ⟨B,0,some 0⟩) ⟨A,0,some 0⟩ q l.length c e_1 st') σ' fun e_1 vs σ'=>Wp aF ovD (T43k6 e_1 vs) σ' fun e_1 st' σ'=>match e_1 with
     | .normal=>∃ m',m'<m+1∧∃ (l:List Dc) (r':Rs) (rb:Nat) (css:List (List Value)) (q:Option Addr) (c:Nat),st'=[.slice q l.length c]∧gP ws e m' l r'=some x∧GR dcR 2 σ' (bZ B σ.n) rb l css q c∧Rdr σ' B lo p cap ws e r'∧Frm σ σ' (· =B)∧l.length≤r'.p
     |e_1=>Wp aF ovD (T43k7 e_1 st') σ' fun _ vs σ'=>∃ v,vs=[v]∧∃ q k,v=.slice q x.1.length k∧aT σ' (bZ B σ.n) 2 (dcR σ' (bZ B σ.n)) q x.1∧Rdr σ' B lo p cap ws e x.2∧Frm σ σ' (· =B):=by
  rintro r3 ra ca qa ka σ' rfl hF7' hR' hS' hGa hn' hg3
  simp only [wpS,T43k2]
  have hSA:=hF7'.st hS7 hAB
  rw [aE hSA (v:=.slice qc lc.length kc) rfl]
  simp only [wpS]
  rw [aP hS' 2 rfl]
  simp only [wpS]
  have hlow:∀ j,j<σ'.n→(bZ B (A+1) j∨qc≠none∧j=rc)→bZ B (C+1) j:=by
   rintro j _ ((h1|h1)|⟨h1,h2⟩)
   ·exact .inl h1
   ·exact .inr (by omega)
   ·exact .inr (by have:=hGc.lt h1;omega)
  have hb:cnR σ' (fun j=>bZ B (A+1) j∨qc≠none∧j=rc) [.string (mkB cn),.slice qa ar.1.length ka] ⟨cn,ar.1⟩:=
   dW _ _ _ _ _ _ _ (Frm.refl σ' NoB) (fun _ _ h=>h.elim) hlow ⟨qa,ka,rfl,hGa.close iT (by decide),hGa.emp⟩
  have hrc:qc≠none→A+1≤rc∧rc≠B:=fun hq=>by
   have:=hGc.hr hq
   simp only [bZ,not_or] at this
   exact ⟨by omega,this.1⟩
  refine lF dW (jP hR' (by omega)) (hGc.frm dW hF7' fun _ _ h=>.inl h) (by decide) (by decide) rfl (by intro y hy;simp at hy;rcases hy with rfl|rfl<;>rfl) hb (by omega) (by decide) fun σd rd pd kd hFd hrd hGd=>?_
  have hnd:=hFd.n
  refine bP (hFd.st hSA fun h=>by have:=(hrc h.1).1;omega) (by simp) rfl fun σe hFe hne hSe=>?_
  simp only [List.set_cons_succ,List.set_cons_zero] at hSe
  have hRe:=(hR'.frmS hFd (fun h=>(hrc h.1).2 h.2.symm) fun j hj=>by have:=(hrc hj.1).1;omega).frmS hFe (fun h=>hAB h.symm) fun j hj=>by omega
  simp only [wpS,T43k3]
  rw [aD]
  refine WpF.mono (bV hRe [124]) ?_
  rintro _ σf ⟨rfl,hRf,hFf⟩
  simp only [wpS]
  have hnf:=hFf.n
  have g4:ar.2.p≤(gA ws e [124] ar.2).p∧(gA ws e [124] ar.2).bad=ar.2.bad:=by
   unfold gA
   split
   ·exact ⟨Nat.le_succ _,rfl⟩
   ·exact ⟨Nat.le_refl _,rfl⟩
  have hlb2:=hlb d2'
  have q3:=hg3.1.le
  have hl2:(lc++[(⟨cn,ar.1⟩:Cn)]).length=lc.length+1:=by simp
  refine ⟨m2,by omega,lc++[⟨cn,ar.1⟩],_,gA ws e [124] ar.2,rd,_,_,kd,rfl,h1,?_,(hGd.step (Y':=bZ B (A+1)) dW hFe (fun j hj h=>.inr (by omega)) fun _ _ h=>h).frm dW hFf fun _ _ h=>.inl h,hRf,?_,by omega,?_,?_⟩
  ·rw [hl2]
   exact hFf.st hSe hAB
  ·refine ((hF7.seq hF7').trans hFd (fun _ _ h=>h) ?_ |>.trans hFe (fun _ _ h=>h) ?_).seq hFf
   ·intro j hj h
    have:=(hrc h.1).1
    omega
   ·intro j hj h
    omega
  ·rw [hl2]
   omega
  ·rw [hl2]
   intro hb
   rw [g4.2] at hb
   rcases hg3.2 with h|h
   ·rw [hb] at h;cases h
   ·omega
 rw [aC]
 by_cases d3:isM ws e kOf (bI ws e 3 r2).2=true
 case neg=>
  rw [if_neg d3] at h3 hRb
  have hx:=ofS h3
  subst hx
  rw [if_neg d3]
  simp only [wpS]
  exact put _ 0 [] none 0 σb rfl hF7b hRb hSb .zero (by omega) gname
 rw [if_pos d3] at h3 hRb
 rw [if_pos d3,aE hSb (v:=.slice none 0 0) rfl]
 simp only [wpS]
 rw [aD]
 refine WpF.mono (fW hRb (by decide)) ?_
 rintro _ σc ⟨rfl,hRc,hFc⟩
 simp only [wpS]
 have hF7c:=hF7b.seq hFc
 have hSc:=hFc.st hSb hCB
 have hnc:=hFc.n
 refine wp_gaddC (R:=pQ) (k:=1) (l:=[]) (css:=[]) (p:=none) (c:=0) (Y:=bZ B (C+1)) (rb:=0) iT (jP hRc (by omega)) .zero (by decide) (by decide) rfl (by intro y hy;simp at hy;subst hy;rfl) (b:=(bI ws e 2 (bI ws e 3 r2).2.next).1) rfl (by simp) (by decide) (fun σ' hF'=>jC ((hF'.stN hSc).ldF rfl)) fun σd rd pd kd hFd _ hGd=>?_
 have hFd':Frm σc σd NoB:=hFd.mono fun j _ h=>h.1 rfl
 refine bP (hFd'.stN hSc) (by simp) rfl fun σe hFe hne hSe=>?_
 simp only [List.set_cons_succ,List.set_cons_zero] at hSe
 have hnd:=hFd'.n
 have hF7e:Frm σ7 σe (· =B):=(hF7c.seq hFd'.no).trans hFe (fun _ _ h=>h) fun j hj h=>by omega
 have hRe:=(hRc.frm hFd').frmS hFe (fun h=>hCB h.symm) fun j hj=>by omega
 have hGe:=hGd.step (Y':=bZ B (C+1)) iT hFe (fun j hj h=>.inr (by omega)) fun _ _ h=>h
 have q0:Go2 ws r2 (bI ws e 2 (bI ws e 3 r2).2.next).2:=gname.then ((Go1.next (aW d3).2).trans (cE (by decide) _).1)
 have q1:1≤(bI ws e 2 (bI ws e 3 r2).2.next).2.p:=by
  have h1:=(cE (ws:=ws) (e:=e) (k:=2) (by decide) (bI ws e 3 r2).2.next).1.le
  have h2:(bI ws e 3 r2).2.next.p=(bI ws e 3 r2).2.p+1:=rfl
  omega
 refine Wp.loop (fun m3 st σ'=>∃ (la:List (List UInt8)) (r3:Rs) (ra:Nat) (ca:List (List Value)) (qa:Option Addr) (ka:Nat),st=[]∧nZ ws e m3 la r3=some ar∧St σ' C [.string (mkB cn),.slice qa la.length ka]∧GR pQ 1 σ' (bZ B (C+1)) ra la ca qa ka∧Rdr σ' B lo p cap ws e r3∧Frm σ7 σ' (· =B)∧C+1≤σ'.n∧la.length≤r3.p∧Go2 ws r2 r3) m2
  ⟨_,_,rd,_,_,kd,rfl,h3,hSe,hGe,hRe,hF7e,by omega,by simpa using q1,q0⟩ ?_
 clear h3 hSe hGe hRe hF7e q0 q1
 rintro m3 st σf ⟨la,r3,ra,ca,qa,ka,rfl,h3,hSf,hGf,hRf,hF7f,hnf,hla,hg3⟩
 cases m3 with
 |zero=>cases h3
 |succ m3=>
 rw [nZ] at h3
 unfold T43b0
 simp only [wpS]
 have hpf:=hRf.pl
 rw [aD]
 refine WpF.mono (bV hRf [44]) ?_
 rintro _ σg ⟨rfl,hRg,hFg⟩
 simp only [wpS]
 rw [aC]
 unfold gA at hRg
 have hF7g:=hF7f.seq hFg
 have hSg:=hFg.st hSf hCB
 have hGg:=hGf.frm iT hFg fun _ _ h=>.inl h
 have hng:=hFg.n
 by_cases d4:isM ws e [44] r3=true
 case neg=>
  rw [if_neg d4] at h3 hRg
  have hx:=ofS h3
  subst hx
  rw [if_neg d4]
  simp only [wpS,T43k1]
  exact put _ ra ca qa ka σg rfl hF7g hRg hSg hGg (by omega) hg3
 rw [if_pos d4] at h3 hRg
 rw [if_pos d4,aK,aE hSg (v:=.slice qa la.length ka) rfl]
 simp only [wpS]
 rw [aD]
 refine WpF.mono (fW hRg (by decide)) ?_
 rintro _ σh ⟨rfl,hRh,hFh⟩
 simp only [wpS]
 have hF7h:=hF7g.seq hFh
 have hSh:=hFh.st hSg hCB
 have hGh:=hGg.frm iT hFh fun _ _ h=>.inl h
 have hnh:=hFh.n
 have hra:qa≠none→C+1≤ra∧ra≠B:=fun hq=>by
  have:=hGh.hr hq
  simp only [bZ,not_or] at this
  exact ⟨by omega,this.1⟩
 refine wp_gaddC iT (jP hRh (by omega)) hGh (by decide) (by decide) rfl (by intro y hy;simp at hy;subst hy;rfl) (b:=(bI ws e 2 r3.next).1) rfl (by omega) (by decide) (fun σ' hF'=>jC ((hF'.stN hSh).ldF rfl)) fun σi ri pi ki hFi _ hGi=>?_
 have hni:=hFi.n
 refine bP (hFi.st hSh fun h=>by have:=(hra h.1).1;omega) (by simp) rfl fun σj hFj hnj hSj=>?_
 simp only [List.set_cons_succ,List.set_cons_zero] at hSj
 simp only [wpS,T43k0]
 have hl2:(la++[(bI ws e 2 r3.next).1]).length=la.length+1:=by simp
 have q2:=(cE (ws:=ws) (e:=e) (k:=2) (by decide) r3.next).1.le
 have q3:r3.next.p=r3.p+1:=rfl
 refine ⟨m3,by omega,la++[(bI ws e 2 r3.next).1],(bI ws e 2 r3.next).2,ri,_,_,ki,trivial,h3,?_,hGi.step (Y':=bZ B (C+1)) iT hFj (fun j hj h=>.inr (by omega)) fun _ _ h=>h,(hRh.frmS hFi (fun h=>(hra h.1).2 h.2.symm) fun j hj=>by have:=(hra hj.1).1;omega).frmS hFj (fun h=>hCB h.symm) fun j hj=>by omega,?_,by omega,?_,hg3.then ((Go1.next (aW d4).2).trans (cE (by decide) _).1)⟩
 ·rw [hl2];exact hSj
 ·refine (hF7h.trans hFi (fun _ _ h=>h) ?_).trans hFj (fun _ _ h=>h) ?_
  ·intro j hj h
   have:=(hra h.1).1
   omega
  ·intro j hj h
   omega
 ·rw [hl2]
  omega
end
end Go.Pg
namespace Go.Pg
open Go.Proofs Go.Utf8 Go.Lib
set_option linter.unusedSimpArgs false
theorem oS:∀ (l:List Tm) (i:Nat),szL (l.take i)≤szL l
 |[],i=>by simp
 |t::l,0=>by simp [szL]
 |t::l,i+1=>by rw [List.take_succ_cons,szL,szL];have:=oS l i;omega
theorem szL_take (l:List Tm) (i:Nat) (h:i<l.length):szL (l.take (i+1))=szL (l.take i)+szT l[i]:=by
 rw [List.take_succ_eq_append_getElem h,tF,nF]
theorem flL_app:∀ (a b:List Tm) (q:Nat),flL q (a++b)=flL q a++flL (q+szL a) b
 |[],b,q=>by simp [flL,szL]
 |t::a,b,q=>by rw [List.cons_append,flL,flL,flL_app a b,List.append_assoc,szL,Nat.add_assoc]
theorem flL_one (t:Tm) (q:Nat):flL q [t]=flT q t:=by simp [flL]
theorem kidsAt_app:∀ (a b:List Tm) (q:Nat),eM q (a++b)=eM q a++eM (q+szL a) b
 |[],b,q=>by simp [eM,szL]
 |t::a,b,q=>by rw [List.cons_append,eM,eM,kidsAt_app a b,List.cons_append,szL,Nat.add_assoc]
theorem dpL_app:∀ (a b:List Tm) (q d:Nat) (c:Int),dpL q d c (a++b)=dpL (q+szL a) d (dpL q d c a) b
 |[],b,q,d,c=>by simp [dpL,szL]
 |t::a,b,q,d,c=>by rw [List.cons_append,dpL,dpL,dpL_app a b,szL,Nat.add_assoc]
theorem flat_set {k:Nat} (o:Nat) (v:Value) (ho:o<k):∀ (css:List (List Value)) (i:Nat) (hi:i<css.length),(∀ cs∈css,cs.length=k)→(css.set i (css[i].set o v)).flatten=css.flatten.set (i*k+o) v
 |[],i,hi,_=>absurd hi (Nat.not_lt_zero _)
 |cs::css,0,hi,hc=>by
  have hl:=hc cs (by simp)
  rw [List.set_cons_zero,List.flatten_cons,List.flatten_cons,List.getElem_cons_zero,Nat.zero_mul,Nat.zero_add,List.set_append_left _ _ (by omega)]
 |cs::css,i+1,hi,hc=>by
  have hl:=hc cs (by simp)
  have e:(i+1)*k+o=cs.length+(i*k+o):=by rw [hl,Nat.add_mul,Nat.one_mul];omega
  rw [List.set_cons_succ,List.flatten_cons,List.flatten_cons,List.getElem_cons_succ,flat_set o v ho css i (by simpa using hi) (fun x hx=>hc x (by simp [hx])),e,List.set_append_right _ _ (by omega),Nat.add_sub_cancel_left]
def natR (cs:List Value) (j:Nat):Prop:=cs=[.int .i64 ((j:Nat):Int)]
def nvR (σ:aB) (Y:Nat→Prop) (cs:List Value) (v:NV):Prop:=∃ q k,cs=[.int .i64 v.x.k,.int .i64 v.x.n,.string (mkB v.x.nm),.string (mkB v.x.pm),.slice q v.kids.length k,.int .i64 v.x.fr,.int .i64 v.x.to]∧aT σ Y 1 natR q v.kids∧Emp σ Y q
theorem cZ:rE nvR:=by
 rintro σ σ' S Y Y' cs c f hS hY ⟨q,k,h1,h2,h3⟩
 exact ⟨q,k,h1,h2.step f hS hY fun _ _ h=>h,h3.step f hS hY⟩
section
variable {σ σ':aB}
abbrev natW (j:Nat):Value:=.int .i64 ((j:Nat):Int)
theorem row_nats {Y:Nat→Prop} {b off s c:Nat} {bl:List Nat} (h:Row σ b off s c 1 (bl.map natW)) (hb:¬ Y b):aT σ Y 1 natR (some ⟨b,off,some s⟩) bl:=
 aT.own (css:=bl.map fun j=>[natW j]) (by
  have e:(bl.map fun j=>[natW j]).flatten=bl.map natW:=by
   clear h
   induction bl with
   |nil=>rfl
   |cons j r ih=>rw [List.map_cons,List.flatten_cons,List.map_cons,←ih];try rfl
  rw [e];exact h) hb (by simp) (by intro cs hcs;obtain ⟨t,_,rfl⟩:=List.mem_map.1 hcs;rfl) (fun i h1 h2=>by simp [natR])
theorem slE_nats {Y:Nat→Prop} {b c:Nat} {p:Option Addr} {bl:List Nat} (h:SlE σ b p c 1 (bl.map natW)) (hb:p≠none→¬ Y b):aT σ Y 1 natR p bl:=by
 rcases h with ⟨rfl,_,h0⟩|⟨off,s,rfl,hR⟩
 ·have:bl=[]:=by simpa using h0
  rw [this]
  exact aT.nil
 ·exact row_nats hR (hb (by simp))
variable {P:Program} {ov:Ov}
theorem wp_appD {b cap len byt esz:Nat} {p:Option Addr} {xs ys:List Value} {ck:List (Act × Value)} {g:Option Addr→Nat→Nat→Pg} {Q:cJ} (h:SlE σ b p cap esz xs) (hlen:xs.length=len*esz) (h0:1≤esz) (he:esz<64) (hy:ys.length=esz) (hy1:∀ y∈ys,one y=true)
  (hb:2*(len+1)*byt≤281474976710656) (hb2:len+1≤4611686018427387904) (hck:∀ σ',Frm σ σ' NoB→chks ck σ'=true)
  (k:∀ σ' b' off s cap',Frm σ σ' (fun j=>p≠none∧j=b)→((p≠none∧b'=b)∨σ.n≤b')→Row σ' b' off s cap' esz (xs++ys)→Wp P ov (g (some ⟨b',off,some s⟩) (len+1) cap') σ' Q):
  Wp P ov (.act (rJ esz 1 ys) fun v=>aM v fun p' n' c'=>.get fun h2=>grd (chks ck h2) (.act (apS esz byt p len cap p' n' c') fun w=>aM w g)) σ Q:=by
 have key:=jQ (P:=P) (ov:=ov) (g:=g) (Q:=Q) h hlen h0 he hy hy1 hb hb2 k
 rw [aZ,cV] at key ⊢
 simp only [bK] at key ⊢
 rw [fD,aV]
 exact ⟨hck _ (Frm.new _ _ _ _),key⟩
theorem wp_gset {Y:Nat→Prop} {rb:Nat} {l:List NV} {css:List (List Value)} {p:Option Addr} {c i:Nat} {x:Nd} {kids:List Nat} {q:Option Addr} {k:Nat} {K:Pg} {Q:cJ} (hG:GR nvR 7 σ Y rb l css p c) (hi:i<l.length) (hl:l[i]=⟨x,[]⟩) (hk:aT σ (fun j=>Y j∨p≠none∧j=rb) 1 natR q kids) (hz:Emp σ (fun j=>Y j∨p≠none∧j=rb) q)
  (kk:∀ σ' css',Frm σ σ' (· =rb)→GR nvR 7 σ' Y rb (l.set i ⟨x,kids⟩) css' p c→Wp P ov K σ' Q):
  ∃ a,p=some a∧Wp P ov (.act (stC (aadd (aadd a (i*7)) 4) [(.slice q kids.length k)]) fun v=>cG v fun l=>aA l K) σ Q:=by
 rcases hG.row with ⟨hp,_,_⟩|⟨off,s,rfl,hR⟩
 ·have:=(hG.nil (by decide) hp).1
  rw [this] at hi
  exact absurd hi (Nat.not_lt_zero _)
 have hic:i<css.length:=by rw [hG.len];exact hi
 have hcl:=hG.cl _ (List.getElem_mem hic)
 have hfl:=iD hG.cl
 have hin:i*7+7≤css.flatten.length:=by rw [hfl];omega
 have hle:=hR.len
 obtain ⟨σ1,h1,h2,h3,h4,h5⟩:=hR.wrN (i:=i*7+4) (vs:=[.slice q kids.length k]) (by omega) (by simp only [List.length_singleton];omega) (by intro y hy;simp at hy;subst hy;rfl)
 refine ⟨_,rfl,?_⟩
 have e:stC (aadd (aadd ⟨rb,off,some s⟩ (i*7)) 4) [.slice q kids.length k] σ=some (.tuple #[],σ1):=by
  unfold stC
  rw [show aadd (aadd ⟨rb,off,some s⟩ (i*7)) 4=⟨rb,off+(i*7+4),some s⟩ by simp [aadd,Nat.add_assoc],h1]
 rw [aZ,e]
 simp only [dL,aI]
 have hF:Frm σ σ1 (· =rb):=Frm.of1 hR.lt h2 h3 h4
 have hset:css.flatten.take (i*7+4)++[.slice q kids.length k]++css.flatten.drop (i*7+4+[Value.slice q kids.length k].length)=(css.set i (css[i].set 4 (.slice q kids.length k))).flatten:=by
  rw [flat_set 4 _ (by decide) css i hic hG.cl,List.set_eq_take_append_cons_drop,if_pos (by omega)]
  simp
 rw [hset] at h5
 have hS:∀ j,j<σ.n→j=rb→(Y j∨some (⟨rb,off,some s⟩:Addr)≠none∧j=rb):=fun j _ h=>.inr ⟨by simp,h⟩
 refine kk σ1 _ hF ⟨.inr ⟨off,s,rfl,h5⟩,hG.hr,by simp [hG.len],?_,?_⟩
 ·intro cs hcs
  rcases List.mem_or_eq_of_mem_set hcs with h|h
  ·exact hG.cl cs h
  ·rw [h,List.length_set];exact hcl
 ·intro j h6 h7
  rw [List.length_set] at h6 h7
  by_cases hij:i=j
  ·subst hij
   rw [List.getElem_set_self,List.getElem_set_self]
   obtain ⟨q',k',h8,_,_⟩:=hG.el i h6 h7
   rw [hl] at h8
   exact ⟨q,k,by rw [h8];rfl,hk.step hF hS (fun _ _ h=>h) (fun _ _ h=>h),hz.step hF hS fun _ _ h=>h⟩
  ·rw [List.getElem_set_ne hij,List.getElem_set_ne hij]
   exact cZ _ _ _ _ _ _ _ hF hS (fun _ _ h=>h) (hG.el j h6 h7)
end
theorem wp_put (F m0:Nat) (ty:Value) (_hty:one ty=true):∀ (s:Nat) (t:Tm),szT t≤s→∀ (σ:aB) (a rb:Nat) (N:List NV) (css:List (List Value)) (p:Option Addr) (c:Nat) (Y:Nat→Prop) (cur:Int) (deep:Nat),
  TmB σ (fun j=>m0≤j) a t→m0≤F→(p≠none→m0≤rb)→m0≤σ.n→St σ F [.slice p N.length c,ty,.int .i64 cur]→GR nvR 7 σ Y rb N css p c→(∀ j,Y j→j<σ.n)→Y F→N.length+szT t≤100000→deep+szT t≤100000→
  WpF aF ovD 46 [bU F,bU a,.int .i64 ((deep:Nat):Int)] σ fun v σ'=>∃ p' c' rb' css',v=.int .i64 ((N.length:Nat):Int)∧St σ' F [.slice (some p') (N.length+szT t) c',ty,.int .i64 (dpT N.length deep cur t)]∧GR nvR 7 σ' Y rb' (N++flT N.length t) css' (some p') c'∧
   Frm σ σ' (fun j=>j=F∨p≠none∧j=rb)∧((p≠none∧rb'=rb)∨σ.n≤rb'):=by
 intro s
 induction s with
 |zero=>
  intro t ht
  have:=szT_pos t
  omega
 |succ s ih=>
  intro t ht σ a rb N css p c Y cur deep hT hmF hmr hmn hSF hG hYn hYF hb1 hb2
  obtain ⟨x,l⟩:=t
  cases hT with
  | @mk _ _ _ tp tc bl hab has hrow hbl hkids=>
  have hsz:szT (.mk x l)=1+szL l:=by rw [szT]
  have hlen:=szL_len l
  refine WpF.of (T46_eq _ _ _) rfl ?_
  rw [T46]
  simp only [wpS,dC]
  rw [aE hSF rfl]
  simp only [wpS]
  rw [aE hSF rfl]
  simp only [wpS]
  have haF:a≠F:=fun h=>hab (by omega)
  have hrF:p≠none→rb≠F:=fun hp h=>hG.hr hp (by rw [h];exact hYF)
  have main:∀ (σ1:aB) (cur1:Int),Frm σ σ1 (· =F)→σ1.n=σ.n→St σ1 F [.slice p N.length c,ty,.int .i64 cur1]→cur1=(if cur<0∧(1000≤N.length∨60<deep) then x.fr else cur)→
    Wp aF ovD (T46k2 (some ⟨F,0,some 0⟩) (some ⟨a,0,some 0⟩) ((deep:Nat):Int) N.length .normal []) σ1 fun _ vs σ'=>∃ v,vs=[v]∧∃ p' c' rb' css',v=.int .i64 ((N.length:Nat):Int)∧St σ' F [.slice (some p') (N.length+szT (.mk x l)) c',ty,.int .i64 (dpT N.length deep cur (.mk x l))]∧GR nvR 7 σ' Y rb' (N++flT N.length (.mk x l)) css' (some p') c'∧
     Frm σ σ' (fun j=>j=F∨p≠none∧j=rb)∧((p≠none∧rb'=rb)∨σ.n≤rb'):=by
   intro σ1 cur1 hF1 hn1 hS1 hcur
   simp only [wpS,T46k2,dC]
   rw [aE hS1 rfl]
   simp only [wpS]
   have has1:=hF1.st has haF
   rw [aZ,show aadd ⟨a,0,some 0⟩ 0=⟨a,0,some 0⟩ from rfl,has1.ldN (off:=0) (k:=7) (by rw [ndc_len];decide)]
   have e7:(((ndc x tp l.length tc).drop 0).take 7)=[.int .i64 x.k,.int .i64 x.n,.string (mkB x.nm),.string (mkB x.pm),.slice none 0 0,.int .i64 x.fr,.int .i64 x.to]:=rfl
   rw [e7]
   simp only [wpS]
   have hG1:=hG.frm cZ hF1 fun j _ h=>by rw [h];exact hYF
   refine wp_appD (len:=N.length) hG1.row (by rw [iD hG1.cl,hG1.len]) (by decide) (by decide) rfl (by intro y hy;simp at hy;rcases hy with rfl|rfl|rfl|rfl|rfl|rfl|rfl<;>rfl) (by omega) (by omega) (fun σ' hF'=>jC ((hF'.stN hS1).ldF rfl)) fun σ2 rb2 off2 s2 c2 hF2 hrb2 hR2=>?_
   have hG2:=hG1.more cZ (fun j h=>by have:=hYn j h;omega) (b:=⟨x,[]⟩) rfl ⟨none,0,rfl,aT.nil,Emp.none⟩ hF2 hrb2 hR2
   have hn2:=hF2.n
   have hrb2F:rb2≠F:=fun h=>hG2.hr (by simp) (by rw [h];exact hYF)
   refine bP (hF2.st hS1 fun h=>(hrF h.1) h.2.symm) (by simp) rfl fun σ3 hF3 hn3 hS3=>?_
   simp only [List.set_cons_zero] at hS3
   have hG3:=hG2.frm cZ hF3 fun j _ h=>by rw [h];exact hYF
   have hF03:Frm σ σ3 (fun j=>j=F∨p≠none∧j=rb):=(hF1.trans hF2 (fun _ _ h=>.inl h) fun _ _ h=>.inr h).trans hF3 (fun _ _ h=>h) fun _ _ h=>.inl h
   have hrb2m:m0≤rb2:=by
    rcases hrb2 with ⟨h1,rfl⟩|h
    ·exact hmr h1
    ·omega
   have hrb20:(p≠none∧rb2=rb)∨σ.n≤rb2:=hrb2.imp id fun h=>by omega
   have hTm:∀ {τ τ':aB} {S:Nat→Prop} {b:Nat} {u:Tm},Frm τ τ' S→(∀ j,S j→m0≤j)→TmB τ (fun j=>m0≤j) b u→TmB τ' (fun j=>m0≤j) b u:=fun f hS h=>h.step f (fun j _ h=>hS j h) fun _ _ h=>h
   have hSm:∀ j,(j=F∨p≠none∧j=rb)→m0≤j:=fun j h=>by
    rcases h with h|⟨h1,h2⟩
    ·omega
    ·have:=hmr h1;omega
   have has3:=hF03.st has fun h=>hab (hSm _ h)
   have hrow3:=hrow.step hF03 (fun j _ h=>hSm j h) (fun _ _ h=>h) (fun _ _ h=>h)
   have hkids3:∀ i (h:i<bl.length) (h':i<l.length),TmB σ3 (fun j=>m0≤j) bl[i] l[i]:=fun i h1 h2=>hTm hF03 hSm (hkids i h1 h2)
   have e0:dpT N.length deep cur (.mk x l)=dpL (N.length+1) (deep+1) cur1 l:=by rw [dpT,hcur]
   have e1:N++flT N.length (.mk x l)=N++[⟨x,eM (N.length+1) l⟩]++flL (N.length+1) l:=by rw [flT];simp
   refine Wp.count l.length (fun i st σ'=>∃ (q:Addr) (cc rq:Nat) (cssq:List (List Value)) (kp:Option Addr) (kc kb:Nat),st=[.int .i64 ((i:Nat):Int),.slice kp i kc]∧St σ' F [.slice (some q) (N.length+1+szL (l.take i)) cc,ty,.int .i64 (dpL (N.length+1) (deep+1) cur1 (l.take i))]∧
     GR nvR 7 σ' (fun j=>Y j∨kp≠none∧j=kb) rq (N++[⟨x,[]⟩]++flL (N.length+1) (l.take i)) cssq (some q) cc∧SlE σ' kb kp kc 1 ((eM (N.length+1) (l.take i)).map natW)∧(kp≠none→σ3.n≤kb)∧Frm σ3 σ' (fun j=>j=F∨j=rb2)∧((rq=rb2)∨σ3.n≤rq))
    ⟨_,c2,rb2,_,none,0,0,rfl,by simpa [szL,dpL] using hS3,by simpa [flL] using hG3.step (Y':=fun j=>Y j∨(none:Option Addr)≠none∧j=0) (S:=NoB) cZ (Frm.refl _ _) (fun _ _ h=>h.elim) (fun j _ h=>h.elim id fun h=>absurd rfl h.1),.inl ⟨rfl,rfl,by simp [eM]⟩,fun h=>absurd rfl h,Frm.refl _ _,.inl rfl⟩ ?_ ?_
   ·rintro i st σ4 hi ⟨q,cc,rq,cssq,kp,kc,kb,rfl,hS4,hG4,hK4,hkb,hF4,hrq⟩
    have hib:i<bl.length:=by rw [hbl];exact hi
    have hSm4:∀ j,(j=F∨j=rb2)→m0≤j:=fun j h=>by rcases h with h|h<;>omega
    have has4:=hF4.st has3 fun h=>hab (hSm4 _ h)
    have hrow4:=hrow3.step hF4 (fun j _ h=>hSm4 j h) (fun _ _ h=>h) (fun _ _ h=>h)
    have hkid4:=hTm hF4 hSm4 (hkids3 i hib hi)
    have hszi:=oS l i
    have hszi1:=szL_take l i hi
    have hszi2:=oS l (i+1)
    have hn4:=hF4.n
    have ej:aO ((i:Int)+1)=((i+1:Nat):Int):=by rw [aS (by omega)];omega
    have ed:aO (((deep:Nat):Int)+1)=((deep+1:Nat):Int):=by rw [aS (by omega)];omega
    unfold T46b0
    simp only [wpS]
    rw [aE has4 (v:=.slice tp l.length tc) rfl]
    simp only [wpS]
    rw [aC,if_pos (by simp;omega),aK]
    rw [aE has4 (v:=.slice tp l.length tc) rfl]
    simp only [wpS]
    obtain ⟨y,cs,rfl,_,hrd,hcs⟩:=hrow4 i hib
    simp only [wpS]
    rw [aV]
    refine ⟨by simp;omega,?_⟩
    have el:ld1 (aadd y (i*1)) σ4=some (bU bl[i],σ4):=by
     unfold ld1
     rw [hrd,hcs]
    rw [Int.toNat_natCast,aZ,el]
    simp only [wpS,ed]
    rw [aD]
    have hlenN:(N++[(⟨x,[]⟩:NV)]++flL (N.length+1) (l.take i)).length=N.length+1+szL (l.take i):=by rw [List.length_append,List.length_append,flL_len];try rfl
    have hY4:∀ j,(Y j∨kp≠none∧j=kb)→j<σ4.n:=by
     rintro j (h|⟨h1,h2⟩)
     ·have:=hYn j h;omega
     ·rw [h2];exact hK4.lt h1
    have hput:=ih l[i] (by omega) σ4 bl[i] rq _ cssq (some q) cc (fun j=>Y j∨kp≠none∧j=kb) (dpL (N.length+1) (deep+1) cur1 (l.take i)) (deep+1) hkid4 hmF (fun _=>by rcases hrq with h|h<;>omega) (by omega) (by rw [hlenN];exact hS4) hG4 hY4 (.inl hYF) (by rw [hlenN];omega) (by omega)
    refine WpF.mono hput ?_
    rintro _ σ5 ⟨q5,c5,rq5,css5,rfl,hS5,hG5,hF5,hrq5⟩
    rw [hlenN] at hS5 hG5 ⊢
    simp only [wpS]
    have hrqkb:kp≠none→kb≠rq:=fun h h2=>hG4.hr (by simp) (.inr ⟨h,h2.symm⟩)
    have hkF:kp≠none→kb≠F:=fun h h2=>by have:=hkb h;have:=hS3.1;omega
    have hK5:=hK4.frm hF5 fun h h2=>by
     rcases h2 with h2|⟨_,h2⟩
     ·exact hkF h h2
     ·exact hrqkb h h2
    have hkl:((eM (N.length+1) (l.take i)).map natW).length=i:=by rw [List.length_map,mV,List.length_take];omega
    have hn5:=hF5.n
    refine jQ (len:=i) hK5 (by rw [hkl,Nat.mul_one]) (by decide) (by decide) rfl (by intro y hy;simp at hy;subst hy;rfl) (by omega) (by omega) fun σ6 kb6 off6 s6 c6 hF6 hkb6 hR6=>?_
    simp only [wpS,T46k0,ej]
    have hn6:=hF6.n
    have hS6:=hF6.st hS5 fun h=>hkF h.1 h.2.symm
    have hYY:∀ j,j<σ5.n→(Y j∨some (⟨kb6,off6,some s6⟩:Addr)≠none∧j=kb6)→(Y j∨kp≠none∧j=kb):=by
     rintro j hj (h1|⟨_,h1⟩)
     ·exact .inl h1
     ·subst h1
      rcases hkb6 with ⟨hp,rfl⟩|hrb
      ·exact .inr ⟨hp,rfl⟩
      ·omega
    have hG6:=hG5.step (Y':=fun j=>Y j∨some (⟨kb6,off6,some s6⟩:Addr)≠none∧j=kb6) cZ hF6 (fun j _ h=>.inr h) hYY
    refine ⟨q5,c5,rq5,css5,some ⟨kb6,off6,some s6⟩,c6,kb6,rfl,?_,?_,.inr ⟨off6,s6,rfl,?_⟩,?_,?_,?_⟩
    ·rw [List.take_succ_eq_append_getElem hi,tF,nF,dpL_app,dpL,dpL,←Nat.add_assoc]
     exact hS6
    ·rw [List.take_succ_eq_append_getElem hi,flL_app,flL_one,←List.append_assoc]
     exact hG6
    ·rw [List.take_succ_eq_append_getElem hi,kidsAt_app,List.map_append]
     exact hR6
    ·intro _
     rcases hkb6 with ⟨hp,rfl⟩|h
     ·exact hkb hp
     ·omega
    ·refine (hF4.trans hF5 (fun _ _ h=>h) ?_).trans hF6 (fun _ _ h=>h) ?_
     ·rintro j hj (h|⟨_,h⟩)
      ·exact .inl h
      ·rcases hrq with h2|h2
       ·exact .inr (by omega)
       ·omega
     ·rintro j hj ⟨h1,h2⟩
      have:=hkb h1
      omega
    ·rcases hrq5 with ⟨_,h⟩|h
     ·rcases hrq with h2|h2
      ·exact .inl (by omega)
      ·exact .inr (by omega)
     ·exact .inr (by omega)
   ·rintro st σ4 ⟨q,cc,rq,cssq,kp,kc,kb,rfl,hS4,hG4,hK4,hkb,hF4,hrq⟩
    have hSm4:∀ j,(j=F∨j=rb2)→m0≤j:=fun j h=>by rcases h with h|h<;>omega
    have has4:=hF4.st has3 fun h=>hab (hSm4 _ h)
    rw [List.take_length] at hS4 hG4 hK4
    unfold T46b0
    simp only [wpS]
    rw [aE has4 (v:=.slice tp l.length tc) rfl]
    simp only [wpS]
    rw [aC,if_neg (by simp)]
    simp only [wpS,T46k1,dC]
    rw [aE hS4 rfl]
    simp only [wpS]
    rw [aV]
    refine ⟨by simp;omega,?_⟩
    have hin:N.length<(N++[(⟨x,[]⟩:NV)]++flL (N.length+1) l).length:=by simp
    have hget:(N++[(⟨x,[]⟩:NV)]++flL (N.length+1) l)[N.length]=⟨x,[]⟩:=by simp
    have hn4:=hF4.n
    have hkl:(eM (N.length+1) l).length=l.length:=mV _ _
    have hkY:kp≠none→¬ (Y kb∨(some q:Option Addr)≠none∧kb=rq):=fun h h2=>by
     rcases h2 with h2|⟨_,h2⟩
     ·have:=hYn _ h2;have:=hkb h;have:=hF03.n;omega
     ·exact hG4.hr (by simp) (.inr ⟨h,h2.symm⟩)
    have hrw:aT σ4 (fun j=>Y j∨(some q:Option Addr)≠none∧j=rq) 1 natR kp (eM (N.length+1) l):=slE_nats hK4 hkY
    have hz4:Emp σ4 (fun j=>Y j∨(some q:Option Addr)≠none∧j=rq) kp:=hK4.emp hkY
    have hG4':=hG4.step (Y':=Y) (S:=NoB) cZ (Frm.refl _ _) (fun _ _ h=>h.elim) fun _ _ h=>.inl h
    obtain ⟨a4,ha4,hw⟩:=wp_gset (P:=aF) (ov:=ovD) (k:=kc) (K:=.ret .ret [.int .i64 ((N.length:Nat):Int)]) (Q:=fun _ vs σ'=>∃ v,vs=[v]∧∃ p' c' rb' css',v=.int .i64 ((N.length:Nat):Int)∧St σ' F [.slice (some p') (N.length+szT (.mk x l)) c',ty,.int .i64 (dpT N.length deep cur (.mk x l))]∧GR nvR 7 σ' Y rb' (N++flT N.length (.mk x l)) css' (some p') c'∧
     Frm σ σ' (fun j=>j=F∨p≠none∧j=rb)∧((p≠none∧rb'=rb)∨σ.n≤rb')) hG4' hin hget hrw hz4 fun σ5 css5 hF5 hG5=>by
      simp only [wpS]
      have hrqF:F≠rq:=fun h=>hG4.hr (by simp) (.inl (by rw [←h];exact hYF))
      refine ⟨_,rfl,q,cc,rq,css5,rfl,?_,?_,?_,?_⟩
      ·rw [hsz,←Nat.add_assoc,e0]
       exact hF5.st hS4 hrqF
      ·rw [e1]
       have es:(N++[(⟨x,[]⟩:NV)]++flL (N.length+1) l).set N.length ⟨x,eM (N.length+1) l⟩=N++[⟨x,eM (N.length+1) l⟩]++flL (N.length+1) l:=by
        rw [List.append_assoc,List.set_append_right _ _ (Nat.le_refl _),Nat.sub_self]
        simp
       rw [es] at hG5
       exact hG5
      ·have hn0:=hF03.n
       refine (hF03.trans hF4 (fun _ _ h=>h) ?_).trans hF5 (fun _ _ h=>h) ?_
       ·rintro j hj (h|h)
        ·exact .inl h
        ·rcases hrb20 with ⟨h1,h2⟩|h1
         ·exact .inr ⟨h1,by omega⟩
         ·omega
       ·rintro j hj h
        rcases hrq with h2|h2
        ·rcases hrb20 with ⟨h3,h4⟩|h3
         ·exact .inr ⟨h3,by omega⟩
         ·omega
        ·omega
      ·have hn0:=hF03.n
       rcases hrq with h2|h2
       ·rw [h2];exact hrb20
       ·exact .inr (by omega)
    cases ha4
    rw [hkl] at hw
    exact hw
  rw [aC]
  by_cases hc:cur<0∧(1000≤N.length∨60<deep)
  ·rw [if_pos (by simp;omega),aE has (v:=.int .i64 x.fr) rfl]
   simp only [wpS]
   refine bP hSF (by simp) rfl fun σ1 hF1 hn1 hS1=>?_
   simp only [List.set_cons_succ,List.set_cons_zero] at hS1
   simp only [wpS]
   exact main σ1 x.fr hF1 hn1 hS1 (by rw [if_pos hc])
  ·rw [if_neg (by simp;omega)]
   simp only [wpS]
   exact main σ cur (Frm.refl _ _) rfl hSF (by rw [if_neg hc])
end Go.Pg
namespace Go.Pg
open Go.Proofs Go.Utf8 Go.Lib
set_option linter.unusedSimpArgs false
theorem twiceM_true {l:List (List UInt8)}:∀ {i k:Nat} (hi:i<l.length) (hk:k<i),l[i]=l[k]→cM l=true:=by
 induction l with
 |nil=>intro i k hi;exact absurd hi (Nat.not_lt_zero _)
 |cons s l ih=>
  intro i k hi hk h
  rw [cM,Bool.or_eq_true]
  cases i with
  |zero=>omega
  |succ i=>
   have hi':i<l.length:=by simpa using hi
   cases k with
   |zero=>
    left
    rw [List.contains_iff_mem]
    simp only [List.getElem_cons_succ,List.getElem_cons_zero] at h
    rw [←h]
    exact List.getElem_mem _
   |succ k=>exact .inr (ih (k:=k) hi' (by omega) (by simpa using h))
theorem twiceM_false {l:List (List UInt8)}:(∀ i k (hi:i<l.length) (hk:k<i),l[i]≠l[k])→cM l=false:=by
 induction l with
 |nil=>intro _;try rfl
 |cons s l ih=>
  intro h
  rw [cM,Bool.or_eq_false_iff]
  constructor
  ·rw [Bool.eq_false_iff]
   intro hc
   rw [List.contains_iff_mem] at hc
   obtain ⟨i,hi,he⟩:=List.getElem_of_mem hc
   exact h (i+1) 0 (by simpa using hi) (by omega) (by simpa using he)
  ·exact ih fun i k hi hk he=>h (i+1) (k+1) (by simpa using hi) (by omega) (by simpa using he)
section
variable {σ σ':aB} {P:Program} {ov:Ov}
theorem cO {β:Type} {Y:Nat→Prop} {c:Nat} {R:List Value→β→Prop} {p:Option Addr} {ts:List β} (h:aT σ Y c R p ts) {i n o:Nat} (hi:i<ts.length) (hn:n=ts.length) (ho:o<c) {f:Value→Pg} {Q:cJ}
  (k:∀ cs,R cs ts[i]→∃ v,cs[o]?=some v∧Wp P ov (f v) σ Q):
  Wp P ov (aH p fun a=>grd (decide (0≤((i:Nat):Int))&&decide (((i:Nat):Int)<((n:Nat):Int))) (.act (ld1 (aadd (aadd a (Int.toNat ((i:Nat):Int)*c)) o)) f)) σ Q:=by
 subst hn
 obtain ⟨x,cs,rfl,_,h2,h3⟩:=h i hi
 obtain ⟨v,h4,h5⟩:=k cs h3
 have e:(decide (0≤((i:Nat):Int))&&decide (((i:Nat):Int)<((ts.length:Nat):Int)))=true:=by simp;omega
 simp only [cH]
 rw [aV,e,Int.toNat_natCast,aZ]
 have hl:=(List.getElem?_eq_some_iff.1 h4).1
 have e2:ld1 (aadd (aadd x (i*c)) o) σ=some (v,σ):=by
  unfold ld1
  rw [mQ (o:=o) (k:=1) h2 (by omega),List.drop_eq_getElem_cons hl,List.take_succ_cons,List.take_zero,(List.getElem?_eq_some_iff.1 h4).2]
 rw [e2]
 exact ⟨rfl,h5⟩
theorem cR {β:Type} {Y:Nat→Prop} {R:List Value→β→Prop} {p:Option Addr} {ts:List β} (h:aT σ Y 1 R p ts) {i n:Nat} (hi:i<ts.length) (hn:n=ts.length) {f:Value→Pg} {Q:cJ}
  (k:∀ cs,R cs ts[i]→∃ v,cs=[v]∧Wp P ov (f v) σ Q):
  Wp P ov (aH p fun a=>grd (decide (0≤((i:Nat):Int))&&decide (((i:Nat):Int)<((n:Nat):Int))) (.act (ld1 (aadd a (Int.toNat ((i:Nat):Int)*1))) f)) σ Q:=by
 refine cO h hi hn (o:=0) (by decide) fun cs hcs=>?_
 obtain ⟨v,rfl,h2⟩:=k cs hcs
 exact ⟨v,rfl,h2⟩
theorem aT.frmM {β:Type} {R:aB→(Nat→Prop)→List Value→β→Prop} (hM:rE R) {Y:Nat→Prop} {c:Nat} {p:Option Addr} {ts:List β} (h:aT σ Y c (R σ Y) p ts) (f:Frm σ σ' NoB):aT σ' Y c (R σ' Y) p ts:=
 aT.step (S:=NoB) f (fun _ _ h=>h.elim) (fun _ _ h=>h) (fun _ _ h=>hM _ _ _ _ _ _ _ f (fun _ _ h=>h.elim) (fun _ _ h=>h) h) h
theorem rG {Y:Nat→Prop} {l:List (List UInt8)} {p:Option Addr} {c:Nat} (h:aT σ Y 1 (pQ σ Y) p l) (hl:l.length≤1000000000):
  WpF aF ovD 76 [.slice p l.length c] σ fun v σ'=>v=.bool (cM l)∧σ'=σ:=by
 refine WpF.of (T76_eq _ _ _) rfl ?_
 rw [T76]
 refine Wp.count l.length (fun j st σ'=>σ'=σ∧st=[.int .i64 ((j:Nat):Int),.bool false]∧∀ i k (hi:i<l.length) (hk:k<i),i<j→l[i]≠l[k]) ⟨rfl,rfl,fun i k _ _ h=>by omega⟩ ?_ ?_
 ·rintro j st σ' hj ⟨rfl,rfl,hall⟩
  have ej:aO ((j:Int)+1)=((j+1:Nat):Int):=by rw [aS (by omega)];omega
  unfold T76b1
  simp only [wpS]
  rw [aC,if_pos (by simp;omega),aK]
  refine Wp.count j (fun m st σ1=>σ1=σ'∧st=[.int .i64 ((m:Nat):Int),.bool false]∧∀ k (hk:k<j),k<m→l[j]≠l[k]) ⟨rfl,rfl,fun k _ h=>by omega⟩ ?_ ?_
  ·rintro m st σ1 hm ⟨rfl,rfl,hm2⟩
   have em:aO ((m:Int)+1)=((m+1:Nat):Int):=by rw [aS (by omega)];omega
   unfold T76b0
   simp only [wpS]
   rw [aC,if_pos (by simp;omega),aK]
   refine cR h hj rfl fun cs hcs=>⟨_,hcs,?_⟩
   simp only [wpS]
   refine cR h (by omega:m<l.length) rfl fun cs hcs=>⟨_,hcs,?_⟩
   simp only [wpS,eX]
   rw [aC]
   by_cases he:l[j]=l[m]
   ·rw [if_pos (by simpa using he)]
    simp only [wpS,T76k0,T76k1,T76k2,T76k3]
    rw [twiceM_true hj hm he]
    exact ⟨_,rfl,rfl,trivial⟩
   ·rw [if_neg (by simpa using he)]
    simp only [wpS,T76k0,em]
    refine ⟨trivial,trivial,fun k hk hkm=>?_⟩
    by_cases hkm2:k=m
    ·subst hkm2;exact he
    ·exact hm2 k hk (by omega)
  ·rintro st σ1 ⟨rfl,rfl,hm2⟩
   unfold T76b0
   simp only [wpS]
   rw [aC,if_neg (by simp)]
   simp only [wpS,T76k1,T76k2,ej]
   refine ⟨trivial,trivial,fun i k hi hk hij=>?_⟩
   by_cases h2:i=j
   ·subst h2;exact hm2 k hk hk
   ·exact hall i k hi hk (by omega)
 ·rintro st σ' ⟨rfl,rfl,hall⟩
  unfold T76b1
  simp only [wpS]
  rw [aC,if_neg (by simp)]
  simp only [wpS,T76k3]
  rw [twiceM_false fun i k hi hk=>hall i k hi hk hi]
  exact ⟨_,rfl,rfl,trivial⟩
structure dF (σ:aB) (Y:Nat→Prop) (pn:Option Addr) (N:List NV) (pd:Option Addr) (D:List Dc):Prop where
 nodes:aT σ Y 7 (nvR σ Y) pn N
 decls:aT σ Y 2 (dcR σ Y) pd D
theorem dF.step {S Y Y':Nat→Prop} {pn pd:Option Addr} {N:List NV} {D:List Dc} (h:dF σ Y pn N pd D) (f:Frm σ σ' S) (hS:∀ j,j<σ.n→S j→Y j) (hY:∀ j,j<σ.n→Y' j→Y j):dF σ' Y' pn N pd D:=
 ⟨h.nodes.step f hS hY fun _ _ h=>cZ _ _ _ _ _ _ _ f hS hY h,h.decls.step f hS hY fun _ _ h=>cQ _ _ _ _ _ _ _ f hS hY h⟩
theorem dF.frm {Y:Nat→Prop} {pn pd:Option Addr} {N:List NV} {D:List Dc} (h:dF σ Y pn N pd D) (f:Frm σ σ' NoB):dF σ' Y pn N pd D:=dF.step (S:=NoB) (Y':=Y) h f (fun _ _ h=>h.elim) fun _ _ h=>h
abbrev trV (pn:Option Addr) (n cn:Nat) (pd:Option Addr) (d cd:Nat):Value:=.agg #[.slice pn n cn,.slice pd d cd]
theorem ofC_at (s:List UInt8):∀ (l:List Cn) (c j:Nat) (hj:j<l.length),(∀ i (hi:i<j),l[i].nm≠s)→l[j].nm=s→ofC s c l=some (c+j,l[j].args.length)
 |x::l,c,0,_,_,h=>by
  rw [List.getElem_cons_zero] at h
  rw [ofC,if_pos h]
  try rfl
 |x::l,c,j+1,hj,h0,h=>by
  have hx:x.nm≠s:=h0 0 (by omega)
  rw [ofC,if_neg hx,ofC_at s l (c+1) j (by simpa using hj) (fun i hi=>by simpa using h0 (i+1) (by omega)) (by simpa using h)]
  simp only [List.getElem_cons_succ,Option.some.injEq,Prod.mk.injEq,and_true]
  omega
theorem ofC_no (s:List UInt8):∀ (l:List Cn) (c:Nat),(∀ i (hi:i<l.length),l[i].nm≠s)→ofC s c l=none
 |[],_,_=>rfl
 |x::l,c,h=>by
  have hx:x.nm≠s:=h 0 (by simp)
  rw [ofC,if_neg hx,ofC_no s l (c+1) fun i hi=>by have q:=h (i+1) (by simpa using hi);rwa [List.getElem_cons_succ] at q]
theorem ofD_at (s:List UInt8):∀ (l:List Dc) (d j:Nat) (hj:j<l.length),(∀ i (hi:i<j),ofC s 0 l[i].cons=none)→∀ x,ofC s 0 l[j].cons=some x→ofD s d l=some (d+j,x.1,x.2)
 |y::l,d,0,_,_,x,h=>by
  rw [List.getElem_cons_zero] at h
  rw [ofD,h]
  try rfl
 |y::l,d,j+1,hj,h0,x,h=>by
  have hy:ofC s 0 y.cons=none:=h0 0 (by omega)
  rw [ofD,hy]
  simp only
  rw [ofD_at s l (d+1) j (by simpa using hj) (fun i hi=>by simpa using h0 (i+1) (by omega)) x (by simpa using h)]
  simp only [Option.some.injEq,Prod.mk.injEq,and_true]
  omega
theorem ofD_no (s:List UInt8):∀ (l:List Dc) (d:Nat),(∀ i (hi:i<l.length),ofC s 0 l[i].cons=none)→ofD s d l=none
 |[],_,_=>rfl
 |y::l,d,h=>by
  have hy:ofC s 0 y.cons=none:=h 0 (by simp)
  rw [ofD,hy]
  exact ofD_no s l (d+1) fun i hi=>by have q:=h (i+1) (by simpa using hi);rwa [List.getElem_cons_succ] at q
def ofV (x:Option (Nat × Nat × Nat)):Value:=match x with
 |some (d,c,_)=>.tuple #[.int .i64 ((d:Nat):Int),.int .i64 ((c:Nat):Int),.bool true]
 |none=>.tuple #[.int .i64 0,.int .i64 0,.bool false]
theorem sQ (d c n:Nat):ofV (some (d,c,n))=.tuple #[.int .i64 ((d:Nat):Int),.int .i64 ((c:Nat):Int),.bool true]:=rfl
theorem ofV_none:ofV none=.tuple #[.int .i64 0,.int .i64 0,.bool false]:=rfl
theorem wp_Of79 {Y:Nat→Prop} {pn pd:Option Addr} {n cn cd:Nat} {D:List Dc} (h:aT σ Y 2 (dcR σ Y) pd D) (hD:D.length≤1000000) (hC:∀ d∈D,d.cons.length≤1000000) (s:List UInt8):
  WpF aF ovD 79 [trV pn n cn pd D.length cd,.string (mkB s)] σ fun v σ'=>v=ofV (ofD s 0 D)∧Frm σ σ' NoB:=by
 refine WpF.of (T79_eq _ _ _ _ _ _ _) rfl ?_
 rw [T79]
 refine aN fun σ1 hF1 hn1 hS1=>?_
 generalize σ.n=A at hS1
 have h1:=h.frmM cQ hF1
 refine Wp.count D.length (fun j st σ'=>σ'=σ1∧st=[.int .i64 ((j:Nat):Int),.bool false,.int .i64 0,.int .i64 0]∧∀ i (hi:i<D.length),i<j→ofC s 0 D[i].cons=none) ⟨rfl,rfl,fun i _ h=>by omega⟩ ?_ ?_
 ·rintro j st σ' hj ⟨rfl,rfl,hall⟩
  have ej:aO ((j:Int)+1)=((j+1:Nat):Int):=by rw [aS (by omega)];omega
  have hcl:=hC _ (List.getElem_mem hj)
  unfold T79b1
  simp only [wpS]
  rw [aE hS1 rfl]
  simp only [wpS]
  rw [aC,if_pos (by simp;omega),aK]
  refine Wp.count D[j].cons.length (fun m st σ2=>σ2=σ'∧st=[.int .i64 ((m:Nat):Int),.bool false,.int .i64 0,.int .i64 0]∧∀ k (hk:k<D[j].cons.length),k<m→D[j].cons[k].nm≠s) ⟨rfl,rfl,fun k _ h=>by omega⟩ ?_ ?_
  ·rintro m st σ2 hm ⟨rfl,rfl,hm2⟩
   have em:aO ((m:Int)+1)=((m+1:Nat):Int):=by rw [aS (by omega)];omega
   unfold T79b0
   simp only [wpS]
   rw [aE hS1 rfl]
   simp only [wpS]
   refine cO h1 hj rfl (o:=1) (by decide) fun cs hcs=>?_
   obtain ⟨q,k,rfl,hrow⟩:=hcs
   refine ⟨_,rfl,?_⟩
   simp only [wpS]
   rw [aC,if_pos (by simp;omega),aK,aE hS1 rfl]
   simp only [wpS]
   refine cO h1 hj rfl (o:=1) (by decide) fun cs hcs=>?_
   obtain ⟨q',k',rfl,hrow'⟩:=hcs
   refine ⟨_,rfl,?_⟩
   simp only [wpS]
   refine cO hrow' hm rfl (o:=0) (by decide) fun cs hcs=>?_
   obtain ⟨q2,k2,rfl,_⟩:=hcs
   refine ⟨_,rfl,?_⟩
   simp only [wpS,eX]
   rw [aC]
   by_cases he:D[j].cons[m].nm=s
   ·rw [if_pos (by simpa using he)]
    simp only [wpS,T79k0,T79k1,T79k2,T79k3]
    have hc:=ofC_at s D[j].cons 0 m hm (fun i hi=>hm2 i (by omega) hi) he
    rw [ofD_at s D 0 j hj (fun i hi=>hall i (by omega) hi) _ hc,sQ]
    simp only [Nat.zero_add]
    exact ⟨_,rfl,rfl,hF1⟩
   ·rw [if_neg (by simpa using he)]
    simp only [wpS,T79k0,em]
    refine ⟨trivial,trivial,fun k hk hkm=>?_⟩
    by_cases hkm2:k=m
    ·subst hkm2;exact he
    ·exact hm2 k hk (by omega)
  ·rintro st σ2 ⟨rfl,rfl,hm2⟩
   unfold T79b0
   simp only [wpS]
   rw [aE hS1 rfl]
   simp only [wpS]
   refine cO h1 hj rfl (o:=1) (by decide) fun cs hcs=>?_
   obtain ⟨q,k,rfl,hrow⟩:=hcs
   refine ⟨_,rfl,?_⟩
   simp only [wpS]
   rw [aC,if_neg (by simp)]
   simp only [wpS,T79k1,T79k2,ej]
   refine ⟨trivial,trivial,fun i hi hij=>?_⟩
   by_cases h2:i=j
   ·subst h2
    exact ofC_no s _ 0 fun k hk=>hm2 k hk hk
   ·exact hall i hi (by omega)
 ·rintro st σ' ⟨rfl,rfl,hall⟩
  unfold T79b1
  simp only [wpS]
  rw [aE hS1 rfl]
  simp only [wpS]
  rw [aC,if_neg (by simp)]
  simp only [wpS,T79k3]
  rw [ofD_no s D 0 fun i hi=>hall i hi hi,ofV_none]
  exact ⟨_,rfl,rfl,hF1⟩
end
end Go.Pg
namespace Go.Pg
open Go.Proofs Go.Utf8 Go.Lib
set_option linter.unusedSimpArgs false
def nvC (v:NV) (q:Option Addr) (c:Nat):List Value:=[.int .i64 v.x.k,.int .i64 v.x.n,.string (mkB v.x.nm),.string (mkB v.x.pm),.slice q v.kids.length c,.int .i64 v.x.fr,.int .i64 v.x.to]
theorem kidsK_len:fG.length=27:=rfl
section
variable {σ σ':aB}
theorem wp_shape78 (v:NV) (hv:v.kids.length≤1000000) (q:Option Addr) (c:Nat):WpF aF ovD 78 [.agg (nvC v q c).toArray] σ fun w σ'=>w=.bool (bS v)∧Frm σ σ' NoB:=by
 refine WpF.of (T78_eq _ _ _ _ _ _ _ _ _) rfl ?_
 rw [T78]
 refine aN fun σ1 hF1 hn1 hS1=>?_
 generalize σ.n=A at hS1
 have hS1:St σ1 A (nvC v q c):=hS1
 rw [aZ,cV]
 have hF2:=Frm.new σ1 (fG.map fun z=>Value.int .i64 z) 1 NoB
 have hR2:=Row.new σ1 1 (fG.map fun z=>Value.int .i64 z) 27 (by decide) rfl (by intro y hy;obtain ⟨t,_,rfl⟩:=List.mem_map.1 hy;rfl)
 rw [show ([(.int .i64 (-1)),(.int .i64 0),(.int .i64 0),(.int .i64 0),(.int .i64 0),(.int .i64 (-2)),(.int .i64 1),(.int .i64 2),(.int .i64 2),(.int .i64 2),(.int .i64 3),(.int .i64 (-3)),(.int .i64 2),(.int .i64 2),(.int .i64 2),(.int .i64 1),(.int .i64 1),(.int .i64 1),(.int .i64 0),(.int .i64 1),(.int .i64 2),(.int .i64 0),(.int .i64 0),(.int .i64 0),(.int .i64 0),(.int .i64 0),(.int .i64 (-2))]:List Value)=fG.map fun z=>Value.int .i64 z from rfl]
 generalize σ1.newBlk (fG.map fun z=>Value.int .i64 z) 1=σ2 at hF2 hR2 ⊢
 generalize σ1.n=RB at hR2 ⊢
 have hS2:=hF2.stN hS1
 have hF02:=hF1.seq hF2
 simp only [wpS]
 have out18:∀ τ,Frm σ τ NoB→bS v=false→Wp aF ovD (T78k18 ⟨A,0,some 0⟩ .ret [.bool false]) τ fun _ vs σ'=>∃ w,vs=[w]∧w=.bool (bS v)∧Frm σ σ' NoB:=by
  intro τ hτ hf
  simp only [wpS,T78k18]
  rw [hf]
  exact ⟨_,rfl,rfl,hτ⟩
 have s18:∀ τ b,Frm σ τ NoB→St τ A (nvC v q c)→bS v=mG v.x.k v.x.pm→Wp aF ovD (T78k18 ⟨A,0,some 0⟩ .normal [.bool b]) τ fun _ vs σ'=>∃ w,vs=[w]∧w=.bool (bS v)∧Frm σ σ' NoB:=by
  intro τ b hτ hS hf
  rw [hf]
  simp only [wpS,T78k18]
  rw [aE hS rfl]
  simp only [wpS]
  have s17:∀ b:Bool,(b=true↔v.x.k=6∨v.x.k=9∨v.x.k=20)→Wp aF ovD (T78k17 ⟨A,0,some 0⟩ .normal [.bool b]) τ fun _ vs σ'=>∃ w,vs=[w]∧w=.bool (mG v.x.k v.x.pm)∧Frm σ σ' NoB:=by
   intro b hb
   simp only [wpS,T78k17]
   rw [aC]
   unfold mG
   by_cases hk:v.x.k=6∨v.x.k=9∨v.x.k=20
   ·rw [if_pos (hb.2 hk),aE hS rfl]
    simp only [wpS]
    rw [aD]
    refine wp_var74 _ fun τ2 hτ2=>?_
    simp only [wpS]
    rw [if_pos hk]
    exact ⟨_,rfl,rfl,hτ.seq hτ2⟩
   ·rw [if_neg fun h=>hk (hb.1 h),aE hS rfl]
    simp only [wpS,cA]
    rw [if_neg hk]
    exact ⟨_,rfl,rfl,hτ⟩
  rw [aC]
  by_cases k6:v.x.k=6
  ·rw [if_neg (by simp [k6])]
   simp only [wpS]
   exact s17 true ⟨fun _=>.inl k6,fun _=>rfl⟩
  rw [if_pos (by simpa using k6),aE hS rfl]
  simp only [wpS]
  rw [aC]
  by_cases k9:v.x.k=9
  ·rw [if_neg (by simp [k9])]
   simp only [wpS]
   exact s17 true ⟨fun _=>.inr (.inl k9),fun _=>rfl⟩
  rw [if_pos (by simpa using k9),aE hS rfl]
  simp only [wpS]
  exact s17 _ (by rw [beq_iff_eq];exact ⟨fun h=>.inr (.inr h),fun h=>by rcases h with h|h|h;exact absurd h k6;exact absurd h k9;exact h⟩)
 have s19:∀ b,(bS v=(fY v.x.k v.x.nm&&mG v.x.k v.x.pm))→Wp aF ovD (T78k19 ⟨A,0,some 0⟩ .normal [.bool b]) σ2 fun _ vs σ'=>∃ w,vs=[w]∧w=.bool (bS v)∧Frm σ σ' NoB:=by
  intro b hf
  simp only [wpS,T78k19]
  rw [aE hS2 rfl]
  simp only [wpS]
  have fin:∀ (τ:aB) (o:Bool),Frm σ2 τ NoB→fY v.x.k v.x.nm=o→(o=false→Wp aF ovD (T78k18 ⟨A,0,some 0⟩ .ret [.bool false]) τ fun _ vs σ'=>∃ w,vs=[w]∧w=.bool (bS v)∧Frm σ σ' NoB)∧(o=true→Wp aF ovD (T78k18 ⟨A,0,some 0⟩ .normal [.bool b]) τ fun _ vs σ'=>∃ w,vs=[w]∧w=.bool (bS v)∧Frm σ σ' NoB):=by
   intro τ o hτ ho
   refine ⟨fun h=>out18 τ (hF02.seq hτ) (by rw [hf,ho,h];rfl),fun h=>s18 τ b (hF02.seq hτ) (hτ.stN hS2) (by rw [hf,ho,h];rfl)⟩
  have s16:∀ d:Bool,(d=true↔v.x.k=4∨v.x.k=8∨v.x.k=9∨v.x.k=22)→Wp aF ovD (T78k16 ⟨A,0,some 0⟩ b v.x.k .normal [.bool d]) σ2 fun e_1 vs σ'=>Wp aF ovD (T78k18 ⟨A,0,some 0⟩ e_1 vs) σ' fun _ vs σ'=>∃ w,vs=[w]∧w=.bool (bS v)∧Frm σ σ' NoB:=by
   intro d hd
   simp only [wpS,T78k16]
   rw [aC]
   by_cases hk:v.x.k=4∨v.x.k=8∨v.x.k=9∨v.x.k=22
   ·rw [if_pos (hd.2 hk),aE hS2 rfl]
    simp only [wpS]
    rw [aD]
    refine wp_var74 _ fun τ hτ=>?_
    simp only [wpS]
    have hf2:=fin τ (tB v.x.nm) hτ (by unfold fY;rw [if_pos hk])
    rw [aC]
    cases hvm:tB v.x.nm with
    |false=>
     rw [if_pos (by rfl)]
     simp only [wpS,T78k15]
     exact hf2.1 hvm
    |true=>
     rw [if_neg (by simp)]
     simp only [wpS,T78k15]
     exact hf2.2 hvm
   rw [if_neg fun h=>hk (hd.1 h),aK,aC]
   have s14:∀ d:Bool,(d=true↔v.x.k=5∨v.x.k=26)→Wp aF ovD (T78k14 ⟨A,0,some 0⟩ b v.x.k .normal [.bool d]) σ2 fun e_1 vs σ'=>Wp aF ovD (T78k15 e_1 vs) σ' fun e_1 vs σ'=>Wp aF ovD (T78k18 ⟨A,0,some 0⟩ e_1 vs) σ' fun _ vs σ'=>∃ w,vs=[w]∧w=.bool (bS v)∧Frm σ σ' NoB:=by
    intro d hd
    simp only [wpS,T78k14]
    rw [aC]
    by_cases hk2:v.x.k=5∨v.x.k=26
    ·rw [if_pos (hd.2 hk2),aE hS2 rfl]
     simp only [wpS]
     rw [aD]
     refine wp_cons75 _ fun τ hτ=>?_
     simp only [wpS]
     have hf2:=fin τ (conM v.x.nm) hτ (by unfold fY;rw [if_neg hk,if_pos hk2])
     rw [aC]
     cases hvm:conM v.x.nm with
     |false=>
      rw [if_pos (by rfl)]
      simp only [wpS,T78k13,T78k15]
      exact hf2.1 hvm
     |true=>
      rw [if_neg (by simp)]
      simp only [wpS,T78k13,T78k15]
      exact hf2.2 hvm
    rw [if_neg fun h=>hk2 (hd.1 h),aK,aC]
    by_cases hk3:v.x.k=14
    ·rw [if_pos (by simpa using hk3),aK,aE hS2 rfl]
     simp only [wpS,cA]
     have hno:fY v.x.k v.x.nm=(decide (v.x.nm=[43])||decide (v.x.nm=[45])||decide (v.x.nm=[42])||decide (v.x.nm=[60])||decide (v.x.nm=[61])):=by
      unfold fY
      rw [if_neg hk,if_neg hk2,if_pos hk3]
     have hf2:=fin σ2 _ (Frm.refl _ _) hno
     have s11:∀ d:Bool,d=!(decide (v.x.nm=[43])||decide (v.x.nm=[45])||decide (v.x.nm=[42])||decide (v.x.nm=[60])||decide (v.x.nm=[61]))→Wp aF ovD (T78k11 b .normal [.bool d]) σ2 fun e_1 vs σ'=>Wp aF ovD (T78k12 e_1 vs) σ' fun e_1 vs σ'=>Wp aF ovD (T78k13 e_1 vs) σ' fun e_1 vs σ'=>Wp aF ovD (T78k15 e_1 vs) σ' fun e_1 vs σ'=>Wp aF ovD (T78k18 ⟨A,0,some 0⟩ e_1 vs) σ' fun _ vs σ'=>∃ w,vs=[w]∧w=.bool (bS v)∧Frm σ σ' NoB:=by
      intro d hd
      simp only [wpS,T78k11]
      rw [aC]
      cases d with
      |true=>
       rw [if_pos rfl]
       simp only [wpS,T78k12,T78k13,T78k15]
       exact hf2.1 (by have h2:=congrArg Bool.not hd;rw [Bool.not_not] at h2;exact h2.symm)
      |false=>
       rw [if_neg (by simp)]
       simp only [wpS,T78k12,T78k13,T78k15]
       exact hf2.2 (by have h2:=congrArg Bool.not hd;rw [Bool.not_not] at h2;exact h2.symm)
     rw [aC]
     by_cases m1:v.x.nm=[43]
     ·rw [if_neg (by simp [m1])]
      simp only [wpS]
      exact s11 false (by simp [m1])
     rw [if_pos (by simpa using m1),aE hS2 rfl]
     simp only [wpS,cA]
     rw [aC]
     by_cases m2:v.x.nm=[45]
     ·rw [if_neg (by simp [m2])]
      simp only [wpS]
      exact s11 false (by simp [m2])
     rw [if_pos (by simpa using m2),aE hS2 rfl]
     simp only [wpS,cA]
     rw [aC]
     by_cases m3:v.x.nm=[42]
     ·rw [if_neg (by simp [m3])]
      simp only [wpS]
      exact s11 false (by simp [m3])
     rw [if_pos (by simpa using m3),aE hS2 rfl]
     simp only [wpS,cA]
     rw [aC]
     by_cases m4:v.x.nm=[60]
     ·rw [if_neg (by simp [m4])]
      simp only [wpS]
      exact s11 false (by simp [m4])
     rw [if_pos (by simpa using m4),aE hS2 rfl]
     simp only [wpS,cA]
     exact s11 _ (by simp [m1,m2,m3,m4])
    ·rw [if_neg (by simpa using hk3),aE hS2 rfl]
     simp only [wpS,cA]
     have hf2:=fin σ2 (decide (v.x.nm=[])) (Frm.refl _ _) (by unfold fY;rw [if_neg hk,if_neg hk2,if_neg hk3])
     rw [aC]
     by_cases m1:v.x.nm=[]
     ·rw [if_neg (by simp [m1])]
      simp only [wpS,T78k12,T78k13,T78k15]
      exact hf2.2 (by simp [m1])
     ·rw [if_pos (by simpa using m1)]
      simp only [wpS,T78k12,T78k13,T78k15]
      exact hf2.1 (by simp [m1])
   by_cases k5:v.x.k=5
   ·rw [if_pos (by simpa using k5)]
    simp only [wpS]
    exact s14 _ (by rw [beq_iff_eq];exact ⟨.inl,fun _=>k5⟩)
   ·rw [if_neg (by simpa using k5)]
    simp only [wpS]
    exact s14 _ (by rw [beq_iff_eq];exact ⟨.inr,fun h=>h.elim (fun h=>absurd h k5) id⟩)
  rw [aC]
  by_cases k4:v.x.k=4
  ·rw [if_pos (by simpa using k4)]
   simp only [wpS]
   exact s16 _ (by rw [beq_iff_eq];exact ⟨.inl,fun _=>k4⟩)
  rw [if_neg (by simpa using k4),aK,aC]
  by_cases k8:v.x.k=8
  ·rw [if_pos (by simpa using k8)]
   simp only [wpS,T78k10]
   exact s16 _ (by rw [beq_iff_eq];exact ⟨fun h=>.inr (.inl h),fun _=>k8⟩)
  rw [if_neg (by simpa using k8),aK,aC]
  by_cases k9:v.x.k=9
  ·rw [if_pos (by simpa using k9)]
   simp only [wpS,T78k9,T78k10]
   exact s16 _ (by rw [beq_iff_eq];exact ⟨fun h=>.inr (.inr (.inl h)),fun _=>k9⟩)
  rw [if_neg (by simpa using k9)]
  simp only [wpS,T78k9,T78k10]
  exact s16 _ (by rw [beq_iff_eq];exact ⟨fun h=>.inr (.inr (.inr h)),fun h=>by rcases h with h|h|h|h;exact absurd h k4;exact absurd h k8;exact absurd h k9;exact h⟩)
 have s20:∀ b,(bS v=(gI v.x.k v.x.n&&(fY v.x.k v.x.nm&&mG v.x.k v.x.pm)))→Wp aF ovD (T78k20 ⟨A,0,some 0⟩ .normal [.bool b]) σ2 fun _ vs σ'=>∃ w,vs=[w]∧w=.bool (bS v)∧Frm σ σ' NoB:=by
  intro b hf
  simp only [wpS,T78k20]
  rw [aE hS2 rfl]
  simp only [wpS]
  have no:gI v.x.k v.x.n=false→Wp aF ovD (T78k7 .ret [.bool false]) σ2 fun e_1 vs σ'=>Wp aF ovD (T78k19 ⟨A,0,some 0⟩ e_1 vs) σ' fun _ vs σ'=>∃ w,vs=[w]∧w=.bool (bS v)∧Frm σ σ' NoB:=by
   intro h
   have hsf:bS v=false:=by rw [hf,h];try rfl
   simp only [wpS,T78k7,T78k19]
   rw [hsf]
   exact ⟨_,rfl,rfl,hF02⟩
  have yes:gI v.x.k v.x.n=true→Wp aF ovD (T78k7 .normal [.bool b]) σ2 fun e_1 vs σ'=>Wp aF ovD (T78k19 ⟨A,0,some 0⟩ e_1 vs) σ' fun _ vs σ'=>∃ w,vs=[w]∧w=.bool (bS v)∧Frm σ σ' NoB:=by
   intro h
   simp only [wpS,T78k7]
   exact s19 b (by rw [hf,h];rfl)
  have s8:∀ d:Bool,(d=true↔v.x.k=1∨v.x.k=23)→Wp aF ovD (T78k8 ⟨A,0,some 0⟩ b v.x.k .normal [.bool d]) σ2 fun e_1 vs σ'=>Wp aF ovD (T78k19 ⟨A,0,some 0⟩ e_1 vs) σ' fun _ vs σ'=>∃ w,vs=[w]∧w=.bool (bS v)∧Frm σ σ' NoB:=by
   intro d hd
   simp only [wpS,T78k8]
   rw [aC]
   by_cases hk:v.x.k=1∨v.x.k=23
   ·have hnum:gI v.x.k v.x.n=(decide (0≤v.x.n)&&decide (v.x.n≤4611686018427387903)):=by unfold gI;rw [if_pos hk]
    rw [if_pos (hd.2 hk),aK,aE hS2 rfl]
    simp only [wpS]
    rw [aC]
    by_cases h0:v.x.n<0
    ·rw [if_neg (by simp [h0])]
     simp only [wpS,T78k3]
     rw [aC,if_pos rfl]
     simp only [wpS]
     exact no (by rw [hnum];simp;omega)
    rw [if_pos (by simpa using h0),aE hS2 rfl]
    simp only [wpS]
    rw [aD]
    refine WpF.of T95_eq rfl ?_
    rw [T95]
    simp only [wpS]
    refine ⟨_,rfl,?_⟩
    simp only [wpS]
    rw [fD,aV]
    refine ⟨jC (hS2.ldF rfl),?_⟩
    simp only [wpS,T78k3]
    rw [aC]
    by_cases h1:v.x.n>4611686018427387903
    ·rw [if_pos (by simpa using h1)]
     simp only [wpS]
     exact no (by rw [hnum];simp;omega)
    ·rw [if_neg (by simpa using h1)]
     simp only [wpS]
     exact yes (by rw [hnum];simp;omega)
   rw [if_neg fun h=>hk (hd.1 h),aK,aC]
   have s6:∀ d:Bool,(d=true↔v.x.k=2∨v.x.k=24)→Wp aF ovD (T78k6 ⟨A,0,some 0⟩ b .normal [.bool d]) σ2 fun e_1 vs σ'=>Wp aF ovD (T78k7 e_1 vs) σ' fun e_1 vs σ'=>Wp aF ovD (T78k19 ⟨A,0,some 0⟩ e_1 vs) σ' fun _ vs σ'=>∃ w,vs=[w]∧w=.bool (bS v)∧Frm σ σ' NoB:=by
    intro d hd
    simp only [wpS,T78k6]
    rw [aC]
    by_cases hk2:v.x.k=2∨v.x.k=24
    ·have hnum:gI v.x.k v.x.n=(decide (v.x.n=0)||decide (v.x.n=1)):=by unfold gI;rw [if_neg hk,if_pos hk2]
     rw [if_pos (hd.2 hk2),aK,aE hS2 rfl]
     simp only [wpS]
     rw [aC]
     by_cases h0:v.x.n=0
     ·rw [if_neg (by simp [h0])]
      simp only [wpS,T78k4]
      rw [aC,if_neg (by simp)]
      simp only [wpS,T78k5]
      exact yes (by rw [hnum];simp [h0])
     rw [if_pos (by simpa using h0),aE hS2 rfl]
     simp only [wpS,T78k4]
     rw [aC]
     by_cases h1:v.x.n=1
     ·rw [if_neg (by simp [h1])]
      simp only [wpS,T78k5]
      exact yes (by rw [hnum];simp [h1])
     ·rw [if_pos (by simpa using h1)]
      simp only [wpS,T78k5]
      exact no (by rw [hnum];simp [h0,h1])
    ·have hnum:gI v.x.k v.x.n=decide (v.x.n=0):=by unfold gI;rw [if_neg hk,if_neg hk2]
     rw [if_neg fun h=>hk2 (hd.1 h),aE hS2 rfl]
     simp only [wpS]
     rw [aC]
     by_cases h0:v.x.n=0
     ·rw [if_neg (by simp [h0])]
      simp only [wpS,T78k5]
      exact yes (by rw [hnum];simp [h0])
     ·rw [if_pos (by simpa using h0)]
      simp only [wpS,T78k5]
      exact no (by rw [hnum];simp [h0])
   by_cases k2:v.x.k=2
   ·rw [if_pos (by simpa using k2)]
    simp only [wpS]
    exact s6 _ (by rw [beq_iff_eq];exact ⟨.inl,fun _=>k2⟩)
   ·rw [if_neg (by simpa using k2)]
    simp only [wpS]
    exact s6 _ (by rw [beq_iff_eq];exact ⟨.inr,fun h=>h.elim (fun h=>absurd h k2) id⟩)
  rw [aC]
  by_cases k1:v.x.k=1
  ·rw [if_pos (by simpa using k1)]
   simp only [wpS]
   exact s8 _ (by rw [beq_iff_eq];exact ⟨.inl,fun _=>k1⟩)
  ·rw [if_neg (by simpa using k1)]
   simp only [wpS]
   exact s8 _ (by rw [beq_iff_eq];exact ⟨.inr,fun h=>h.elim (fun h=>absurd h k1) id⟩)
 have s21:∀ d:Bool,(d=true↔¬ (1≤v.x.k∧v.x.k≤26))→Wp aF ovD (T78k21 ⟨A,0,some 0⟩ (some ⟨RB,0,some 1⟩) 27 .normal [.bool d]) σ2 fun _ vs σ'=>∃ w,vs=[w]∧w=.bool (bS v)∧Frm σ σ' NoB:=by
  intro d hd
  simp only [wpS,T78k21]
  rw [aC]
  by_cases hk:1≤v.x.k∧v.x.k≤26
  case neg=>
   rw [if_pos (hd.2 hk)]
   simp only [wpS]
   have hsf:bS v=false:=by
    unfold bS
    by_cases h1:1≤v.x.k
    ·have h2:¬ v.x.k≤26:=fun h=>hk ⟨h1,h⟩
     rw [decide_eq_false h2];simp
    ·rw [decide_eq_false h1];simp
   rw [hsf]
   exact ⟨_,rfl,rfl,hF02⟩
  rw [if_neg fun h=>(hd.1 h) hk,aE hS2 rfl]
  simp only [wpS]
  rw [aE hS2 rfl]
  simp only [wpS]
  have hsh:bS v=(iJ v.x.k v.kids.length&&(gI v.x.k v.x.n&&(fY v.x.k v.x.nm&&mG v.x.k v.x.pm))):=by
   unfold bS
   rw [decide_eq_true hk.1,decide_eq_true hk.2]
   simp [Bool.and_assoc]
  obtain ⟨kn,hkn⟩:∃ kn:Nat,v.x.k=(kn:Int):=⟨v.x.k.toNat,by omega⟩
  have hkn2:kn<fG.length:=by rw [kidsK_len];omega
  have hge:(fG.map fun z=>Value.int .i64 z)[kn]?=some (.int .i64 (fG.getD kn 0)):=by simp [List.getD,hkn2]
  have hko:iJ v.x.k v.kids.length=if fG.getD kn 0= -2 then decide (v.kids.length≤3) else if fG.getD kn 0= -3 then decide (3≤v.kids.length)&&decide (v.kids.length % 2=1) else decide (((v.kids.length:Nat):Int)=fG.getD kn 0):=by
   unfold iJ
   rw [hkn,Int.toNat_natCast]
  have no:iJ v.x.k v.kids.length=false→Wp aF ovD (T78k20 ⟨A,0,some 0⟩ .ret [.bool false]) σ2 fun _ vs σ'=>∃ w,vs=[w]∧w=.bool (bS v)∧Frm σ σ' NoB:=by
   intro h
   have hsf:bS v=false:=by rw [hsh,h];try rfl
   simp only [wpS,T78k20]
   rw [hsf]
   exact ⟨_,rfl,rfl,hF02⟩
  have yes:iJ v.x.k v.kids.length=true→Wp aF ovD (T78k20 ⟨A,0,some 0⟩ .normal [.bool false]) σ2 fun _ vs σ'=>∃ w,vs=[w]∧w=.bool (bS v)∧Frm σ σ' NoB:=fun h=>s20 false (by rw [hsh,h];rfl)
  rw [hkn,aV]
  refine ⟨by simp only [Bool.and_eq_true,decide_eq_true_eq];omega,?_⟩
  rw [Int.toNat_natCast,lJ hR2 hge]
  simp only [wpS]
  rw [aC]
  by_cases e1:fG.getD kn 0= -2
  ·rw [if_pos e1] at hko
   rw [if_pos (by simpa using e1),aC]
   by_cases h3:v.kids.length≤3
   ·rw [if_neg (by simp;omega)]
    simp only [wpS,T78k2]
    exact yes (by rw [hko];simpa using h3)
   ·rw [if_pos (by simp;omega)]
    simp only [wpS,T78k2]
    exact no (by rw [hko];simpa using h3)
  rw [if_neg e1] at hko
  rw [if_neg (by simpa using e1),aK,aC]
  by_cases e2:fG.getD kn 0= -3
  ·rw [if_pos e2] at hko
   rw [if_pos (by simpa using e2),aK,aC]
   by_cases h3:3≤v.kids.length
   ·rw [if_pos (by simp;omega)]
    simp only [wpS,T78k0]
    rw [aC]
    have ht:Int.tmod ((v.kids.length:Nat):Int) 2=((v.kids.length % 2:Nat):Int):=by
     rw [Int.tmod_eq_emod_of_nonneg (by omega)];omega
    by_cases h4:v.kids.length % 2=1
    ·rw [if_neg (by rw [ht];simp;omega)]
     simp only [wpS,T78k1,T78k2]
     exact yes (by rw [hko];simp [h3,h4])
    ·rw [if_pos (by rw [ht];simp;omega)]
     simp only [wpS,T78k1,T78k2]
     exact no (by rw [hko];simp [h4])
   ·rw [if_neg (by simp;omega)]
    simp only [wpS,T78k0]
    rw [aC,if_pos rfl]
    simp only [wpS,T78k1,T78k2]
    exact no (by rw [hko];simp [h3])
  ·rw [if_neg e2] at hko
   rw [if_neg (by simpa using e2),aE hS2 rfl]
   simp only [wpS]
   rw [hkn,aV]
   refine ⟨by simp only [Bool.and_eq_true,decide_eq_true_eq];omega,?_⟩
   rw [Int.toNat_natCast,lJ hR2 hge]
   simp only [wpS]
   rw [aC]
   by_cases h3:((v.kids.length:Nat):Int)=fG.getD kn 0
   ·rw [if_neg (by simpa using h3)]
    simp only [wpS,T78k1,T78k2]
    exact yes (by rw [hko];simpa using h3)
   ·rw [if_pos (by simpa using h3)]
    simp only [wpS,T78k1,T78k2]
    exact no (by rw [hko];simpa using h3)
 rw [aE hS2 rfl]
 simp only [wpS]
 rw [aC]
 by_cases h1:v.x.k<1
 ·rw [if_neg (by simp [h1])]
  simp only [wpS]
  exact s21 true ⟨fun _ h=>by omega,fun _=>rfl⟩
 ·rw [if_pos (by simpa using h1),aE hS2 rfl]
  simp only [wpS]
  exact s21 _ (by rw [decide_eq_true_eq];constructor<;>intro h<;>omega)
end
end Go.Pg
namespace Go.Pg
open Go.Proofs Go.Utf8 Go.Lib
set_option linter.unusedSimpArgs false
section
variable {N:List NV} {D:List Dc}
theorem pN {q:Nat→Bool→Option Nat} {β:Type} {g:Nat→List β} (hq:∀ p b e,q p b=some e→(g p).length+p≤e) (pat:Nat→Bool):∀ (l:List Nat) (i next e:Nat),eV q pat l i next=some e→(l.flatMap g).length+next≤e
 |[],i,next,e,h=>by
  cases ofS h
  simp
 |k::l,i,next,e,h=>by
  rw [eV] at h
  split at h
  ·rename_i hk
   subst hk
   obtain ⟨a,h1,h⟩:=aQ h
   have p1:=hq _ _ _ h1
   have p2:=pN hq pat l (i+1) a e h
   rw [List.flatMap_cons,List.length_append]
   omega
  ·cases h
theorem mF:∀ (w p:Nat) (b:Bool) (e:Nat),bT N D w p b=some e→∀ m,(bH N m p).length+p≤e
 |0,_,_,_,h,_=>by cases h
 |w+1,p,b,e,h,m=>by
  have hpe:=(iG _ _ _ _ h).1
  rw [bT] at h
  cases m with
  |zero=>rw [bH];simp;omega
  |succ m=>
   rw [bH]
   split at h
   ·cases h
   ·rename_i v hv
    split at h
    ·obtain ⟨a,h1,h⟩:=aQ h
     split at h
     ·cases h
     ·have hx:=ofS h
      subst hx
      split
      ·simp;omega
      ·have:=pN (g:=fun k=>if p<k∧k<N.length∧v.x.k=26 then bH N m k else []) (fun p' b' e' h'=>by
        have p1:=mF w p' b' e' h' m
        have p2:=(iG _ _ _ _ h').1
        split
        ·exact p1
        ·simp;omega) _ _ _ _ _ h1
       omega
    ·cases h
theorem walk_node {w p:Nat} {b:Bool} {e:Nat} (h:bT N D (w+1) p b=some e):∃ v,N[p]?=some v∧∀ j (hj:j<v.kids.length),p<v.kids[j]∧v.kids[j]<N.length∧∃ b' e',bT N D w v.kids[j] b'=some e':=by
 have hall:=iG _ _ _ _ h
 rw [bT] at h
 split at h
 ·cases h
 ·rename_i v hv
  refine ⟨v,hv,?_⟩
  split at h
  ·obtain ⟨a,h1,h⟩:=aQ h
   split at h
   ·cases h
   ·have hx:=ofS h
    subst hx
    obtain ⟨q1,q2,q3⟩:=pE (R:=fun i=>i<N.length) (S:=fun p b=>∃ e',bT N D w p b=some e') (fun p b e h=>by
     obtain ⟨p1,_,p3⟩:=iG _ _ _ _ h
     exact ⟨p1,⟨e,h⟩,fun i h1 h2=>by
      obtain ⟨u,hu,_⟩:=p3 i h1 h2
      exact (List.getElem?_eq_some_iff.1 hu).1⟩) _ _ _ _ _ h1
    intro j hj
    obtain ⟨r1,r2,e',r3⟩:=q2 j hj
    exact ⟨by omega,q3 _ r1 r2,_,e',r3⟩
  ·cases h
theorem gJ {w p:Nat} {b:Bool} {e:Nat} (h:bT N D w p b=some e):p<e∧e≤N.length:=by
 obtain ⟨h1,_,h3⟩:=iG _ _ _ _ h
 obtain ⟨u,hu,_⟩:=h3 (e - 1) (by omega) (by omega)
 have:=(List.getElem?_eq_some_iff.1 hu).1
 exact ⟨h1,by omega⟩
end
abbrev cW (t:List UInt8):Value:=.string (mkB t)
section
variable {σ σ':aB} {N:List NV} {D:List Dc} {Y:Nat→Prop} {pn pd:Option Addr} {cn cd:Nat}
theorem wp_binds80 (hN:N.length≤1000):∀ (w p:Nat) (b:Bool) (e m:Nat) (σ:aB),bT N D w p b=some e→N.length≤m+p→dF σ Y pn N pd D→
  WpF aF ovD 80 [trV pn N.length cn pd D.length cd,.int .i64 ((p:Nat):Int)] σ fun v σ'=>∃ rb q k,v=.slice q (bH N m p).length k∧SlV σ' rb q k ((bH N m p).map cW)∧(q≠none→σ.n≤rb)∧Frm σ σ' NoB:=by
 intro w
 induction w with
 |zero=>intro p b e m σ h;cases h
 |succ w ih=>
  intro p b e m σ h hm hT
  obtain ⟨v,hv,hkids⟩:=walk_node h
  have hbl:=mF _ _ _ _ h
  have hlt:=gJ h
  obtain ⟨m,rfl⟩:∃ m',m=m'+1:=⟨m - 1,by omega⟩
  have hpN:p<N.length:=by omega
  have hvN:N[p]=v:=by
   rw [List.getElem?_eq_getElem hpN] at hv
   exact Option.some.inj hv
  refine WpF.of (T80_eq _ _ _ _ _ _ _) rfl ?_
  rw [T80]
  refine aN fun σ1 hF1 hn1 hS1=>?_
  generalize hA:σ.n=A at hS1
  rw [aE hS1 rfl]
  simp only [wpS]
  have hT1:=hT.frm hF1
  refine dN hT1.nodes hpN rfl fun cs hcs=>?_
  rw [hvN] at hcs
  obtain ⟨q,k,rfl,hrow,_⟩:=hcs
  simp only [wpS]
  refine aN fun σ2 hF2 hn2 hS2=>?_
  refine bD hS2 rfl rfl fun σ3 hF3 hn3 hS3=>?_
  generalize hC:σ1.n=C at hS2 hS3 hF3 hn2
  have hF13:Frm σ1 σ3 NoB:=hF2.fresh hF3 fun j hj h=>by omega
  have hF03:=hF1.seq hF13
  have hS13:=hF13.stN hS1
  have hT3:=hT1.frm hF13
  have hrow3:=hrow.step (S:=NoB) (Y':=Y) hF13 (fun _ _ h=>h.elim) (fun _ _ h=>h) (fun _ _ h=>h)
  have hS3':St σ3 C (nvC v q k):=hS3
  rw [aE hS3' rfl]
  simp only [wpS]
  rw [aC]
  have hb:=hbl (m+1)
  by_cases h22:v.x.k=22
  ·have eb:bH N (m+1) p=[v.x.nm]:=by
    rw [bH,hv]
    simp only
    rw [if_pos h22]
   rw [if_pos (by simpa using h22),aE hS3' rfl]
   simp only [wpS]
   rw [aZ,cV]
   simp only [wpS]
   rw [eb]
   refine ⟨_,rfl,σ3.n,_,1,rfl,.inr ⟨0,1,rfl,Row.new σ3 1 [cW v.x.nm] 1 (by decide) rfl (by intro y hy;simp at hy;subst hy;rfl)⟩,fun _=>by have:=hF03.n;omega,hF03.seq (Frm.new _ _ _ _)⟩
  have eb:bH N (m+1) p=v.kids.flatMap fun k=>if p<k∧k<N.length∧v.x.k=26 then bH N m k else []:=by
   rw [bH,hv]
   simp only
   rw [if_neg h22]
  rw [if_neg (by simpa using h22),eb]
  rw [eb] at hb
  generalize hg:(fun k=>if p<k∧k<N.length∧v.x.k=26 then bH N m k else [])=g at hb
  have hkl:v.kids.length≤N.length:=by
   have:=(iG _ _ _ _ h).2.2 p (Nat.le_refl _) hlt.1
   obtain ⟨u,hu,hok⟩:=this
   rw [hv] at hu
   cases hu
   have hr:=h
   rw [bT,hv] at hr
   simp only at hr
   split at hr
   ·obtain ⟨a,h1,hr⟩:=aQ hr
    have:=pN (g:=fun _=>[()]) (fun p' b' e' h'=>by have:=gJ h';simp;omega) _ _ _ _ _ h1
    have h2:∀ l:List Nat,(l.flatMap fun _=>[()]).length=l.length:=fun l=>by
     induction l with
     |nil=>rfl
     |cons x l ih=>rw [List.flatMap_cons,List.length_append,ih];simp;omega
    have h2:=h2 v.kids
    split at hr
    ·cases hr
    ·cases ofS hr
     omega
   ·cases hr
  have hpre:∀ j,((v.kids.take j).flatMap g).length≤(v.kids.flatMap g).length:=fun j=>by
   conv=>rhs;rw [←List.take_append_drop j v.kids,List.flatMap_append,List.length_append]
   omega
  refine Wp.count v.kids.length (fun j st σ'=>∃ rb qq kk,st=[.int .i64 ((j:Nat):Int),.slice qq ((v.kids.take j).flatMap g).length kk]∧SlV σ' rb qq kk (((v.kids.take j).flatMap g).map cW)∧(qq≠none→σ3.n≤rb)∧Frm σ3 σ' NoB)
   ⟨0,none,0,by simp,.inl ⟨rfl,rfl,by simp⟩,fun h=>absurd rfl h,Frm.refl _ _⟩ ?_ ?_
  ·rintro j st σ4 hj ⟨rb,qq,kk,rfl,hL,hrb,hF4⟩
   obtain ⟨k1,k2,b',e',k3⟩:=hkids j hj
   have ej:aO ((j:Int)+1)=((j+1:Nat):Int):=by rw [aS (by omega)];omega
   have hS4:=hF4.stN hS3'
   have hS14:=hF4.stN hS13
   have hT4:=hT3.frm hF4
   have hrow4:=hrow3.step (S:=NoB) (Y':=Y) hF4 (fun _ _ h=>h.elim) (fun _ _ h=>h) (fun _ _ h=>h)
   unfold T80b0
   simp only [wpS]
   rw [aE hS4 (v:=.slice q v.kids.length k) rfl]
   simp only [wpS]
   rw [aC,if_pos (by simp;omega)]
   simp only [wpS]
   rw [aE hS4 (v:=.slice q v.kids.length k) rfl]
   simp only [wpS]
   refine cR hrow4 hj rfl fun cs hcs=>⟨_,hcs,?_⟩
   simp only [wpS]
   rw [aC,if_pos (by simp;omega),aE hS4 (v:=.slice q v.kids.length k) rfl]
   simp only [wpS]
   refine cR hrow4 hj rfl fun cs hcs=>⟨_,hcs,?_⟩
   simp only [wpS]
   rw [aE hS14 rfl]
   simp only [wpS]
   rw [aC,if_pos (by simp;omega),aE hS4 rfl]
   simp only [wpS,T80k1]
   rw [aC]
   have htk:(v.kids.take (j+1)).flatMap g=(v.kids.take j).flatMap g++g v.kids[j]:=by
    rw [List.take_succ_eq_append_getElem hj,List.flatMap_append]
    simp
   by_cases h26:v.x.k=26
   ·have eg:g v.kids[j]=bH N m v.kids[j]:=by rw [←hg];simp only;rw [if_pos ⟨k1,k2,h26⟩]
    rw [if_pos (by simpa using h26),aP hS14 2 rfl]
    simp only [wpS]
    rw [aE hS4 (v:=.slice q v.kids.length k) rfl]
    simp only [wpS]
    refine cR hrow4 hj rfl fun cs hcs=>⟨_,hcs,?_⟩
    simp only [wpS]
    rw [aD]
    refine WpF.mono (ih v.kids[j] b' e' m σ4 k3 (by omega) hT4) ?_
    rintro _ σ5 ⟨rb2,q2,kk2,rfl,hL2,hrb2,hF5⟩
    simp only [wpS]
    have hL5:=hL.frm hF5 fun _ h=>h
    have p1:=hpre (j+1)
    rw [htk,eg,List.length_append] at p1
    rw [←eg] at hL2 ⊢
    refine wp_appR hL5 (by simp) hL2 (by simp) (by rw [eg];omega) (by rw [eg];omega) fun σ6 rb6 q6 kk6 hF6 hq6 hL6=>?_
    simp only [wpS,T80k0,T80k2,ej]
    have hF46:Frm σ3 σ6 NoB:=(hF4.seq hF5).trans hF6 (fun _ _ h=>h) fun i hi h=>by have:=hrb h.1;omega
    refine ⟨rb6,q6,kk6,?_,?_,?_,hF46⟩
    ·rw [htk,List.length_append]
    ·rw [htk,List.map_append];exact hL6
    ·intro h
     have:=hF4.n
     have:=hF5.n
     rcases hq6 with h6|⟨h6,h7⟩|h6
     ·exact absurd h6 h
     ·have:=hrb h6;omega
     ·omega
   ·have eg:g v.kids[j]=[]:=by rw [←hg];simp only;rw [if_neg fun h=>h26 h.2.2]
    rw [if_neg (by simpa using h26)]
    simp only [wpS,T80k0,T80k2,ej]
    rw [htk,eg,List.append_nil]
    exact ⟨rb,qq,kk,rfl,hL,hrb,hF4⟩
  ·rintro st σ4 ⟨rb,qq,kk,rfl,hL,hrb,hF4⟩
   rw [List.take_length] at hL ⊢
   unfold T80b0
   simp only [wpS]
   rw [aE (hF4.stN hS3') (v:=.slice q v.kids.length k) rfl]
   simp only [wpS]
   rw [aC,if_neg (by simp)]
   simp only [wpS,T80k3]
   exact ⟨_,rfl,rb,qq,kk,rfl,hL,fun h=>by have:=hrb h;have:=hF03.n;omega,hF03.seq hF4⟩
theorem gH {rb c:Nat} {q:Option Addr} {l:List (List UInt8)} (h:SlV σ rb q c (l.map cW)):aT σ NoB 1 (pQ σ NoB) q l:=by
 rcases h with ⟨rfl,_,h0⟩|⟨off,s,rfl,hR⟩
 ·have:l=[]:=by simpa using h0
  rw [this]
  exact aT.nil
 ·exact aT.own (css:=l.map fun t=>[cW t]) (by
   have e:(l.map fun t=>[cW t]).flatten=l.map cW:=by
    clear hR
    induction l with
    |nil=>rfl
    |cons j r ih=>rw [List.map_cons,List.flatten_cons,List.map_cons,←ih];try rfl
   rw [e];exact hR) (fun h=>h) (by simp) (by intro cs hcs;obtain ⟨t,_,rfl⟩:=List.mem_map.1 hcs;rfl) (fun i h1 h2=>by simp [pQ])
end
end Go.Pg
namespace Go.Pg
open Go.Proofs Go.Utf8 Go.Lib
set_option linter.unusedSimpArgs false
theorem ofC_spec (s:List UInt8):∀ (l:List Cn) (c0:Nat) (x:Nat × Nat),ofC s c0 l=some x→c0≤x.1∧∃ h:x.1 - c0<l.length,l[x.1 - c0].args.length=x.2
 |[],_,_,h=>by cases h
 |y::l,c0,x,h=>by
  rw [ofC] at h
  split at h
  ·have hx:=ofS h
   subst hx
   refine ⟨Nat.le_refl _,by simp,?_⟩
   simp
  ·obtain ⟨h1,h2,h3⟩:=ofC_spec s l (c0+1) x h
   refine ⟨by omega,by simp;omega,?_⟩
   have e:x.1 - c0=(x.1 - (c0+1))+1:=by omega
   simp only [e,List.getElem_cons_succ]
   exact h3
theorem mC (s:List UInt8):∀ (l:List Dc) (d0:Nat) (x:Nat × Nat × Nat),ofD s d0 l=some x→d0≤x.1∧∃ h:x.1 - d0<l.length,∃ h2:x.2.1<l[x.1 - d0].cons.length,l[x.1 - d0].cons[x.2.1].args.length=x.2.2
 |[],_,_,h=>by cases h
 |y::l,d0,x,h=>by
  rw [ofD] at h
  split at h
  ·rename_i c n hc
   have hx:=ofS h
   subst hx
   obtain ⟨_,h2,h3⟩:=ofC_spec s _ 0 _ hc
   simp only [Nat.sub_zero] at h2 h3
   refine ⟨Nat.le_refl _,by simp,?_⟩
   simp only [Nat.sub_self,List.getElem_cons_zero]
   exact ⟨h2,h3⟩
  ·obtain ⟨h1,h2,h3,h4⟩:=mC s l (d0+1) x h
   have e:x.1 - d0=(x.1 - (d0+1))+1:=by omega
   refine ⟨by omega,by simp;omega,?_⟩
   simp only [e,List.getElem_cons_succ]
   exact ⟨h3,h4⟩
def wOut:Option Nat→Int
 |some e=>((e:Nat):Int)
 |none=> -1
section
variable {σ σ':aB} {N:List NV} {D:List Dc} {Y:Nat→Prop} {pn pd:Option Addr} {cn cd:Nat}
theorem wp_walk48 (hN:N.length≤1000) (hK:∀ v∈N,v.kids.length≤1000000) (hD:D.length≤1000000) (hC:∀ d∈D,d.cons.length≤1000000):∀ (n p:Nat) (pat:Bool) (σ:aB),n≤60→p≤N.length→dF σ Y pn N pd D→
  WpF aF ovD 48 [trV pn N.length cn pd D.length cd,.int .i64 ((p:Nat):Int),.bool pat,.int .i64 ((61 - n:Nat):Int)] σ fun v σ'=>v=.int .i64 (wOut (bT N D n p pat))∧Frm σ σ' NoB:=by
 intro n
 induction n with
 |zero=>
  intro p pat σ hn hp hT
  refine WpF.of (T48_eq _ _ _ _ _ _ _ _ _) rfl ?_
  rw [T48]
  refine aN fun σ1 hF1 hn1 hS1=>?_
  rw [aE hS1 rfl]
  simp only [wpS]
  rw [aC,if_pos (by simp)]
  simp only [wpS]
  exact ⟨_,rfl,rfl,hF1⟩
 |succ n ih=>
  intro p pat σ hn hp hT
  refine WpF.of (T48_eq _ _ _ _ _ _ _ _ _) rfl ?_
  rw [T48]
  refine aN fun σ1 hF1 hn1 hS1=>?_
  generalize hA:σ.n=A at hS1
  rw [aE hS1 rfl]
  simp only [wpS]
  rw [aC]
  by_cases hpN:p<N.length
  case neg=>
   rw [if_pos (by simp;omega)]
   simp only [wpS]
   rw [bT,List.getElem?_eq_none (by omega)]
   exact ⟨_,rfl,rfl,hF1⟩
  rw [if_neg (by simp;omega),aE hS1 rfl]
  simp only [wpS]
  have hT1:=hT.frm hF1
  have hvN:N[p]?=some N[p]:=List.getElem?_eq_getElem hpN
  have hkl:=hK _ (List.getElem_mem hpN)
  generalize hv:N[p]=v at hvN hkl
  refine dN hT1.nodes hpN rfl fun cs hcs=>?_
  rw [hv] at hcs
  obtain ⟨q,k,rfl,hrow,_⟩:=hcs
  simp only [wpS]
  refine aN fun σ2 hF2 hn2 hS2=>?_
  refine bD hS2 rfl rfl fun σ3 hF3 hn3 hS3=>?_
  generalize hCC:σ1.n=C at hS2 hS3 hF3 hn2
  have hF13:Frm σ1 σ3 NoB:=hF2.fresh hF3 fun j hj h=>by omega
  have hF03:=hF1.seq hF13
  have hS13:=hF13.stN hS1
  have hT3:=hT1.frm hF13
  have hrow3:=hrow.step (S:=NoB) (Y':=Y) hF13 (fun _ _ h=>h.elim) (fun _ _ h=>h) (fun _ _ h=>h)
  have hS3':St σ3 C (nvC v q k):=hS3
  clear hS2 hS3 hF2 hF3
  simp only [wpS]
  rw [aP hS3' 7 rfl]
  have eW:bT N D (n+1) p pat=if bS v=true∧decide (v.x.k>20)=pat∧(v.x.k=5∨v.x.k=26→∃ x,ofD v.x.nm 0 D=some x∧x.2.2=v.kids.length) then
    (eV (bT N D n) (fun i=>pat||(decide (v.x.k=11)&&decide (i % 2=1))) v.kids 0 (p+1)).bind fun next=>
     if v.x.k=11∧∃ i,i<v.kids.length∧i % 2=1∧cM (bH N N.length (v.kids.getD i 0))=true then none else some next
   else none:=by
   rw [bT,hvN]
  have s9no:∀ τ,Frm σ3 τ NoB→bT N D (n+1) p pat=none→Wp aF ovD (T48k9 ⟨C,0,some 0⟩ ⟨A,0,some 0⟩ ((p:Nat):Int) pat ((61 - (n+1):Nat):Int) .normal [.bool true]) τ fun _ vs σ'=>∃ w,vs=[w]∧w=.int .i64 (wOut (bT N D (n+1) p pat))∧Frm σ σ' NoB:=by
   intro τ hτ h
   simp only [wpS,T48k9]
   rw [aC,if_pos rfl]
   simp only [wpS]
   rw [h]
   exact ⟨_,rfl,rfl,hF03.seq hτ⟩
  have s7:∀ τ (x0:Int),Frm σ3 τ NoB→(bS v=true∧decide (v.x.k>20)=pat∧(v.x.k=5∨v.x.k=26→∃ x,ofD v.x.nm 0 D=some x∧x.2.2=v.kids.length))→Wp aF ovD (T48k7 ((p:Nat):Int) ⟨C,0,some 0⟩ ⟨A,0,some 0⟩ pat ((61 - (n+1):Nat):Int) .normal [.int .i64 x0]) τ fun _ vs σ'=>∃ w,vs=[w]∧w=.int .i64 (wOut (bT N D (n+1) p pat))∧Frm σ σ' NoB:=by
   intro τ x0 hτ hc
   rw [if_pos hc] at eW
   rw [eW]
   have hSτ:=hτ.stN hS3'
   have hS1τ:=hτ.stN hS13
   have hTτ:=hT3.frm hτ
   have hrowτ:=hrow3.step (S:=NoB) (Y':=Y) hτ (fun _ _ h=>h.elim) (fun _ _ h=>h) (fun _ _ h=>h)
   have hFτ:=hF03.seq hτ
   simp only [wpS,T48k7]
   have ep:aO (((p:Nat):Int)+1)=((p+1:Nat):Int):=by rw [aS (by omega)];omega
   have ed:aO (((61 - (n+1):Nat):Int)+1)=((61 - n:Nat):Int):=by rw [aS (by omega)];omega
   rw [ep]
   generalize hR:eV (bT N D n) (fun i=>pat||(decide (v.x.k=11)&&decide (i % 2=1))) v.kids 0 (p+1)=R
   refine Wp.count v.kids.length (fun j st σ'=>∃ (next:Nat) (x1:Int),st=[.int .i64 ((j:Nat):Int),.int .i64 ((next:Nat):Int),.int .i64 x1]∧Frm τ σ' NoB∧next≤N.length∧R=eV (bT N D n) (fun i=>pat||(decide (v.x.k=11)&&decide (i % 2=1))) (v.kids.drop j) j next)
    ⟨p+1,x0,rfl,Frm.refl _ _,by omega,by rw [←hR,List.drop_zero]⟩ ?_ ?_
   ·rintro j st σ4 hj ⟨next,x1,rfl,hF4,hnx,hRj⟩
    have ej:aO ((j:Int)+1)=((j+1:Nat):Int):=by rw [aS (by omega)];omega
    have hS4:=hF4.stN hSτ
    have hS14:=hF4.stN hS1τ
    have hrow4:=hrowτ.step (S:=NoB) (Y':=Y) hF4 (fun _ _ h=>h.elim) (fun _ _ h=>h) (fun _ _ h=>h)
    have hT4:=hTτ.frm hF4
    rw [List.drop_eq_getElem_cons hj,eV] at hRj
    unfold T48b0
    simp only [wpS]
    rw [aE hS4 (v:=.slice q v.kids.length k) rfl]
    simp only [wpS]
    rw [aC,if_pos (by simp;omega),aK,aE hS4 (v:=.slice q v.kids.length k) rfl]
    simp only [wpS]
    refine cR hrow4 hj rfl fun cs hcs=>⟨_,hcs,?_⟩
    simp only [wpS]
    rw [aC]
    have hTn:∀ {x:Int} {σ':aB},Frm τ σ' NoB→R=none→Wp aF ovD (T48k2 ((j:Nat):Int) .ret [.int .i64 x,.int .i64 (-1)]) σ' fun e st' σ'=>match e with
      | .normal=>∃ (next:Nat) (x1:Int),st'=[.int .i64 ((j+1:Nat):Int),.int .i64 ((next:Nat):Int),.int .i64 x1]∧Frm τ σ' NoB∧next≤N.length∧R=eV (bT N D n) (fun i=>pat||(decide (v.x.k=11)&&decide (i % 2=1))) (v.kids.drop (j+1)) (j+1) next
      |e=>Wp aF ovD (T48k6 ⟨C,0,some 0⟩ ⟨A,0,some 0⟩ e st') σ' fun _ vs σ'=>∃ w,vs=[w]∧w=.int .i64 (wOut (R.bind fun next=>if v.x.k=11∧∃ i,i<v.kids.length∧i % 2=1∧cM (bH N N.length (v.kids.getD i 0))=true then none else some next))∧Frm σ σ' NoB:=by
     intro x σ' hσ h
     simp only [wpS,T48k2,T48k6]
     rw [h]
     exact ⟨_,rfl,rfl,hFτ.seq hσ⟩
    by_cases hk:v.kids[j]=next
    case neg=>
     rw [if_neg hk] at hRj
     rw [if_pos (bne_iff_ne.2 fun h=>hk (by omega))]
     simp only [wpS]
     exact hTn hF4 hRj
    rw [if_pos hk] at hRj
    rw [if_neg (by rw [hk];simp)]
    simp only [wpS]
    rw [aP hS14 2 rfl]
    simp only [wpS]
    have back:∀ σ5,Frm σ4 σ5 NoB→Wp aF ovD (T48k1 x1 .normal [.int .i64 (wOut (bT N D n next (pat||(decide (v.x.k=11)&&decide (j % 2=1)))))]) σ5 fun e vs σ'=>Wp aF ovD (T48k2 ((j:Nat):Int) e vs) σ' fun e st' σ'=>match e with
      | .normal=>∃ (next:Nat) (x1:Int),st'=[.int .i64 ((j+1:Nat):Int),.int .i64 ((next:Nat):Int),.int .i64 x1]∧Frm τ σ' NoB∧next≤N.length∧R=eV (bT N D n) (fun i=>pat||(decide (v.x.k=11)&&decide (i % 2=1))) (v.kids.drop (j+1)) (j+1) next
      |e=>Wp aF ovD (T48k6 ⟨C,0,some 0⟩ ⟨A,0,some 0⟩ e st') σ' fun _ vs σ'=>∃ w,vs=[w]∧w=.int .i64 (wOut (R.bind fun next=>if v.x.k=11∧∃ i,i<v.kids.length∧i % 2=1∧cM (bH N N.length (v.kids.getD i 0))=true then none else some next))∧Frm σ σ' NoB:=by
     intro σ5 hF5
     simp only [wpS,T48k1]
     rw [aC]
     cases hw:bT N D n next (pat||(decide (v.x.k=11)&&decide (j % 2=1))) with
     |none=>
      rw [hw] at hRj
      rw [if_pos (by simp [wOut])]
      simp only [wpS]
      exact hTn (hF4.seq hF5) hRj
     |some e=>
      rw [hw] at hRj
      have hlt:=gJ hw
      rw [if_neg (by rw [decide_eq_true_eq];show ¬ ((e:Nat):Int)<0;omega)]
      simp only [wpS,T48k2,ej]
      exact ⟨e,_,rfl,hF4.seq hF5,hlt.2,hRj⟩
    have htm:(Int.tmod ((j:Nat):Int) 2==1)=decide (j % 2=1):=by
     rw [Int.tmod_eq_emod_of_nonneg (by omega)]
     by_cases h2:j % 2=1
     ·rw [decide_eq_true h2,beq_iff_eq];omega
     ·rw [decide_eq_false h2,beq_eq_false_iff_ne];omega
    have sub:∀ (b:Bool),b=(pat||(decide (v.x.k=11)&&decide (j % 2=1)))→WpF aF ovD 48 [trV pn N.length cn pd D.length cd,.int .i64 ((next:Nat):Int),.bool b,.int .i64 (aO (((61 - (n+1):Nat):Int)+1))] σ4 fun w σ5=>w=.int .i64 (wOut (bT N D n next (pat||(decide (v.x.k=11)&&decide (j % 2=1)))))∧Frm σ4 σ5 NoB:=by
     rintro b rfl
     rw [ed]
     exact ih next _ σ4 (by omega) hnx hT4
    rw [aC]
    cases pat with
    |true=>
     rw [if_neg (by simp),aD]
     refine WpF.mono (sub true (by simp)) ?_
     rintro _ σ5 ⟨rfl,hF5⟩
     simp only [wpS]
     exact back σ5 hF5
    |false=>
     rw [if_pos (by rfl),aE hS4 rfl]
     simp only [wpS]
     rw [aC]
     by_cases h11:v.x.k=11
     ·rw [if_pos (by simpa using h11),aD,htm]
      refine WpF.mono (sub _ (by simp [h11])) ?_
      rintro _ σ5 ⟨rfl,hF5⟩
      simp only [wpS]
      exact back σ5 hF5
     ·rw [if_neg (by simpa using h11),aD]
      refine WpF.mono (sub _ (by simp [h11])) ?_
      rintro _ σ5 ⟨rfl,hF5⟩
      simp only [wpS]
      exact back σ5 hF5
   ·rintro st σ4 ⟨next,x1,rfl,hF4,hnx,hRj⟩
    have hS4:=hF4.stN hSτ
    have hS14:=hF4.stN hS1τ
    have hrow4:=hrowτ.step (S:=NoB) (Y':=Y) hF4 (fun _ _ h=>h.elim) (fun _ _ h=>h) (fun _ _ h=>h)
    have hT4:=hTτ.frm hF4
    rw [List.drop_length,eV] at hRj
    subst hRj
    unfold T48b0
    simp only [wpS]
    rw [aE hS4 (v:=.slice q v.kids.length k) rfl]
    simp only [wpS]
    rw [aC,if_neg (by simp)]
    simp only [wpS,T48k6]
    rw [aE hS4 rfl]
    simp only [wpS]
    rw [aC]
    rw [Option.bind_some]
    by_cases h11:v.x.k=11
    case neg=>
     rw [if_neg (by simpa using h11)]
     simp only [wpS,T48k5]
     rw [if_neg fun h=>h11 h.1]
     exact ⟨_,rfl,rfl,hFτ.seq hF4⟩
    rw [if_pos (by simpa using h11)]
    have hkw:∀ j (hj:j<v.kids.length),∃ b' e',bT N D n v.kids[j] b'=some e':=by
     obtain ⟨_,q2,_⟩:=pE (R:=fun _=>True) (S:=fun p b=>∃ e',bT N D n p b=some e') (fun p b e h=>⟨(iG _ _ _ _ h).1,⟨e,h⟩,fun _ _ _=>trivial⟩) _ _ _ _ _ hR
     intro j hj
     obtain ⟨_,_,e',r3⟩:=q2 j hj
     exact ⟨_,e',r3⟩
    refine Wp.loop (fun m st σ'=>∃ (i:Nat) (x2:Int),m=v.kids.length+1 - i∧i≤v.kids.length+1∧i % 2=1∧st=[.int .i64 ((i:Nat):Int),.int .i64 x2]∧Frm σ4 σ' NoB∧∀ j,j<i→j<v.kids.length→j % 2=1→cM (bH N N.length (v.kids.getD j 0))=false) v.kids.length
     ⟨1,x1,by omega,by omega,rfl,rfl,Frm.refl _ _,fun j h1 _ h3=>by omega⟩ ?_
    rintro m st σ5 ⟨i,x2,rfl,hi,hodd,rfl,hF5,hno⟩
    have hS5:=hF5.stN hS4
    have hS15:=hF5.stN hS14
    have hrow5:=hrow4.step (S:=NoB) (Y':=Y) hF5 (fun _ _ h=>h.elim) (fun _ _ h=>h) (fun _ _ h=>h)
    have hT5:=hT4.frm hF5
    unfold T48b1
    simp only [wpS]
    rw [aE hS5 (v:=.slice q v.kids.length k) rfl]
    simp only [wpS]
    rw [aC]
    by_cases hil:i<v.kids.length
    case neg=>
     rw [if_neg (by simp;omega)]
     simp only [wpS,T48k4,T48k5]
     rw [if_neg]
     ·exact ⟨_,rfl,rfl,(hFτ.seq hF4).seq hF5⟩
     ·rintro ⟨_,j,h1,h2,h3⟩
      rw [hno j (by omega) h1 h2] at h3
      cases h3
    rw [if_pos (by simp;omega),aK,aP hS15 2 rfl]
    simp only [wpS]
    rw [aE hS5 (v:=.slice q v.kids.length k) rfl]
    simp only [wpS]
    refine cR hrow5 hil rfl fun cs hcs=>⟨_,hcs,?_⟩
    simp only [wpS]
    rw [aD]
    obtain ⟨b',e',hk⟩:=hkw i hil
    refine WpF.mono (wp_binds80 hN n _ b' e' N.length σ5 hk (by omega) hT5) ?_
    rintro _ σ6 ⟨rb,q2,k2,rfl,hL,hrb,hF6⟩
    simp only [wpS]
    rw [aD]
    have hbl:=mF _ _ _ _ hk N.length
    have hlt:=gJ hk
    refine WpF.mono (rG (gH hL) (by omega)) ?_
    rintro _ _ ⟨rfl,rfl⟩
    simp only [wpS]
    have eg:v.kids.getD i 0=v.kids[i]:=by simp [List.getD,hil]
    rw [aC]
    by_cases htw:cM (bH N N.length v.kids[i])=true
    ·rw [if_pos htw]
     simp only [wpS,T48k3,T48k4,T48k5]
     rw [if_pos ⟨h11,i,hil,hodd,by rw [eg];exact htw⟩]
     exact ⟨_,rfl,rfl,((hFτ.seq hF4).seq hF5).seq hF6⟩
    ·rw [if_neg htw]
     have ei:aO (((i:Nat):Int)+2)=((i+2:Nat):Int):=by rw [aS (by omega)];omega
     simp only [wpS,T48k3,ei]
     refine ⟨v.kids.length+1 - (i+2),by omega,i+2,x2,rfl,by omega,by omega,rfl,hF5.seq hF6,fun j h1 h2 h3=>?_⟩
     by_cases hji:j<i
     ·exact hno j hji h2 h3
     ·have:j=i:=by omega
      subst this
      rw [eg]
      simpa using htw
  unfold nvC
  simp only [wpS]
  rw [aD]
  refine WpF.mono (wp_shape78 v hkl q k) ?_
  rintro _ τ ⟨rfl,hτ⟩
  simp only [wpS]
  rw [aC]
  cases hsh:bS v with
  |false=>
   rw [if_neg (by simp)]
   simp only [wpS]
   exact s9no τ hτ (by rw [eW,if_neg fun h=>by rw [hsh] at h;exact absurd h.1 (by simp)])
  |true=>
  have hSτ:=hτ.stN hS3'
  have hS1τ:=hτ.stN hS13
  rw [if_pos (by rfl),aE hSτ rfl]
  simp only [wpS]
  by_cases hpt:decide (v.x.k>20)=pat
  case neg=>
   rw [show (!(decide (v.x.k>20)==pat))=true by simp [hpt]]
   exact s9no τ hτ (by rw [eW,if_neg fun h=>hpt h.2.1])
  rw [show (!(decide (v.x.k>20)==pat))=false by simp [hpt]]
  simp only [wpS,T48k9]
  rw [aC,if_neg (by simp)]
  simp only [wpS]
  rw [aE hSτ rfl]
  simp only [wpS]
  have s8:∀ b:Bool,(b=true↔v.x.k=5∨v.x.k=26)→Wp aF ovD (T48k8 ⟨A,0,some 0⟩ ⟨C,0,some 0⟩ ((p:Nat):Int) pat ((61 - (n+1):Nat):Int) .normal [.bool b]) τ fun _ vs σ'=>∃ w,vs=[w]∧w=.int .i64 (wOut (bT N D (n+1) p pat))∧Frm σ σ' NoB:=by
   intro b hb
   simp only [wpS,T48k8]
   rw [aC]
   by_cases hk:v.x.k=5∨v.x.k=26
   case neg=>
    rw [if_neg fun h=>hk (hb.1 h)]
    simp only [wpS]
    exact s7 τ 0 hτ ⟨hsh,hpt,fun h=>absurd h hk⟩
   rw [if_pos (hb.2 hk),aP hS1τ 2 rfl]
   simp only [wpS]
   rw [aE hSτ rfl]
   simp only [wpS]
   rw [aD]
   have hTτ:=hT3.frm hτ
   refine WpF.mono (wp_Of79 hTτ.decls hD hC v.x.nm) ?_
   rintro _ τ2 ⟨rfl,hτ2⟩
   have hS2:=hτ2.stN hSτ
   have hS12:=hτ2.stN hS1τ
   have hT2:=hTτ.frm hτ2
   have hF2:=hτ.seq hτ2
   have bad:(¬ ∃ x,ofD v.x.nm 0 D=some x∧x.2.2=v.kids.length)→Wp aF ovD (T48k0 .normal [.bool true]) τ2 fun e vs σ'=>Wp aF ovD (T48k7 ((p:Nat):Int) ⟨C,0,some 0⟩ ⟨A,0,some 0⟩ pat ((61 - (n+1):Nat):Int) e vs) σ' fun _ vs σ'=>∃ w,vs=[w]∧w=.int .i64 (wOut (bT N D (n+1) p pat))∧Frm σ σ' NoB:=by
    intro h
    simp only [wpS,T48k0]
    rw [aC,if_pos rfl]
    simp only [wpS,T48k7]
    rw [eW,if_neg fun hc=>h (hc.2.2 hk)]
    exact ⟨_,rfl,rfl,hF03.seq hF2⟩
   cases hof:ofD v.x.nm 0 D with
   |none=>
    rw [ofV_none]
    simp only [wpS]
    rw [aC,if_neg (by simp)]
    simp only [wpS]
    exact bad fun ⟨x,hx,_⟩=>by rw [hof] at hx;cases hx
   |some x=>
    obtain ⟨d,c,m⟩:=x
    obtain ⟨_,h1,h2,h3⟩:=mC _ _ _ _ hof
    simp only [Nat.sub_zero] at h1 h2 h3
    rw [sQ]
    simp only [wpS]
    rw [aC,if_pos (by rfl),aE hS12 rfl]
    simp only [wpS]
    refine cO hT2.decls h1 rfl (o:=1) (by decide) fun cs hcs=>?_
    obtain ⟨q1,k1,rfl,hr1⟩:=hcs
    refine ⟨_,rfl,?_⟩
    simp only [wpS]
    refine cO hr1 h2 rfl (o:=1) (by decide) fun cs hcs=>?_
    obtain ⟨q2,k2,rfl,_,_⟩:=hcs
    refine ⟨_,rfl,?_⟩
    simp only [wpS]
    rw [aE hS2 (v:=.slice q v.kids.length k) rfl]
    simp only [wpS]
    rw [h3]
    by_cases hm:m=v.kids.length
    ·rw [show (((m:Nat):Int) !=((v.kids.length:Nat):Int))=false by simp [hm]]
     simp only [wpS,T48k0]
     rw [aC,if_neg (by simp)]
     simp only [wpS]
     exact s7 τ2 0 hF2 ⟨hsh,hpt,fun _=>⟨_,hof,hm⟩⟩
    ·rw [show (((m:Nat):Int) !=((v.kids.length:Nat):Int))=true from bne_iff_ne.2 fun h=>hm (by omega)]
     exact bad fun ⟨x,hx,h⟩=>by rw [hof] at hx;cases hx;exact hm h
  rw [aC]
  by_cases k5:v.x.k=5
  ·rw [if_neg (by simp [k5])]
   simp only [wpS]
   exact s8 true ⟨fun _=>.inl k5,fun _=>rfl⟩
  ·rw [if_pos (by simpa using k5),aE hSτ rfl]
   simp only [wpS]
   exact s8 _ (by rw [beq_iff_eq];exact ⟨.inr,fun h=>h.elim (fun h=>absurd h k5) id⟩)
end
end Go.Pg
namespace Go.Pg
open Go.Proofs Go.Utf8 Go.Lib
set_option linter.unusedSimpArgs false
def okC (c:Cn):Bool:=conM c.nm&&decide (c.args.length≤3)
def okD (d:Dc):Bool:=tB d.nm&&!eB d.nm&&decide (1≤d.cons.length)&&decide (d.cons.length≤20)&&d.cons.all okC
def dB (D:List Dc):List (List UInt8):=D.map (·.nm)
def cP (D:List Dc):List (List UInt8):=D.flatMap fun d=>d.cons.map (·.nm)
def oW (D:List Dc) (d:Dc):Bool:=d.cons.all fun c=>c.args.all fun a=>(dB D).contains a||eB a
theorem typesM_eq (D:List Dc):eE D=(D.all okD&&decide (D.length≤20)&&!cM (dB D)&&!cM (cP D)&&D.all (oW D)):=rfl
theorem mD {α:Type} {p:α→Bool}:∀ {l:List α} {i:Nat} (hi:i<l.length),p l[i]=false→l.all p=false:=fun {l i} hi h=>by
 rw [Bool.eq_false_iff]
 intro h2
 rw [List.all_eq_true] at h2
 rw [h2 _ (List.getElem_mem hi)] at h
 cases h
theorem all_of {α:Type} {p:α→Bool} {l:List α} (h:∀ i (hi:i<l.length),p l[i]=true):l.all p=true:=by
 rw [List.all_eq_true]
 intro x hx
 obtain ⟨i,hi,rfl⟩:=List.getElem_of_mem hx
 exact h i hi
theorem in_basic (l:List (List UInt8)) (a:List UInt8):(l++[[105,110,116],[98,111,111,108],[117,110,105,116]]).contains a=(l.contains a||eB a):=by
 unfold eB
 rw [List.contains_eq_any_beq,List.any_append,←List.contains_eq_any_beq]
 congr 1
 simp only [List.any_cons,List.any_nil,Bool.or_false]
 rw [Bool.eq_iff_iff]
 simp only [Bool.or_eq_true,beq_iff_eq,decide_eq_true_eq,or_assoc]
section
variable {σ τ:aB} {P:Program} {ov:Ov}
theorem aT.later {β:Type} {Y:Nat→Prop} {c:Nat} {R:List Value→β→Prop} {p:Option Addr} {ts:List β} (h:aT σ Y c R p ts) (f:Frm σ τ NoB):aT τ Y c R p ts:=aT.step (S:=NoB) f (fun _ _ h=>h.elim) (fun _ _ h=>h) (fun _ _ h=>h) h
end
section
variable {σ σ':aB} {D:List Dc} {Y:Nat→Prop} {pn pd:Option Addr} {n cn cd:Nat}
theorem wp_types47 (hT:aT σ Y 2 (dcR σ Y) pd D) (hD:D.length≤1000000) (hC:∀ d∈D,d.cons.length≤1000000) (hA:∀ d∈D,∀ c∈d.cons,c.args.length≤1000000) (hcn:(cP D).length≤100000000):
  WpF aF ovD 47 [trV pn n cn pd D.length cd] σ fun v σ'=>v=.bool (eE D)∧Frm σ σ' NoB:=by
 refine WpF.of (T47_eq _ _ _ _ _ _) rfl ?_
 rw [T47]
 refine aN fun σ1 hF1 hn1 hS1=>?_
 generalize hA0:σ.n=A at hS1
 have htk:∀ {i:Nat} (hi:i<D.length),dB (D.take (i+1))=dB (D.take i)++[D[i].nm]∧cP (D.take (i+1))=cP (D.take i)++D[i].cons.map (·.nm):=fun {i} hi=>by
  constructor
  ·unfold dB
   rw [List.take_succ_eq_append_getElem hi,List.map_append]
   try rfl
  ·unfold cP
   rw [List.take_succ_eq_append_getElem hi,List.flatMap_append]
   simp
 have hcl:∀ i,(cP (D.take i)).length≤(cP D).length:=fun i=>by
  have:cP D=cP (D.take i)++cP (D.drop i):=by
   unfold cP
   rw [←List.flatMap_append,List.take_append_drop]
  rw [this,List.length_append]
  omega
 have no:eE D=false→∀ (τ:aB),Frm σ τ NoB→∀ (i:Int) (a b:Option Addr) (na nb ca cb:Nat),Wp aF ovD (T47k12 ⟨A,0,some 0⟩ .ret [.int .i64 i,.slice a na ca,.slice b nb cb,.bool false]) τ fun _ vs σ'=>∃ v,vs=[v]∧v=.bool (eE D)∧Frm σ σ' NoB:=by
  intro h τ hτ i a b na nb ca cb
  simp only [wpS,T47k12]
  rw [h]
  exact ⟨_,rfl,rfl,hτ⟩
 refine Wp.count D.length (fun i st σ'=>∃ (rc:Nat) (qc:Option Addr) (kc rn:Nat) (qn:Option Addr) (kn:Nat),st=[.int .i64 ((i:Nat):Int),.slice qc (cP (D.take i)).length kc,.slice qn (dB (D.take i)).length kn,.bool false]∧SlE σ' rc qc kc 1 ((cP (D.take i)).map cW)∧SlE σ' rn qn kn 1 ((dB (D.take i)).map cW)∧
   (qc≠none→σ1.n≤rc)∧(qn≠none→σ1.n≤rn)∧(qc≠none→qn≠none→rc≠rn)∧Frm σ1 σ' NoB∧∀ j (hj:j<D.length),j<i→okD D[j]=true)
  ⟨0,none,0,0,none,0,rfl,.inl ⟨rfl,rfl,rfl⟩,.inl ⟨rfl,rfl,rfl⟩,fun h=>absurd rfl h,fun h=>absurd rfl h,fun h=>absurd rfl h,Frm.refl _ _,fun j _ h=>by omega⟩ ?_ ?_
 ·rintro i st σ2 hi ⟨rc,qc,kc,rn,qn,kn,rfl,hRc,hRn,hrc,hrn,hne,hF2,hall⟩
  have ei:aO ((i:Int)+1)=((i+1:Nat):Int):=by rw [aS (by omega)];omega
  have hS2:=hF2.stN hS1
  have hF02:=hF1.seq hF2
  have hn2:=hF2.n
  have hcl1:=hC _ (List.getElem_mem hi)
  have bad:okD D[i]=false→eE D=false:=fun h=>by rw [typesM_eq,mD hi h];try rfl
  obtain ⟨tk1,tk2⟩:=htk hi
  have hci:=hcl (i+1)
  rw [tk2,List.length_append,List.length_map] at hci
  have hnl:(dB (D.take i)).length≤D.length:=by unfold dB;rw [List.length_map,List.length_take];omega
  have hall2:okD D[i]=true→∀ j (hj:j<D.length),j<i+1→okD D[j]=true:=fun h j hj h2=>by
   by_cases hji:j=i
   ·subst hji;exact h
   ·exact hall j hj (by omega)
  generalize hd:D[i]=d at hcl1 bad tk1 tk2 hci hall2
  unfold T47b1
  simp only [wpS]
  rw [aE hS2 rfl]
  simp only [wpS]
  rw [aC,if_pos (by simp;omega),aK,aE hS2 rfl]
  simp only [wpS]
  refine dN (hT.later hF02) hi rfl fun cs hcs=>?_
  rw [hd] at hcs
  obtain ⟨q,k,rfl,hrow⟩:=hcs
  simp only [wpS]
  refine aN fun σ3 hF3 hn3 hS3=>?_
  refine bD hS3 rfl rfl fun σ4 hF4 hn4 hS4=>?_
  generalize hB:σ2.n=C at hS3 hS4 hF4 hn3
  have hF24:Frm σ2 σ4 NoB:=hF3.fresh hF4 fun j hj h=>by omega
  clear hS3 hF3 hF4
  simp only [wpS]
  rw [aE hS4 rfl]
  simp only [wpS]
  rw [aD]
  refine wp_var74 _ fun σ5 hF5=>?_
  simp only [wpS]
  have hF25:=hF24.seq hF5
  have hS5:=hF5.stN hS4
  have hn5:=hF25.n
  have hRc5:SlE σ5 rc qc kc 1 ((cP (D.take i)).map cW):=SlE.frm hRc hF25 fun _ h=>h
  have hRn5:SlE σ5 rn qn kn 1 ((dB (D.take i)).map cW):=SlE.frm hRn hF25 fun _ h=>h
  have hF15:=hF2.seq hF25
  have hC5:C<σ5.n:=hS5.1
  clear hF24 hS4
  have fail:okD d=false→Wp aF ovD (T47k3 qc (cP (D.take i)).length kc qn (dB (D.take i)).length kn ⟨C,0,some 0⟩ false .normal [.bool true]) σ5 fun e vs σ'=>Wp aF ovD (T47k4 ((i:Nat):Int) e vs) σ' fun e st' σ'=>match e with
    | .normal=>∃ (rc:Nat) (qc:Option Addr) (kc rn:Nat) (qn:Option Addr) (kn:Nat),st'=[.int .i64 ((i+1:Nat):Int),.slice qc (cP (D.take (i+1))).length kc,.slice qn (dB (D.take (i+1))).length kn,.bool false]∧SlE σ' rc qc kc 1 ((cP (D.take (i+1))).map cW)∧SlE σ' rn qn kn 1 ((dB (D.take (i+1))).map cW)∧
      (qc≠none→σ1.n≤rc)∧(qn≠none→σ1.n≤rn)∧(qc≠none→qn≠none→rc≠rn)∧Frm σ1 σ' NoB∧∀ j (hj:j<D.length),j<i+1→okD D[j]=true
    |e=>Wp aF ovD (T47k12 ⟨A,0,some 0⟩ e st') σ' fun _ vs σ'=>∃ v,vs=[v]∧v=.bool (eE D)∧Frm σ σ' NoB:=by
   intro h
   simp only [wpS,T47k3]
   rw [aC,if_pos rfl]
   simp only [wpS,T47k4]
   exact no (bad h) σ5 (hF1.seq hF15) _ _ _ _ _ _ _
  have good:(tB d.nm&&!eB d.nm&&decide (1≤d.cons.length)&&decide (d.cons.length≤20))=true→Wp aF ovD (T47k3 qc (cP (D.take i)).length kc qn (dB (D.take i)).length kn ⟨C,0,some 0⟩ false .normal [.bool false]) σ5 fun e vs σ'=>Wp aF ovD (T47k4 ((i:Nat):Int) e vs) σ' fun e st' σ'=>match e with
    | .normal=>∃ (rc:Nat) (qc:Option Addr) (kc rn:Nat) (qn:Option Addr) (kn:Nat),st'=[.int .i64 ((i+1:Nat):Int),.slice qc (cP (D.take (i+1))).length kc,.slice qn (dB (D.take (i+1))).length kn,.bool false]∧SlE σ' rc qc kc 1 ((cP (D.take (i+1))).map cW)∧SlE σ' rn qn kn 1 ((dB (D.take (i+1))).map cW)∧
      (qc≠none→σ1.n≤rc)∧(qn≠none→σ1.n≤rn)∧(qc≠none→qn≠none→rc≠rn)∧Frm σ1 σ' NoB∧∀ j (hj:j<D.length),j<i+1→okD D[j]=true
    |e=>Wp aF ovD (T47k12 ⟨A,0,some 0⟩ e st') σ' fun _ vs σ'=>∃ v,vs=[v]∧v=.bool (eE D)∧Frm σ σ' NoB:=by
   intro hh
   have hokd:okD d=d.cons.all okC:=by unfold okD;rw [hh];try rfl
   simp only [wpS,T47k3]
   rw [aC,if_neg (by simp),aE hS5 rfl]
   simp only [wpS]
   refine jQ (len:=(dB (D.take i)).length) hRn5 (by rw [List.length_map,Nat.mul_one]) (by decide) (by decide) rfl (by intro y hy;simp at hy;subst hy;rfl) (by omega) (by omega) fun σ6 rn6 off6 s6 kn6 hF6 hrn6 hRn6=>?_
   have hF16:Frm σ1 σ6 NoB:=hF15.trans hF6 (fun _ _ h=>h) fun j hj h=>by have:=hrn h.1;omega
   have hn6:=hF6.n
   have hRc6:SlE σ6 rc qc kc 1 ((cP (D.take i)).map cW):=SlE.frm hRc5 hF6 fun h h2=>hne h h2.1 h2.2
   have hS6:St σ6 C [.string (mkB d.nm),.slice q d.cons.length k]:=hF6.st hS5 fun h=>by have:=SlE.lt hRn h.1;omega
   have hrn6':σ1.n≤rn6:=by
    rcases hrn6 with ⟨h1,rfl⟩|h
    ·exact hrn h1
    ·omega
   have hne6:qc≠none→rc≠rn6:=by
    intro h
    rcases hrn6 with ⟨h1,rfl⟩|h1
    ·exact hne h h1
    ·have:=SlE.lt hRc5 h;omega
   have hC6:C≠rn6:=by
    rcases hrn6 with ⟨h1,rfl⟩|h1
    ·have:=SlE.lt hRn h1;omega
    ·omega
   rw [←List.map_singleton (f:=cW),←List.map_append,←tk1] at hRn6
   have hnl6:(dB (D.take i)).length+1=(dB (D.take (i+1))).length:=by rw [tk1];simp
   simp only [wpS,hnl6]
   have hkt:∀ {j:Nat} (hj:j<d.cons.length),(d.cons.take (j+1)).map (·.nm)=(d.cons.take j).map (·.nm)++[d.cons[j].nm]:=fun {j} hj=>by
    rw [List.take_succ_eq_append_getElem hj,List.map_append]
    try rfl
   refine Wp.count d.cons.length (fun j st σ'=>∃ (rc:Nat) (qc:Option Addr) (kc:Nat),st=[.int .i64 ((j:Nat):Int),.slice qc ((cP (D.take i)).length+j) kc,.bool false]∧SlE σ' rc qc kc 1 ((cP (D.take i)++(d.cons.take j).map (·.nm)).map cW)∧SlE σ' rn6 (some ⟨rn6,off6,some s6⟩) kn6 1 ((dB (D.take (i+1))).map cW)∧St σ' C [.string (mkB d.nm),.slice q d.cons.length k]∧
     (qc≠none→σ1.n≤rc)∧(qc≠none→rc≠rn6∧rc≠C)∧Frm σ1 σ' NoB∧σ6.n≤σ'.n∧∀ m (hm:m<d.cons.length),m<j→okC d.cons[m]=true)
    ⟨rc,qc,kc,rfl,by simpa using hRc6,.inr ⟨off6,s6,rfl,hRn6⟩,hS6,hrc,fun h=>⟨hne6 h,fun h2=>by have:=SlE.lt hRc h;omega⟩,hF16,Nat.le_refl _,fun m _ h=>by omega⟩ ?_ ?_
   ·rintro j st σ7 hj ⟨rc7,qc7,kc7,rfl,hRc7,hRn7,hS7,hrc7,hne7,hF7,hn67,hok7⟩
    have ej:aO ((j:Int)+1)=((j+1:Nat):Int):=by rw [aS (by omega)];omega
    have hF07:=hF1.seq hF7
    have hrow7:=hrow.later hF07
    have badc:okC d.cons[j]=false→eE D=false:=fun h=>bad (by rw [hokd,mD hj h])
    unfold T47b0
    simp only [wpS]
    rw [aE hS7 (i:=1) (v:=.slice q d.cons.length k) rfl]
    simp only [wpS]
    rw [aC,if_pos (by simp;omega)]
    simp only [wpS]
    rw [aE hS7 (i:=1) (v:=.slice q d.cons.length k) rfl]
    simp only [wpS]
    refine cO hrow7 hj rfl (o:=0) (by decide) fun cs hcs=>?_
    obtain ⟨q1,k1,rfl,_⟩:=hcs
    refine ⟨_,rfl,?_⟩
    simp only [wpS]
    rw [aD]
    refine wp_cons75 _ fun σ8 hF8=>?_
    simp only [wpS]
    have hS8:=hF8.stN hS7
    have hF78:=hF7.seq hF8
    have hrow8:=hrow.later (hF1.seq hF78)
    have hn8:=hF8.n
    have badk:okC d.cons[j]=false→Wp aF ovD (T47k0 qc7 ((cP (D.take i)).length+j) kc7 ⟨C,0,some 0⟩ ((j:Nat):Int) false .normal [.bool true]) σ8 fun e vs σ'=>Wp aF ovD (T47k1 ((j:Nat):Int) e vs) σ' fun e st' σ'=>match e with
      | .normal=>∃ (rc:Nat) (qc:Option Addr) (kc:Nat),st'=[.int .i64 ((j+1:Nat):Int),.slice qc ((cP (D.take i)).length+(j+1)) kc,.bool false]∧SlE σ' rc qc kc 1 ((cP (D.take i)++(d.cons.take (j+1)).map (·.nm)).map cW)∧SlE σ' rn6 (some ⟨rn6,off6,some s6⟩) kn6 1 ((dB (D.take (i+1))).map cW)∧St σ' C [.string (mkB d.nm),.slice q d.cons.length k]∧
        (qc≠none→σ1.n≤rc)∧(qc≠none→rc≠rn6∧rc≠C)∧Frm σ1 σ' NoB∧σ6.n≤σ'.n∧∀ m (hm:m<d.cons.length),m<j+1→okC d.cons[m]=true
      |e=>Wp aF ovD (T47k2 (some ⟨rn6,off6,some s6⟩) (dB (D.take (i+1))).length kn6 e st') σ' fun e vs σ'=>Wp aF ovD (T47k4 ((i:Nat):Int) e vs) σ' fun e st' σ'=>match e with
       | .normal=>∃ (rc:Nat) (qc:Option Addr) (kc rn:Nat) (qn:Option Addr) (kn:Nat),st'=[.int .i64 ((i+1:Nat):Int),.slice qc (cP (D.take (i+1))).length kc,.slice qn (dB (D.take (i+1))).length kn,.bool false]∧SlE σ' rc qc kc 1 ((cP (D.take (i+1))).map cW)∧SlE σ' rn qn kn 1 ((dB (D.take (i+1))).map cW)∧
         (qc≠none→σ1.n≤rc)∧(qn≠none→σ1.n≤rn)∧(qc≠none→qn≠none→rc≠rn)∧Frm σ1 σ' NoB∧∀ j (hj:j<D.length),j<i+1→okD D[j]=true
       |e=>Wp aF ovD (T47k12 ⟨A,0,some 0⟩ e st') σ' fun _ vs σ'=>∃ v,vs=[v]∧v=.bool (eE D)∧Frm σ σ' NoB:=by
     intro h
     simp only [wpS,T47k0]
     rw [aC,if_pos rfl]
     simp only [wpS,T47k1,T47k2,T47k4]
     exact no (badc h) σ8 (hF1.seq hF78) _ _ _ _ _ _ _
    rw [aC]
    cases hcm:conM d.cons[j].nm with
    |false=>
     rw [if_neg (by simp)]
     simp only [wpS]
     exact badk (by unfold okC;rw [hcm];rfl)
    |true=>
    rw [if_pos (by rfl),aE hS8 (i:=1) (v:=.slice q d.cons.length k) rfl]
    simp only [wpS]
    refine cO hrow8 hj rfl (o:=1) (by decide) fun cs hcs=>?_
    obtain ⟨q2,k2,rfl,_⟩:=hcs
    refine ⟨_,rfl,?_⟩
    simp only [wpS]
    by_cases h3:d.cons[j].args.length≤3
    case neg=>
     rw [decide_eq_true (show ((d.cons[j].args.length:Nat):Int)>3 by omega)]
     exact badk (by unfold okC;rw [decide_eq_false h3,Bool.and_false])
    rw [decide_eq_false (show ¬ ((d.cons[j].args.length:Nat):Int)>3 by omega)]
    simp only [wpS,T47k0]
    rw [aC,if_neg (by simp),aE hS8 (i:=1) (v:=.slice q d.cons.length k) rfl]
    simp only [wpS]
    refine cO hrow8 hj rfl (o:=0) (by decide) fun cs hcs=>?_
    obtain ⟨q3,k3,rfl,_⟩:=hcs
    refine ⟨_,rfl,?_⟩
    simp only [wpS]
    have hlj:(cP (D.take i)++(d.cons.take j).map (·.nm)).length=(cP (D.take i)).length+j:=by rw [List.length_append,List.length_map,List.length_take];omega
    have hRc8:SlE σ8 rc7 qc7 kc7 1 ((cP (D.take i)++(d.cons.take j).map (·.nm)).map cW):=SlE.frm hRc7 hF8 fun _ h=>h
    refine jQ (len:=(cP (D.take i)).length+j) hRc8 (by rw [List.length_map,hlj,Nat.mul_one]) (by decide) (by decide) rfl (by intro y hy;simp at hy;subst hy;rfl) (by omega) (by omega) fun σ9 rc9 off9 s9 kc9 hF9 hrc9 hRc9=>?_
    simp only [wpS,T47k1,ej]
    have hn9:=hF9.n
    rw [←List.map_singleton (f:=cW),←List.map_append,List.append_assoc,←hkt hj] at hRc9
    have hRn8:SlE σ8 rn6 (some ⟨rn6,off6,some s6⟩) kn6 1 ((dB (D.take (i+1))).map cW):=SlE.frm hRn7 hF8 fun _ h=>h
    have hc9:σ1.n≤rc9∧rc9≠rn6∧rc9≠C:=by
     rcases hrc9 with ⟨h1,rfl⟩|h1
     ·exact ⟨hrc7 h1,hne7 h1⟩
     ·have:=SlE.lt hRn8 (by simp)
      have:=hS8.1
      have:=hF78.n
      omega
    refine ⟨rc9,_,kc9,by rw [Nat.add_assoc],.inr ⟨off9,s9,rfl,hRc9⟩,SlE.frm hRn8 hF9 fun _ h=>(hne7 h.1).1 h.2.symm,hF9.st hS8 fun h=>(hne7 h.1).2 h.2.symm,fun _=>hc9.1,fun _=>hc9.2,hF78.trans hF9 (fun _ _ h=>h) fun m hm h=>by have:=hrc7 h.1;omega,by omega,fun m hm hmj=>?_⟩
    by_cases hm2:m=j
    ·subst hm2
     unfold okC
     rw [hcm,decide_eq_true h3]
     try rfl
    ·exact hok7 m hm (by omega)
   ·rintro st σ7 ⟨rc7,qc7,kc7,rfl,hRc7,hRn7,hS7,hrc7,hne7,hF7,hn67,hok7⟩
    rw [List.take_length] at hRc7
    unfold T47b0
    simp only [wpS]
    rw [aE hS7 (i:=1) (v:=.slice q d.cons.length k) rfl]
    simp only [wpS]
    rw [aC,if_neg (by simp)]
    simp only [wpS,T47k2,T47k4,ei]
    have hlc:(cP (D.take i)).length+d.cons.length=(cP (D.take (i+1))).length:=by rw [tk2,List.length_append,List.length_map]
    rw [hlc]
    rw [←tk2] at hRc7
    exact ⟨rc7,qc7,kc7,rn6,_,kn6,rfl,hRc7,hRn7,hrc7,fun _=>hrn6',fun h _=>(hne7 h).1,hF7,hall2 (by rw [hokd];exact all_of fun m hm=>hok7 m hm hm)⟩
  rw [aC]
  cases h1:tB d.nm with
  |false=>
   rw [if_neg (by simp)]
   simp only [wpS]
   exact fail (by unfold okD;rw [h1];rfl)
  |true=>
  rw [if_pos (by rfl),aE hS5 rfl]
  simp only [wpS,cA]
  rw [aC]
  by_cases b1:d.nm=[105,110,116]
  ·rw [if_neg (by simp [b1])]
   simp only [wpS]
   exact fail (by unfold okD eB;simp [b1])
  rw [if_pos (by simpa using b1),aE hS5 rfl]
  simp only [wpS,cA]
  rw [aC]
  by_cases b2:d.nm=[98,111,111,108]
  ·rw [if_neg (by simp [b2])]
   simp only [wpS]
   exact fail (by unfold okD eB;simp [b2])
  rw [if_pos (by simpa using b2),aE hS5 rfl]
  simp only [wpS,cA]
  rw [aC]
  by_cases b3:d.nm=[117,110,105,116]
  ·rw [if_neg (by simp [b3])]
   simp only [wpS]
   exact fail (by unfold okD eB;simp [b3])
  rw [if_pos (by simpa using b3),aE hS5 rfl]
  simp only [wpS]
  rw [aC]
  by_cases b4:1≤d.cons.length
  case neg=>
   rw [if_neg (by simp;omega)]
   simp only [wpS]
   exact fail (by unfold okD;rw [decide_eq_false b4];simp)
  rw [if_pos (by simp;omega),aE hS5 rfl]
  simp only [wpS]
  by_cases b5:d.cons.length≤20
  ·rw [decide_eq_false (show ¬ ((d.cons.length:Nat):Int)>20 by omega)]
   exact good (by unfold eB;simp [h1,b1,b2,b3,b4,b5])
  ·rw [decide_eq_true (show ((d.cons.length:Nat):Int)>20 by omega)]
   exact fail (by unfold okD;rw [decide_eq_false b5];simp)
 ·rintro st σ2 ⟨rc,qc,kc,rn,qn,kn,rfl,hRc,hRn,hrc,hrn,hne,hF2,hall⟩
  rw [List.take_length] at hRc hRn ⊢
  have hS2:=hF2.stN hS1
  have hF02:=hF1.seq hF2
  have hn2:=hF2.n
  have hnl:(dB D).length=D.length:=by unfold dB;rw [List.length_map]
  have hty:eE D=(decide (D.length≤20)&&!cM (dB D)&&!cM (cP D)&&D.all (oW D)):=by
   rw [typesM_eq,all_of fun i hi=>hall i hi hi]
   try rfl
  unfold T47b1
  simp only [wpS]
  rw [aE hS2 rfl]
  simp only [wpS]
  rw [aC,if_neg (by simp)]
  simp only [wpS,T47k12]
  rw [aE hS2 rfl]
  simp only [wpS]
  have s11no:eE D=false→Wp aF ovD (T47k11 qn (dB D).length kn false ⟨A,0,some 0⟩ .normal [.bool true]) σ2 fun _ vs σ'=>∃ v,vs=[v]∧v=.bool (eE D)∧Frm σ σ' NoB:=by
   intro h
   simp only [wpS,T47k11]
   rw [aC,if_pos rfl]
   simp only [wpS]
   rw [h]
   exact ⟨_,rfl,rfl,hF02⟩
  rw [aC]
  by_cases c1:D.length≤20
  case neg=>
   rw [if_neg (by simp;omega)]
   simp only [wpS]
   exact s11no (by rw [hty,decide_eq_false c1];rfl)
  rw [if_pos (by simp;omega),aD]
  refine WpF.mono (rG (gH hRn) (by omega)) ?_
  rintro _ σ2a ⟨rfl,rfl⟩
  simp only [wpS]
  rw [aC]
  cases c2:cM (dB D) with
  |true=>
   rw [if_neg (by simp)]
   simp only [wpS]
   exact s11no (by rw [hty,c2];simp)
  |false=>
  rw [if_pos (by rfl),aD]
  refine WpF.mono (rG (gH hRc) (by omega)) ?_
  rintro _ σ2b ⟨rfl,rfl⟩
  simp only [wpS]
  cases c3:cM (cP D) with
  |true=>exact s11no (by rw [hty,c3];simp)
  |false=>
  have hty2:eE D=D.all (oW D):=by rw [hty,c2,c3,decide_eq_true c1];try rfl
  simp only [wpS,T47k11]
  rw [aC,if_neg (by simp),aZ,cV]
  have hF3:=Frm.new σ2b [cW [105,110,116],cW [98,111,111,108],cW [117,110,105,116]] 1 NoB
  have hR3:=Row.new σ2b 1 [cW [105,110,116],cW [98,111,111,108],cW [117,110,105,116]] 3 (by decide) rfl (by intro y hy;simp at hy;rcases hy with rfl|rfl|rfl<;>rfl)
  have hn3:(σ2b.newBlk [cW [105,110,116],cW [98,111,111,108],cW [117,110,105,116]] 1).n=σ2b.n+1:=rfl
  rw [show ([(.string (bs [105,110,116])),(.string (bs [98,111,111,108])),(.string (bs [117,110,105,116]))]:List Value)=[cW [105,110,116],cW [98,111,111,108],cW [117,110,105,116]] from rfl]
  generalize σ2b.newBlk [cW [105,110,116],cW [98,111,111,108],cW [117,110,105,116]] 1=σ3 at hF3 hR3 hn3 ⊢
  simp only [wpS]
  have hRn3:SlV σ3 rn qn kn ((dB D).map cW):=SlE.frm hRn hF3 fun _ h=>h
  refine wp_appR hRn3 (by simp) (.inr ⟨0,1,rfl,hR3⟩) rfl (by omega) (by omega) fun σ4 rb qb kb hF4 hqb hRb=>?_
  have hF14:Frm σ1 σ4 NoB:=(hF2.seq hF3).trans hF4 (fun _ _ h=>h) fun j hj h=>by have:=hrn h.1;omega
  have hF04:=hF1.seq hF14
  have hS4:=hF14.stN hS1
  rw [show [cW [105,110,116],cW [98,111,111,108],cW [117,110,105,116]]=[[105,110,116],[98,111,111,108],[117,110,105,116]].map cW from rfl,←List.map_append] at hRb
  have hLb:=gH hRb
  have hlb:(dB D++[[105,110,116],[98,111,111,108],[117,110,105,116]]).length=(dB D).length+3:=by simp
  rw [←hlb]
  have inn:∀ (s:List UInt8),WpF aF ovD 77 [.slice qb (dB D++[[105,110,116],[98,111,111,108],[117,110,105,116]]).length kb,.string (mkB s)] σ4 fun v σ'=>v=.bool ((dB D).contains s||eB s)∧σ'=σ4:=by
   intro s
   refine WpF.mono (wp_in77 (l:=dB D++[[105,110,116],[98,111,111,108],[117,110,105,116]]) (c:=kb) hLb (by rw [hlb];omega) s) ?_
   rintro _ _ ⟨rfl,rfl⟩
   exact ⟨by rw [in_basic],rfl⟩
  have no2:eE D=false→∀ i:Int,Wp aF ovD (T47k10 .ret [.int .i64 i,.bool false]) σ4 fun _ vs σ'=>∃ v,vs=[v]∧v=.bool (eE D)∧Frm σ σ' NoB:=by
   intro h i
   simp only [wpS,T47k10]
   rw [h]
   exact ⟨_,rfl,rfl,hF04⟩
  refine Wp.count D.length (fun i st σ'=>σ'=σ4∧st=[.int .i64 ((i:Nat):Int),.bool false]∧∀ j (hj:j<D.length),j<i→oW D D[j]=true) ⟨rfl,rfl,fun j _ h=>by omega⟩ ?_ ?_
  ·rintro i st σ5 hi ⟨rfl,rfl,hok⟩
   have ei:aO ((i:Int)+1)=((i+1:Nat):Int):=by rw [aS (by omega)];omega
   have hcl1:=hC _ (List.getElem_mem hi)
   have hal1:=hA _ (List.getElem_mem hi)
   have bad:oW D D[i]=false→eE D=false:=fun h=>by rw [hty2,mD hi h]
   unfold T47b4
   simp only [wpS]
   rw [aE hS4 rfl]
   simp only [wpS]
   rw [aC,if_pos (by simp;omega)]
   simp only [wpS]
   refine Wp.count D[i].cons.length (fun j st σ'=>σ'=σ5∧st=[.int .i64 ((j:Nat):Int),.bool false]∧∀ m (hm:m<D[i].cons.length),m<j→(D[i].cons[m].args.all fun a=>(dB D).contains a||eB a)=true) ⟨rfl,rfl,fun j _ h=>by omega⟩ ?_ ?_
   ·rintro j st σ6 hj ⟨rfl,rfl,hok2⟩
    have ej:aO ((j:Int)+1)=((j+1:Nat):Int):=by rw [aS (by omega)];omega
    have hal2:=hal1 _ (List.getElem_mem hj)
    have badc:(D[i].cons[j].args.all fun a=>(dB D).contains a||eB a)=false→eE D=false:=fun h=>bad (by unfold oW;exact mD hj h)
    unfold T47b3
    simp only [wpS]
    rw [aE hS4 rfl]
    simp only [wpS]
    refine cO (hT.later hF04) hi rfl (o:=1) (by decide) fun cs hcs=>?_
    obtain ⟨q1,k1,rfl,hr1⟩:=hcs
    refine ⟨_,rfl,?_⟩
    simp only [wpS]
    rw [aC,if_pos (by simp;omega)]
    simp only [wpS]
    rw [aE hS4 rfl]
    simp only [wpS]
    refine cO (hT.later hF04) hi rfl (o:=1) (by decide) fun cs hcs=>?_
    obtain ⟨q2,k2,rfl,hr2⟩:=hcs
    refine ⟨_,rfl,?_⟩
    simp only [wpS]
    refine cO (hr2.later hF04) hj rfl (o:=1) (by decide) fun cs hcs=>?_
    obtain ⟨q3,k3,rfl,hr3,_⟩:=hcs
    refine ⟨_,rfl,?_⟩
    simp only [wpS]
    refine Wp.count D[i].cons[j].args.length (fun m st σ'=>σ'=σ6∧st=[.int .i64 ((m:Nat):Int),.bool false]∧∀ a (ha:a<D[i].cons[j].args.length),a<m→((dB D).contains D[i].cons[j].args[a]||eB D[i].cons[j].args[a])=true) ⟨rfl,rfl,fun j _ h=>by omega⟩ ?_ ?_
    ·rintro m st σ7 hm ⟨rfl,rfl,hok3⟩
     have em:aO ((m:Int)+1)=((m+1:Nat):Int):=by rw [aS (by omega)];omega
     unfold T47b2
     simp only [wpS]
     rw [aC,if_pos (by simp;omega)]
     simp only [wpS]
     refine cR (hr3.later hF04) hm rfl fun cs hcs=>⟨_,hcs,?_⟩
     simp only [wpS]
     rw [aD]
     refine WpF.mono (inn _) ?_
     rintro _ _ ⟨rfl,rfl⟩
     simp only [wpS]
     rw [aC]
     cases hin:((dB D).contains D[i].cons[j].args[m]||eB D[i].cons[j].args[m]) with
     |false=>
      rw [if_pos (by rfl)]
      simp only [wpS,T47k5,T47k6,T47k7,T47k8,T47k9]
      exact no2 (badc (mD hm hin)) _
     |true=>
      rw [if_neg (by simp)]
      simp only [wpS,T47k5,em]
      refine ⟨trivial,trivial,fun a ha ham=>?_⟩
      by_cases h2:a=m
      ·subst h2;exact hin
      ·exact hok3 a ha (by omega)
    ·rintro st σ7 ⟨rfl,rfl,hok3⟩
     unfold T47b2
     simp only [wpS]
     rw [aC,if_neg (by simp)]
     simp only [wpS,T47k6,T47k7,ej]
     refine ⟨trivial,trivial,fun m hm hmj=>?_⟩
     by_cases h2:m=j
     ·subst h2
      exact all_of fun a ha=>hok3 a ha ha
     ·exact hok2 m hm (by omega)
   ·rintro st σ6 ⟨rfl,rfl,hok2⟩
    unfold T47b3
    simp only [wpS]
    rw [aE hS4 rfl]
    simp only [wpS]
    refine cO (hT.later hF04) hi rfl (o:=1) (by decide) fun cs hcs=>?_
    obtain ⟨q1,k1,rfl,hr1⟩:=hcs
    refine ⟨_,rfl,?_⟩
    simp only [wpS]
    rw [aC,if_neg (by simp)]
    simp only [wpS,T47k8,T47k9,ei]
    refine ⟨trivial,trivial,fun j hj hji=>?_⟩
    by_cases h2:j=i
    ·subst h2
     unfold oW
     exact all_of fun m hm=>hok2 m hm hm
    ·exact hok j hj (by omega)
  ·rintro st σ5 ⟨rfl,rfl,hok⟩
   unfold T47b4
   simp only [wpS]
   rw [aE hS4 rfl]
   simp only [wpS]
   rw [aC,if_neg (by simp)]
   simp only [wpS,T47k10]
   rw [hty2,all_of fun i hi=>hok i hi hi]
   exact ⟨_,rfl,rfl,hF04⟩
end
end Go.Pg
namespace Go.Pg
open Go.Proofs Go.Utf8 Go.Lib
set_option linter.unusedSimpArgs false
section
variable {ws:List Wd} {e:Nat}
theorem argsL_len:∀ (n:Nat) (l:List (List UInt8)) (r:Rs) (x),nZ ws e n l r=some x→x.1.length≤l.length+n
 |0,_,_,_,h=>by cases h
 |n+1,l,r,x,h=>by
  rw [nZ] at h
  split at h
  ·have:=argsL_len n _ _ _ h
   rw [List.length_append,List.length_singleton] at this
   omega
  ·have hx:=ofS h
   subst hx
   simp only
   omega
theorem consL_len:∀ (n:Nat) (l:List Cn) (more:Bool) (r:Rs) (x),nV ws e n l more r=some x→x.1.length≤l.length+n∧∀ c∈x.1,c∈l∨c.args.length≤n+1
 |0,_,_,_,_,h=>by cases h
 |n+1,l,more,r,x,h=>by
  rw [nV] at h
  split at h
  ·obtain ⟨a,h1,h⟩:=aQ h
   obtain ⟨h2,h3⟩:=consL_len n _ _ _ _ h
   rw [List.length_append,List.length_singleton] at h2
   have h4:a.1.length≤n+1:=by
    split at h1
    ·have:=argsL_len n _ _ _ h1
     rw [List.length_singleton] at this
     omega
    ·have hx:=ofS h1
     subst hx
     simp
   refine ⟨by omega,fun c hc=>?_⟩
   rcases h3 c hc with h3|h3
   ·rcases List.mem_append.1 h3 with h3|h3
    ·exact .inl h3
    ·rw [List.mem_singleton.1 h3]
     exact .inr (by show a.1.length≤_;omega)
   ·exact .inr (by omega)
  ·have hx:=ofS h
   subst hx
   exact ⟨by simp only;omega,fun c hc=>.inl hc⟩
theorem declsL_len:∀ (n:Nat) (l:List Dc) (r:Rs) (x),gP ws e n l r=some x→x.1.length≤l.length+n∧∀ d∈x.1,d∈l∨(d.cons.length≤n∧∀ c∈d.cons,c.args.length≤n+1)
 |0,_,_,_,h=>by cases h
 |n+1,l,r,x,h=>by
  rw [gP] at h
  split at h
  ·obtain ⟨a,h1,h⟩:=aQ h
   obtain ⟨h2,h3⟩:=declsL_len n _ _ _ h
   obtain ⟨h4,h5⟩:=consL_len _ _ _ _ _ h1
   rw [List.length_append,List.length_singleton] at h2
   refine ⟨by omega,fun d hd=>?_⟩
   rcases h3 d hd with h3|h3
   ·rcases List.mem_append.1 h3 with h3|h3
    ·exact .inl h3
    ·rw [List.mem_singleton.1 h3]
     refine .inr ⟨by show a.1.length≤_;simp at h4;omega,fun c hc=>?_⟩
     rcases h5 c hc with h5|h5
     ·cases h5
     ·omega
   ·exact .inr ⟨by omega,fun c hc=>by have:=h3.2 c hc;omega⟩
  ·have hx:=ofS h
   subst hx
   exact ⟨by simp only;omega,fun d hd=>.inl hd⟩
theorem cnsD_len (k:Nat):∀ (D:List Dc),(∀ d∈D,d.cons.length≤k)→(cP D).length≤D.length*k
 |[],_=>by simp [cP]
 |d::D,h=>by
  have h1:=h d (by simp)
  have h2:=cnsD_len k D fun x hx=>h x (by simp [hx])
  have e1:cP (d::D)=d.cons.map (·.nm)++cP D:=rfl
  rw [e1,List.length_append,List.length_map,List.length_cons,Nat.add_mul]
  omega
mutual
theorem flT_kids (p:Nat):∀ t:Tm,∀ v∈flT p t,v.kids.length≤szT t
 | .mk x l=>by
  intro v hv
  rw [flT] at hv
  rw [szT]
  rcases List.mem_cons.1 hv with rfl|hv
  ·have:=szL_len l
   simp only [mV]
   omega
  ·have:=flL_kids (p+1) l v hv
   omega
theorem flL_kids (p:Nat):∀ l:List Tm,∀ v∈flL p l,v.kids.length≤szL l
 |[]=>by
  intro v hv
  cases hv
 |t::l=>by
  intro v hv
  rw [flL] at hv
  rw [szL]
  rcases List.mem_append.1 hv with hv|hv
  ·have:=flT_kids p t v hv
   omega
  ·have:=flL_kids (p+szT t) l v hv
   omega
end
theorem chain_len {S:List UInt8}:∀ {a:Nat} {ws:List Wd},chain S a ws→∀ w∈ws,w.t.length≤S.length
 |_,[],_,w,hw=>by cases hw
 |_,x::r,⟨_,h2,_,h4,_,_,h7⟩,w,hw=>by
  rcases List.mem_cons.1 hw with rfl|hw
  ·omega
  ·exact chain_len h7 w hw
end
section
variable {σ σ':aB} {N:List NV} {D:List Dc} {Y:Nat→Prop} {pn pd:Option Addr} {cn cd:Nat}
theorem wp_Good27 (hK:∀ v∈N,v.kids.length≤1000000) (hD:D.length≤1000000) (hC:∀ d∈D,d.cons.length≤1000000) (hA:∀ d∈D,∀ c∈d.cons,c.args.length≤1000000) (hcn:(cP D).length≤100000000) (hT:dF σ Y pn N pd D):
  WpF aF ovD 27 [trV pn N.length cn pd D.length cd] σ fun v σ'=>v=.bool (lH N D)∧Frm σ σ' NoB:=by
 refine WpF.of (T27_eq _ _ _ _ _ _) rfl ?_
 rw [T27]
 refine aN fun σ1 hF1 hn1 hS1=>?_
 generalize σ.n=A at hS1
 have fin:∀ (b:Bool) (τ:aB),Frm σ τ NoB→b=lH N D→Wp aF ovD (T27k0 .normal [.bool b]) τ fun _ vs σ'=>∃ v,vs=[v]∧v=.bool (lH N D)∧Frm σ σ' NoB:=by
  rintro b τ hτ rfl
  simp only [wpS,T27k0]
  exact ⟨_,rfl,rfl,hτ⟩
 simp only [wpS]
 rw [aE hS1 rfl]
 simp only [wpS]
 rw [aC]
 by_cases c1:1≤N.length
 case neg=>
  rw [if_neg (by simp;omega)]
  simp only [wpS]
  exact fin _ σ1 hF1 (by unfold lH;rw [decide_eq_false c1];rfl)
 rw [if_pos (by simp;omega),aE hS1 rfl]
 simp only [wpS]
 rw [aC]
 by_cases c2:N.length≤1000
 case neg=>
  rw [if_neg (by simp;omega)]
  simp only [wpS]
  exact fin _ σ1 hF1 (by unfold lH;rw [decide_eq_false c2];simp)
 rw [if_pos (by simp;omega),aP hS1 2 rfl]
 simp only [wpS]
 rw [aD]
 refine WpF.mono (wp_types47 (hT.frm hF1).decls hD hC hA hcn) ?_
 rintro _ σ2 ⟨rfl,hF2⟩
 simp only [wpS]
 have hF02:=hF1.seq hF2
 have hS2:=hF2.stN hS1
 rw [aC]
 cases c3:eE D with
 |false=>
  rw [if_neg (by simp)]
  simp only [wpS]
  exact fin _ σ2 hF02 (by unfold lH;rw [c3];simp)
 |true=>
 rw [if_pos (by rfl),aP hS2 2 rfl]
 simp only [wpS]
 rw [fD,aD]
 have hw:=wp_walk48 (cn:=cn) (cd:=cd) c2 hK hD hC 60 0 false σ2 (Nat.le_refl _) (by omega) (hT.frm hF02)
 refine WpF.mono hw ?_
 rintro _ σ3 ⟨rfl,hF3⟩
 simp only [wpS]
 have hS3:=hF3.stN hS2
 rw [aE hS3 rfl,aV]
 refine ⟨past_ok (hS2.ldF rfl),?_⟩
 simp only [wpS]
 refine fin _ σ3 (hF02.seq hF3) ?_
 unfold lH
 rw [c3,decide_eq_true c1,decide_eq_true c2]
 simp only [Bool.true_and]
 cases hwm:bT N D 60 0 false with
 |none=>
  rw [decide_eq_false (by simp),beq_eq_false_iff_ne]
  show (-1:Int)≠_
  omega
 |some e=>
  by_cases he:e=N.length
  ·rw [he,decide_eq_true rfl,beq_iff_eq]
   try rfl
  ·rw [decide_eq_false (fun h=>he (Option.some.inj h)),beq_eq_false_iff_ne]
   show ((e:Nat):Int)≠_
   omega
theorem wcs_rows {b off s c:Nat} {ws:List Wd} {Y:Nat→Prop} (h:Row σ b off s c 4 (wcs ws)) (hb:¬ Y b):aT σ Y 4 (fun cs w=>cs=wc w) (some ⟨b,off,some s⟩) ws:=
 aT.own (css:=ws.map wc) (by rw [show (ws.map wc).flatten=wcs ws from (List.flatMap_def).symm];exact h) hb (by simp) (by intro cs hcs;obtain ⟨w,_,rfl⟩:=List.mem_map.1 hcs;rfl) (fun i h1 h2=>by simp)
abbrev noTree:Value:=.agg #[.slice none 0 0,.slice none 0 0]
theorem wp_Parse25 (S:List UInt8) (hl:S.length≤4000) {Q:Value→aB→Prop}
  (hno:docP S=none→∀ e a σ',Frm σ σ' NoB→e≠0→Q (.tuple #[noTree,.int .i64 e,.int .i64 a]) σ')
  (hyes:∀ N D,docP S=some (N,D)→∀ pn cn pd cd σ',Frm σ σ' NoB→dF σ' (fun j=>j<σ.n) pn N pd D→(∀ v∈N,v.kids.length≤1000000)→D.length≤1000000→(∀ d∈D,d.cons.length≤1000000)→(∀ d∈D,∀ c∈d.cons,c.args.length≤1000000)→(cP D).length≤100000000→Q (.tuple #[trV pn N.length cn pd D.length cd,.int .i64 0,.int .i64 0]) σ'):
  WpF aF ovD 25 [.string (mkB S)] σ Q:=by
 refine WpF.of (T25_eq _) rfl ?_
 rw [T25]
 refine aN fun σ1 hF1 hn1 hS1=>?_
 generalize hA:σ.n=A at hS1
 rw [aD]
 refine wp_lexD S ?_ ?_
 case refine_2=>
  intro he e a σ2 hF2 h0
  have hnone:docP S=none:=by
   rcases he with he|⟨x,he⟩
   ·omega
   ·unfold docP
    rw [he]
  simp only [wpS]
  rw [aC,if_pos (by simpa using h0)]
  refine bD (hF2.stN hS1) rfl rfl fun σ3 hF3 hn3 hS3=>?_
  rw [aP hS3 2 rfl]
  simp only [wpS]
  exact ⟨_,rfl,hno hnone e a σ3 ((hF1.seq hF2).fresh hF3 fun j hj h=>by omega) h0⟩
 intro ws _ hlex σ2 bw pw cw hF2 hRw hbw hwl
 have hF02:=hF1.seq hF2
 have hS2:=hF2.stN hS1
 simp only [wpS]
 rw [aC,if_neg (by simp)]
 refine aN fun σ3 hF3 hn3 hS3=>?_
 have hn1':=hF1.n
 have hn2:=hF2.n
 generalize hB:σ2.n=B at hS3
 have hch:chain S 0 ws:=(qG S _ 0 0 ws (Nat.zero_le _) (by unfold lexA at hlex;rw [List.drop_zero];exact hlex)).1
 have hW:∀ w∈ws,w.t.length≤1000000:=fun w hw=>by have:=chain_len hch w hw;omega
 have hrow3:aT σ3 (fun j=>j=B∨B≤j) 4 (fun cs w=>cs=wc w) pw ws:=by
  rcases hRw with ⟨rfl,_,h0⟩|⟨off,s,rfl,hR⟩
  ·have:ws=[]:=by
    have:=wcs_len ws
    rw [h0] at this
    exact List.eq_nil_of_length_eq_zero (by simp at this;omega)
   rw [this]
   exact aT.nil
  ·refine wcs_rows (hF3.rowN hR) ?_
   have:=hR.lt
   omega
 have hR3:Rdr σ3 B B pw cw ws S.length ⟨0,false⟩:=⟨hS3,hrow3,by omega,by omega,hl,Nat.zero_le _⟩
 obtain ⟨d,hd⟩:=declsL_some (ws:=ws) (e:=S.length) (ws.length+2) [] ⟨0,false⟩ (Nat.zero_le _) (by unfold left;simp)
 have hdg:=declsL_go _ _ _ _ hd
 have hdp:=hdg.len (Nat.zero_le _)
 obtain ⟨t,ht⟩:=parse_some (ws:=ws) (e:=S.length) ((ws.length+2)*16) .expr d.2 hdp trivial (by
  have:left ws d.2≤ws.length+1:=by unfold left;split<;>omega
  show left ws d.2*16+13<_
  omega)
 have hdoc:docP S=if t.2.bad=true∨t.2.p<ws.length then none else if 0≤dpT 0 1 (-1) t.1 then none else if lH (flT 0 t.1) d.1=true then some (flT 0 t.1,d.1) else none:=by
  unfold docP
  rw [hlex]
  simp only
  rw [hd,Option.bind_some,ht,Option.bind_some]
 rw [aD]
 refine WpF.mono (wp_decls hd hR3) ?_
 rintro _ σ4 ⟨qd,kd,rfl,hrd,hR4,hF4⟩
 simp only [wpS]
 rw [aD]
 refine WpF.mono (wp_reader hW _ .expr d.2 t σ4 rfl trivial ht hR4) ?_
 rintro _ σ5 ⟨bt,rfl,hT5,hR5,hF5⟩
 simp only [wpS]
 have hn4:=hF4.n
 have hn5:=hF5.n
 have hF35:=hF4.seq hF5
 have hF05:Frm σ σ5 NoB:=(hF02.seq hF3).fresh hF35 fun j hj h=>by omega
 have hAB:A≠B:=by omega
 have hS5:St σ5 A [.slice none 0 0,.slice none 0 0]:=hF35.st (hF3.stN hS2) hAB
 rw [aE hR5.st rfl]
 simp only [wpS]
 have next:∀ b:Bool,(b=true↔t.2.bad=true∨t.2.p<ws.length)→Wp aF ovD (T25k0 ⟨B,0,some 0⟩ ⟨A,0,some 0⟩ (some ⟨bt,0,some 0⟩) qd d.1.length kd .normal [.bool b]) σ5 fun _ vs σ'=>∃ v,vs=[v]∧Q v σ':=by
  intro b hb
  simp only [wpS,T25k0]
  rw [aC]
  by_cases hc:t.2.bad=true∨t.2.p<ws.length
  ·rw [if_pos hc] at hdoc
   rw [if_pos (hb.2 hc),aD]
   refine WpF.mono (dS hR5) ?_
   rintro _ σ6 ⟨rfl,hF6⟩
   unfold wc
   simp only [wpS]
   refine bD (hF6.stN hS5) rfl rfl fun σ7 hF7 hn7 hS7=>?_
   rw [aP hS7 2 rfl]
   simp only [wpS]
   exact ⟨_,rfl,hno hdoc _ _ σ7 ((hF05.seq hF6).fresh hF7 fun j hj h=>by omega) (by decide)⟩
  rw [if_neg hc] at hdoc
  rw [if_neg fun h=>hc (hb.1 h)]
  rw [not_or] at hc
  have hbad:t.2.bad=false:=by simpa using hc.1
  have hsz:=parse_size _ _ _ _ (show Pre ws .expr d.2 from trivial) ht hbad
  have hszt:szT t.1≤4000:=by
   have h1:=hsz.2
   have h2:=hR5.pl
   simp only [Fn.acc] at h1
   omega
  refine aN fun σ6 hF6 hn6 hS6=>?_
  generalize hFF:σ5.n=F at hS6
  rw [aD]
  have hT6:TmB σ6 (fun j=>F≤j) bt t.1:=hT5.step (S:=NoB) hF6 (fun _ _ h=>h.elim) fun j hj h=>by omega
  have hput:=wp_put F F (.slice none 0 0) rfl (szT t.1) t.1 (Nat.le_refl _) σ6 bt 0 [] [] none 0 (fun j=>j<σ6.n) (-1) 1 hT6 (Nat.le_refl _) (fun h=>absurd rfl h) (by omega) hS6 .zero (fun _ h=>h) hS6.1 (by simp;omega) (by omega)
  refine WpF.mono hput ?_
  rintro _ σ7 ⟨p7,c7,rb7,css7,rfl,hS7,hG7,hF7,hrb7⟩
  simp only [wpS]
  have hn7:=hF7.n
  simp only [List.length_nil,Nat.zero_add,List.nil_append] at hS7 hG7
  have hF57:Frm σ5 σ7 NoB:=hF6.fresh hF7 fun j hj h=>by
   rcases h with h|⟨h,_⟩
   ·omega
   ·exact h rfl
  have hF07:=hF05.seq hF57
  have hS57:=hF57.stN hS5
  rw [aE hS7 rfl]
  simp only [wpS]
  rw [aC]
  by_cases hdp2:0≤dpT 0 1 (-1) t.1
  ·rw [if_pos hdp2] at hdoc
   rw [if_pos (by simpa using hdp2),aE hS7 rfl]
   simp only [wpS]
   refine bD hS57 rfl rfl fun σ8 hF8 hn8 hS8=>?_
   rw [fD,aV]
   refine ⟨jC ((hF8.st hS7 (by have:=hS5.1;omega)).ldF rfl),?_⟩
   rw [aP hS8 2 rfl]
   simp only [wpS]
   exact ⟨_,rfl,hno hdoc _ _ σ8 (hF07.fresh hF8 fun j hj h=>by omega) (by decide)⟩
  rw [if_neg hdp2] at hdoc
  rw [if_neg (by simpa using hdp2)]
  have hFA:F≠A:=by have:=hS5.1;omega
  simp only [dC]
  refine bP hS7 (by simp) rfl fun σ8 hF8 hn8 hS8=>?_
  simp only [List.set_cons_succ,List.set_cons_zero] at hS8
  have hlenN:(flT 0 t.1).length=szT t.1:=flT_len 0 t.1
  rw [aZ,show aadd ⟨F,0,some 0⟩ 0=⟨F,0,some 0⟩ from rfl,hS8.ldN (off:=0) (k:=2) (by simp)]
  simp only [wpS,List.drop_zero,List.take_succ_cons,List.take_zero]
  have hF68:Frm σ6 σ8 (· =F):=(hF7.mono fun j _ h=>by rcases h with h|⟨h,_⟩;exact h;exact absurd rfl h).seq hF8
  have hF58:Frm σ5 σ8 NoB:=hF57.fresh hF8 fun j hj h=>by omega
  have hF08:=hF05.seq hF58
  have hrbF:rb7≠F:=by
   rcases hrb7 with ⟨h,_⟩|h
   ·exact absurd rfl h
   ·omega
  have hTr:dF σ8 (fun j=>j≤A) (some p7) (flT 0 t.1) qd d.1:=by
   constructor
   ·have hG8:=GR.step (Y':=fun j=>j≤A) cZ hG7 hF8 (fun j _ h=>by show j<σ6.n;rw [h];omega) (fun j _ h=>by show j<σ6.n;omega)
    exact hG8.close cZ (by decide)
   ·exact aT.step (hF5.seq hF58.no) (fun j _ h=>.inl h) (fun j _ h=>.inr (by omega)) (fun _ _ h=>cQ _ _ _ _ _ _ _ (hF5.seq hF58.no) (fun j _ h=>.inl h) (fun j _ h=>.inr (by omega)) h) hrd
  have hK:∀ v∈flT 0 t.1,v.kids.length≤1000000:=fun v hv=>by have:=flT_kids 0 t.1 v hv;omega
  obtain ⟨l1,l2⟩:=declsL_len _ _ _ _ hd
  simp only [List.length_nil,Nat.zero_add] at l1
  have hDl:d.1.length≤1000000:=by omega
  have hCl:∀ x∈d.1,x.cons.length≤2002:=fun x hx=>by
   rcases l2 x hx with h|h
   ·cases h
   ·omega
  have hAl:∀ x∈d.1,∀ c∈x.cons,c.args.length≤1000000:=fun x hx c hc=>by
   rcases l2 x hx with h|h
   ·cases h
   ·have:=h.2 c hc;omega
  have hcn:(cP d.1).length≤100000000:=by
   have h1:=cnsD_len 2002 d.1 hCl
   have h2:d.1.length*2002≤2002*2002:=Nat.mul_le_mul_right _ (by omega)
   omega
  have hCl':∀ x∈d.1,x.cons.length≤1000000:=fun x hx=>by have:=hCl x hx;omega
  rw [←hlenN]
  rw [aD]
  refine WpF.mono (wp_Good27 hK hDl hCl' hAl hcn hTr) ?_
  rintro _ σ9 ⟨rfl,hF9⟩
  simp only [wpS]
  have hS9:=hF9.stN hS8
  have hS59:=(hF58.seq hF9).stN hS5
  have hF09:=hF08.seq hF9
  rw [aC]
  cases hg:lH (flT 0 t.1) d.1 with
  |false=>
   rw [hg,if_neg (by simp)] at hdoc
   rw [if_pos (by rfl)]
   refine bD hS59 rfl rfl fun σa hFa hna hSa=>?_
   rw [aP hSa 2 rfl]
   simp only [wpS]
   exact ⟨_,rfl,hno hdoc _ _ σa (hF09.fresh hFa fun j hj h=>by omega) (by decide)⟩
  |true=>
   rw [hg,if_pos rfl] at hdoc
   rw [if_neg (by simp)]
   rw [aZ,hS9.ldN (off:=0) (k:=2) (by simp)]
   simp only [wpS,List.drop_zero,List.take_succ_cons,List.take_zero]
   refine bD hS59 rfl rfl fun σa hFa hna hSa=>?_
   rw [aP hSa 2 rfl]
   simp only [wpS]
   have hFz:Frm σ σa NoB:=hF09.fresh hFa fun j hj h=>by omega
   have hTz:dF σa (fun j=>j<σ.n) (some p7) (flT 0 t.1) qd d.1:=dF.step (hTr.frm hF9) hFa (fun j _ h=>by show j≤A;omega) (fun j _ h=>by show j≤A;omega)
   have hq:=hyes (flT 0 t.1) d.1 hdoc (some p7) c7 qd kd σa hFz hTz hK hDl hCl' hAl hcn
   unfold trV at hq
   rw [hlenN] at hq
   exact ⟨_,rfl,hq⟩
 rw [aC]
 by_cases hb:t.2.bad=true
 ·rw [if_neg (by simp [hb])]
  simp only [wpS]
  exact next true ⟨fun _=>.inl hb,fun _=>rfl⟩
 ·rw [if_pos (by simpa using hb),aE hR5.st rfl]
  simp only [wpS]
  refine next _ ?_
  rw [decide_eq_true_eq]
  constructor
  ·intro h
   exact .inr (by omega)
  ·rintro (h|h)
   ·exact absurd h hb
   ·omega
end
end Go.Pg
namespace Go.Pg
open Go.Proofs Go.Utf8 Go.Lib
set_option linter.unusedSimpArgs false
theorem SlV.emp {σ:aB} {Y:Nat→Prop} {b c:Nat} {p:Option Addr} {xs:List Value} (h:SlV σ b p c xs) (hb:p≠none→¬ Y b):Emp σ Y p:=SlE.emp (esz:=1) h hb
theorem slV_nats {σ:aB} {Y:Nat→Prop} {b c:Nat} {p:Option Addr} {bl:List Nat} (h:SlV σ b p c (bl.map natW)) (hb:p≠none→¬ Y b):aT σ Y 1 natR p bl:=slE_nats h hb
section
variable {σ:aB} {N:List NV} {D:List Dc} {pn pd:Option Addr} {cn cd U V:Nat}
theorem wp_made_nodes (hU:U≠V) (hSU:St σ U [.slice pn N.length cn,.slice pd D.length cd]) (hSV:St σ V [.slice none 0 0,.slice none 0 0]) (hT:dF σ (· =V) pn N pd D) (hK:∀ v∈N,v.kids.length≤1000000) (hN:N.length≤1000000) {K:Ex→List Value→Pg} {Q:cJ}
  (k:∀ σ' p c rb css,Frm σ σ' (· =V)→St σ' V [.slice p N.length c,.slice none 0 0]→GR nvR 7 σ' (fun j=>j<σ.n) rb N css p c→Wp aF ovD (K (.exit 0) [.int .i64 ((N.length:Nat):Int)]) σ' Q):
  Wp aF ovD (.loop [.int .i64 0] (T12b0 ⟨U,0,some 0⟩ ⟨V,0,some 0⟩) K) σ Q:=by
 have hUn:=hSU.1
 have hVn:=hSV.1
 refine Wp.count N.length (fun i st σ'=>∃ p c rb css,st=[.int .i64 ((i:Nat):Int)]∧Frm σ σ' (· =V)∧St σ' V [.slice p i c,.slice none 0 0]∧GR nvR 7 σ' (fun j=>j<σ.n) rb (N.take i) css p c)
  ⟨none,0,0,[],rfl,Frm.refl _ _,hSV,.zero⟩ ?_ ?_
 ·rintro i st σ1 hi ⟨p,c,rb,css,rfl,hF1,hS1,hG1⟩
  have ei:aO ((i:Int)+1)=((i+1:Nat):Int):=by rw [aS (by omega)];omega
  have hU1:=hF1.st hSU hU
  have hT1:dF σ1 (· =V) pn N pd D:=hT.step (Y':=(· =V)) hF1 (fun _ _ h=>h) fun _ _ h=>h
  have hn1:=hF1.n
  unfold T12b0
  simp only [wpS]
  rw [aE hU1 (v:=.slice pn N.length cn) rfl]
  simp only [wpS]
  rw [aC,if_pos (by simp;omega),aK,aE hU1 (v:=.slice pn N.length cn) rfl]
  simp only [wpS]
  refine dN hT1.nodes hi rfl fun cs hcs=>?_
  generalize hv:N[i]=v at hcs
  have hvK:v.kids.length≤1000000:=hK v (by rw [←hv];exact List.getElem_mem hi)
  obtain ⟨q,kq,rfl,hrow,hemp⟩:=hcs
  simp only [wpS]
  refine aN fun σ2 hF2 hn2 hS2=>?_
  generalize hX:σ1.n=X at hS2
  refine bD hS2 rfl rfl fun σ3 hF3 hn3 hS3=>?_
  have hF13:Frm σ1 σ3 NoB:=hF2.fresh hF3 fun j hj h=>by omega
  have hV3:=hF13.stN hS1
  rw [aE hV3 (v:=.slice p i c) rfl]
  simp only [wpS]
  rw [aE hS3 (v:=.int .i64 v.x.k) rfl]
  simp only [wpS]
  rw [aE hS3 (v:=.int .i64 v.x.n) rfl]
  simp only [wpS]
  rw [aE hS3 (v:=.string (mkB v.x.nm)) rfl]
  simp only [wpS]
  rw [aE hS3 (v:=.string (mkB v.x.pm)) rfl]
  simp only [wpS]
  rw [fD,aZ,cV]
  simp only [wpS]
  have hF4:Frm σ3 (σ3.newBlk [] 1) NoB:=Frm.new _ _ _ _
  have hR4:Row (σ3.newBlk [] 1) σ3.n 0 1 0 1 []:=Row.new σ3 1 [] 0 (by decide) rfl (by simp)
  generalize σ3.newBlk [] 1=σ4 at hF4 hR4 ⊢
  have hn4:=hF4.n
  have ckA:∀ {τ:aB},Frm σ3 τ NoB→chks [((ld1 (aadd ⟨X,0,some 0⟩ 3)),.string (mkB v.x.pm)),((ld1 (aadd ⟨X,0,some 0⟩ 2)),.string (mkB v.x.nm)),((ld1 (aadd ⟨X,0,some 0⟩ 1)),.int .i64 v.x.n),((ld1 (aadd ⟨X,0,some 0⟩ 0)),.int .i64 v.x.k),((ld1 (aadd ⟨V,0,some 0⟩ 0)),.slice p i c)] τ=true:=fun f=>
   iC ((Kp.st hS3 (i:=3) rfl).frm f) (iC ((Kp.st hS3 (i:=2) rfl).frm f) (iC ((Kp.st hS3 (i:=1) rfl).frm f) (iC ((Kp.st hS3 (i:=0) rfl).frm f) (iC ((Kp.st hV3 (i:=0) rfl).frm f) rfl))))
  rw [fD,aV]
  refine ⟨ckA hF4,?_⟩
  rw [aE (hF4.stN hS3) (v:=.slice q v.kids.length kq) rfl,aV]
  refine ⟨past_kp fun τ hτ=>by rw [List.mem_singleton.1 hτ];exact Kp.st hS3 rfl,?_⟩
  simp only [wpS]
  rw [fD]
  have hF14:=hF13.seq hF4
  have hrow4:=hrow.later hF14
  have hemp4:Emp σ4 (· =V) q:=hemp.step (Y':=(· =V)) hF14 (fun _ _ h=>h.elim) fun _ _ h=>h
  refine sJ (b:=σ3.n) (xs:=[]) (ys:=v.kids.map natW) (.inr ⟨0,1,rfl,hR4⟩) rfl (hrow4.src (fun _ _ h=>h) hemp4) (by simp) (by intro y hy;obtain ⟨j,_,rfl⟩:=List.mem_map.1 hy;rfl) (by omega) (by omega) fun σ5 kb kp kc hF5 hkb hK5=>?_
  have hF35:Frm σ3 σ5 NoB:=hF4.fresh hF5 fun j hj h=>by omega
  have hS5:=hF35.stN hS3
  rw [fD,aV]
  refine ⟨ckA hF35,?_⟩
  have hpast:∀ {o:Nat} {w:Value},[(.int .i64 v.x.k:Value),.int .i64 v.x.n,.string (mkB v.x.nm),.string (mkB v.x.pm),.slice q v.kids.length kq,.int .i64 v.x.fr,.int .i64 v.x.to][o]?=some w→past (ld1 (aadd ⟨X,0,some 0⟩ o)) w [σ4,σ3]=true:=fun h=>past_kp fun τ hτ=>by
   simp only [List.mem_cons,List.mem_nil_iff,or_false] at hτ
   rcases hτ with rfl|rfl
   ·exact (Kp.st hS3 h).frm hF4
   ·exact Kp.st hS3 h
  rw [aE hS5 (v:=.int .i64 v.x.fr) rfl,aV]
  refine ⟨hpast rfl,?_⟩
  simp only [wpS]
  rw [aE hS5 (v:=.int .i64 v.x.to) rfl,aV]
  refine ⟨hpast rfl,?_⟩
  simp only [wpS]
  rw [Nat.zero_add]
  have hF15:=hF13.seq hF35
  have hV5:=hF15.stN hS1
  have hG5:=hG1.frmN cZ hF15
  have hn5:=hF5.n
  have hkbn:kp≠none→σ3.n≤kb:=fun h=>by
   rcases hkb with h2|⟨_,h2⟩|h2
   ·exact absurd h2 h
   ·omega
   ·omega
  have hil:(N.take i).length=i:=by rw [List.length_take];omega
  refine wp_appD (len:=i) hG5.row (by rw [iD hG5.cl,hG5.len,hil]) (by decide) (by decide) rfl (by intro y hy;simp at hy;rcases hy with rfl|rfl|rfl|rfl|rfl|rfl|rfl<;>rfl) (by omega) (by omega) (fun τ f=>iC ((Kp.st hV5 (i:=0) rfl).frm f) rfl) fun σ6 rb6 off6 s6 c6 hF6 hrb6 hR6=>?_
  have hkY:kp≠none→¬ (kb<σ.n∨p≠none∧kb=rb):=fun h h2=>by
   have h3:=hkbn h
   rcases h2 with h2|⟨h2,h4⟩
   ·omega
   ·have:=hG1.lt h2
    have:=hF13.n
    omega
  have hG6:=hG5.more cZ (fun j h=>by omega) (b:=v) rfl ⟨kp,kc,rfl,slV_nats (by simpa using hK5) hkY,hK5.emp hkY⟩ hF6 hrb6 hR6
  have hVr:¬ (p≠none∧V=rb):=fun h=>hG1.hr h.1 (by show rb<σ.n;omega)
  refine bP (hF6.st hV5 hVr) (by simp) rfl fun σ7 hF7 hn7 hS7=>?_
  simp only [List.set_cons_zero] at hS7
  simp only [wpS,T12k0,ei]
  have hF16:Frm σ σ6 (· =V):=(hF1.seq hF15.no).trans hF6 (fun _ _ h=>h) fun j hj h=>absurd hj (hG1.hr h.1 |> fun h2=>by rw [h.2];exact h2)
  rw [List.take_succ_eq_append_getElem hi,hv]
  exact ⟨_,_,rb6,_,trivial,hF16.seq hF7,hS7,hG6.frm cZ hF7 fun j _ h=>by rw [h];exact hVn⟩
 ·rintro st σ1 ⟨p,c,rb,css,rfl,hF1,hS1,hG1⟩
  unfold T12b0
  simp only [wpS]
  rw [aE (hF1.st hSU hU) (v:=.slice pn N.length cn) rfl]
  simp only [wpS]
  rw [aC,if_neg (by simp)]
  simp only [wpS]
  rw [List.take_length] at hG1
  exact k σ1 p c rb css hF1 hS1 hG1
end
end Go.Pg
namespace Go.Pg
open Go.Proofs Go.Utf8 Go.Lib
set_option linter.unusedSimpArgs false
theorem slV_strs2 {σ:aB} {Y:Nat→Prop} {b c:Nat} {p:Option Addr} {l:List (List UInt8)} (h:SlV σ b p c (l.map cW)) (hb:p≠none→¬ Y b):aT σ Y 1 (pQ σ Y) p l:=by
 rcases h with ⟨rfl,_,h0⟩|⟨off,s,rfl,hR⟩
 ·have:l=[]:=by simpa using h0
  rw [this]
  exact aT.nil
 ·exact aT.own (css:=l.map fun t=>[cW t]) (by
   have e:(l.map fun t=>[cW t]).flatten=l.map cW:=by
    clear hR
    induction l with
    |nil=>rfl
    |cons t r ih=>rw [List.map_cons,List.flatten_cons,List.map_cons,←ih];try rfl
   rw [e];exact hR) (hb (by simp)) (by simp) (by intro cs hcs;obtain ⟨t,_,rfl⟩:=List.mem_map.1 hcs;rfl) (fun i h1 h2=>by simp [pQ])
section
variable {σ:aB} {N:List NV} {D:List Dc} {pn pd:Option Addr} {cn cd U V W:Nat} {Y:Nat→Prop}
theorem wp_made_cons {j:Nat} (hj:j<D.length) (hU:U≠W) (hSU:St σ U [.slice pn N.length cn,.slice pd D.length cd]) {nm:List UInt8} (hSW:St σ W [.string (mkB nm),.slice none 0 0]) (hYW:Y W) (hT:aT σ Y 2 (dcR σ Y) pd D) (hC:D[j].cons.length≤1000000) (hA:∀ c∈D[j].cons,c.args.length≤1000000) {K:Ex→List Value→Pg} {Q:cJ}
  (k:∀ σ' p c rb css,Frm σ σ' (· =W)→St σ' W [.string (mkB nm),.slice p D[j].cons.length c]→GR cnR 2 σ' (fun j=>j<σ.n) rb D[j].cons css p c→Wp aF ovD (K (.exit 4) [.int .i64 ((D[j].cons.length:Nat):Int)]) σ' Q):
  Wp aF ovD (.loop [.int .i64 0] (T12b1 ⟨U,0,some 0⟩ ((j:Nat):Int) ⟨W,0,some 0⟩) K) σ Q:=by
 have hUn:=hSU.1
 have hWn:=hSW.1
 have hT':∀ {τ:aB},Frm σ τ (· =W)→aT τ Y 2 (dcR τ Y) pd D:=fun f=>aT.step f (fun j _ h=>by rw [h];exact hYW) (fun _ _ h=>h) (fun _ _ h=>cQ _ _ _ _ _ _ _ f (fun j _ h=>by rw [h];exact hYW) (fun _ _ h=>h) h) hT
 refine Wp.count D[j].cons.length (fun i st σ'=>∃ p c rb css,st=[.int .i64 ((i:Nat):Int)]∧Frm σ σ' (· =W)∧St σ' W [.string (mkB nm),.slice p i c]∧GR cnR 2 σ' (fun j=>j<σ.n) rb (D[j].cons.take i) css p c)
  ⟨none,0,0,[],rfl,Frm.refl _ _,hSW,.zero⟩ ?_ ?_
 ·rintro i st σ1 hi ⟨p,c,rb,css,rfl,hF1,hS1,hG1⟩
  have ei:aO ((i:Int)+1)=((i+1:Nat):Int):=by rw [aS (by omega)];omega
  have hU1:=hF1.st hSU hU
  obtain ⟨x,cs,hx,hcs,hkp⟩:=Kp.ofRow (hT' hF1) hj
  obtain ⟨q,kq,rfl,hrow⟩:=hcs
  have hk1:=hkp 1 _ (by decide) rfl
  obtain ⟨x2,cs2,hx2,hcs2,hkp2⟩:=Kp.ofRow hrow hi
  generalize hv:D[j].cons[i]=v at hcs2
  have hvA:v.args.length≤1000000:=hA v (by rw [←hv];exact List.getElem_mem hi)
  obtain ⟨q2,kq2,rfl,hrow2,hemp2⟩:=hcs2
  have hk2:=hkp2 0 _ (by decide) rfl
  have hk3:=hkp2 1 _ (by decide) rfl
  have hn1:=hF1.n
  have hkU:Kp σ1 (aadd ⟨U,0,some 0⟩ 1) (.slice pd D.length cd):=Kp.st hU1 rfl
  have hkW:Kp σ1 (aadd ⟨W,0,some 0⟩ 1) (.slice p i c):=Kp.st hS1 rfl
  rw [hx] at hkU
  rw [hx2] at hk1
  have gj:(decide (0≤((j:Nat):Int))&&decide (((j:Nat):Int)<((D.length:Nat):Int)))=true:=by simp;omega
  have gi:(decide (0≤((i:Nat):Int))&&decide (((i:Nat):Int)<((D[j].cons.length:Nat):Int)))=true:=by simp;omega
  unfold T12b1
  simp only [wpS]
  rw [sL hkU]
  simp only [wpS]
  rw [aV]
  refine ⟨gj,?_⟩
  rw [Int.toNat_natCast,sL hk1]
  simp only [wpS]
  rw [aC,if_pos (by simp;omega),aK,sL hkW]
  simp only [wpS]
  rw [sL hkU]
  simp only [wpS]
  rw [aV]
  refine ⟨gj,?_⟩
  rw [sL hk1]
  simp only [wpS]
  rw [aV]
  refine ⟨gi,?_⟩
  rw [Int.toNat_natCast,sL hk2]
  simp only [wpS]
  rw [fD,aZ,cV]
  simp only [wpS]
  have hF4:Frm σ1 (σ1.newBlk [] 1) NoB:=Frm.new _ _ _ _
  have hR4:Row (σ1.newBlk [] 1) σ1.n 0 1 0 1 []:=Row.new σ1 1 [] 0 (by decide) rfl (by simp)
  generalize σ1.newBlk [] 1=σ4 at hF4 hR4 ⊢
  have hn4:=hF4.n
  have ckA:∀ {τ:aB},Frm σ1 τ NoB→chks [((ld1 (aadd (aadd x2 (i*2)) 0)),.string (mkB v.nm)),((ld1 (aadd (aadd x (j*2)) 1)),.slice (some x2) D[j].cons.length kq),((ld1 (aadd ⟨U,0,some 0⟩ 1)),.slice (some x) D.length cd),((ld1 (aadd ⟨W,0,some 0⟩ 1)),.slice p i c)] τ=true:=fun f=>
   iC (hk2.frm f) (iC (hk1.frm f) (iC (hkU.frm f) (iC (hkW.frm f) rfl)))
  rw [fD,aV]
  refine ⟨ckA hF4,?_⟩
  have pst:∀ {a:Addr} {w:Value},Kp σ1 a w→past (ld1 a) w [σ1]=true:=fun h=>past_kp fun τ hτ=>by rw [List.mem_singleton.1 hτ];exact h
  rw [sL (hkU.frm hF4),aV]
  refine ⟨pst hkU,?_⟩
  simp only [wpS]
  rw [aV]
  refine ⟨gj,?_⟩
  rw [sL (hk1.frm hF4),aV]
  refine ⟨pst hk1,?_⟩
  simp only [wpS]
  rw [aV]
  refine ⟨gi,?_⟩
  rw [sL (hk3.frm hF4),aV]
  refine ⟨pst hk3,?_⟩
  simp only [wpS]
  have hrow4:aT σ4 Y 1 (pQ σ1 Y) q2 v.args:=hrow2.later hF4
  have hemp4:Emp σ4 Y q2:=hemp2.step (Y':=Y) hF4 (fun _ _ h=>h.elim) fun _ _ h=>h
  refine sJ (b:=σ1.n) (xs:=[]) (ys:=v.args.map cW) (.inr ⟨0,1,rfl,hR4⟩) rfl (hrow4.src (fun _ _ h=>h) hemp4) (by simp) (by intro y hy;obtain ⟨j,_,rfl⟩:=List.mem_map.1 hy;rfl) (by omega) (by omega) fun σ5 kb kp kc hF5 hkb hK5=>?_
  have hF15:Frm σ1 σ5 NoB:=hF4.fresh hF5 fun j hj h=>by omega
  rw [fD,aV]
  refine ⟨ckA hF15,?_⟩
  rw [Nat.zero_add]
  have hG5:=hG1.frmN dW hF15
  have hn5:=hF5.n
  have hkbn:kp≠none→σ1.n≤kb:=fun h=>by
   rcases hkb with h2|⟨_,h2⟩|h2
   ·exact absurd h2 h
   ·omega
   ·omega
  have hil:(D[j].cons.take i).length=i:=by rw [List.length_take];omega
  refine wp_appD (len:=i) hG5.row (by rw [iD hG5.cl,hG5.len,hil]) (by decide) (by decide) rfl (by intro y hy;simp at hy;rcases hy with rfl|rfl<;>rfl) (by omega) (by omega) (fun τ f=>iC ((hkW.frm hF15).frm f) rfl) fun σ6 rb6 off6 s6 c6 hF6 hrb6 hR6=>?_
  have hkY:kp≠none→¬ (kb<σ.n∨p≠none∧kb=rb):=fun h h2=>by
   have h3:=hkbn h
   rcases h2 with h2|⟨h2,h4⟩
   ·omega
   ·have:=hG1.lt h2
    omega
  have hG6:=hG5.more dW (fun j h=>by omega) (b:=v) rfl ⟨kp,kc,rfl,slV_strs2 (by simpa using hK5) hkY,hK5.emp hkY⟩ hF6 hrb6 hR6
  have hWr:¬ (p≠none∧W=rb):=fun h=>hG1.hr h.1 (by show rb<σ.n;omega)
  refine bP (hF6.st (hF15.stN hS1) hWr) (by simp) rfl fun σ7 hF7 hn7 hS7=>?_
  simp only [List.set_cons_succ,List.set_cons_zero] at hS7
  simp only [wpS,T12k1,ei]
  have hF16:Frm σ σ6 (· =W):=(hF1.seq hF15.no).trans hF6 (fun _ _ h=>h) fun j hj h=>absurd hj (hG1.hr h.1 |> fun h2=>by rw [h.2];exact h2)
  rw [List.take_succ_eq_append_getElem hi,hv]
  exact ⟨_,_,rb6,_,trivial,hF16.seq hF7,hS7,hG6.frm dW hF7 fun j _ h=>by rw [h];exact hWn⟩
 ·rintro st σ1 ⟨p,c,rb,css,rfl,hF1,hS1,hG1⟩
  unfold T12b1
  simp only [wpS]
  rw [aE (hF1.st hSU hU) (v:=.slice pd D.length cd) rfl]
  simp only [wpS]
  refine cO (hT' hF1) hj rfl (o:=1) (by decide) fun cs hcs=>?_
  obtain ⟨q,kq,rfl,_⟩:=hcs
  refine ⟨_,rfl,?_⟩
  simp only [wpS]
  rw [aC,if_neg (by simp)]
  simp only [wpS]
  rw [List.take_length] at hG1
  exact k σ1 p c rb css hF1 hS1 hG1
theorem wp_made_decls (hU:U≠V) (hSU:St σ U [.slice pn N.length cn,.slice pd D.length cd]) {v0:Value} (hSV:St σ V [v0,.slice none 0 0]) (hT:aT σ (· =V) 2 (dcR σ (· =V)) pd D) (hD:D.length≤1000000) (hC:∀ d∈D,d.cons.length≤1000000) (hA:∀ d∈D,∀ c∈d.cons,c.args.length≤1000000) {K:Ex→List Value→Pg} {Q:cJ}
  (k:∀ σ' p c rb css,Frm σ σ' (· =V)→St σ' V [v0,.slice p D.length c]→GR dcR 2 σ' (fun j=>j<σ.n) rb D css p c→Wp aF ovD (K (.exit 2) [.int .i64 ((D.length:Nat):Int)]) σ' Q):
  Wp aF ovD (.loop [.int .i64 0] (T12b2 ⟨U,0,some 0⟩ ⟨V,0,some 0⟩) K) σ Q:=by
 have hUn:=hSU.1
 have hVn:=hSV.1
 have hT':∀ {τ:aB},Frm σ τ (· =V)→aT τ (· =V) 2 (dcR τ (· =V)) pd D:=fun f=>aT.step f (fun _ _ h=>h) (fun _ _ h=>h) (fun _ _ h=>cQ _ _ _ _ _ _ _ f (fun _ _ h=>h) (fun _ _ h=>h) h) hT
 refine Wp.count D.length (fun i st σ'=>∃ p c rb css,st=[.int .i64 ((i:Nat):Int)]∧Frm σ σ' (· =V)∧St σ' V [v0,.slice p i c]∧GR dcR 2 σ' (fun j=>j<σ.n) rb (D.take i) css p c)
  ⟨none,0,0,[],rfl,Frm.refl _ _,hSV,.zero⟩ ?_ ?_
 ·rintro i st σ1 hi ⟨p,c,rb,css,rfl,hF1,hS1,hG1⟩
  have ei:aO ((i:Int)+1)=((i+1:Nat):Int):=by rw [aS (by omega)];omega
  have hU1:=hF1.st hSU hU
  have hn1:=hF1.n
  have hT1:=hT' hF1
  unfold T12b2
  simp only [wpS]
  rw [aE hU1 (v:=.slice pd D.length cd) rfl]
  simp only [wpS]
  rw [aC,if_pos (by simp;omega),aK,aE hU1 (v:=.slice pd D.length cd) rfl]
  simp only [wpS]
  refine cO hT1 hi rfl (o:=0) (by decide) fun cs hcs=>?_
  obtain ⟨q,kq,rfl,_⟩:=hcs
  refine ⟨_,rfl,?_⟩
  simp only [wpS]
  refine aN fun σ2 hF2 hn2 hS2=>?_
  generalize hW:σ1.n=W at hS2
  refine bD hS2 rfl rfl fun σ3 hF3 hn3 hS3=>?_
  have hF13:Frm σ1 σ3 NoB:=hF2.fresh hF3 fun j hj h=>by omega
  have hU3:=hF13.stN hU1
  have hT3:aT σ3 (fun j=>j=V∨j=W) 2 (dcR σ3 (fun j=>j=V∨j=W)) pd D:=by
   have hy:∀ j,j<σ1.n→(j=V∨j=W)→j=V:=fun j h1 h2=>by omega
   exact aT.step hF13 (fun _ _ h=>h.elim) hy (fun _ _ h=>cQ _ _ _ _ _ _ _ hF13 (fun _ _ h=>h.elim) hy h) hT1
  have hVW:V≠W:=by omega
  refine wp_made_cons hi (by omega) hU3 hS3 (.inr rfl) hT3 (hC _ (List.getElem_mem hi)) (hA _ (List.getElem_mem hi)) fun σ4 p4 c4 rb4 css4 hF4 hS4 hG4=>?_
  simp only [wpS,T12k2]
  have hV3:=hF13.stN hS1
  have hV4:=hF4.st hV3 hVW
  rw [aE hV4 (v:=.slice p i c) rfl]
  simp only [wpS]
  rw [aP hS4 2 rfl]
  simp only [wpS]
  have hF14:Frm σ1 σ4 NoB:=hF13.fresh hF4 fun j hj h=>by omega
  have hG14:=hG1.frmN cQ hF14
  have hn13:=hF13.n
  have hb:dcR σ4 (fun j=>j<σ.n∨p≠none∧j=rb) [.string (mkB D[i].nm),.slice p4 D[i].cons.length c4] D[i]:=by
   refine cQ σ4 σ4 NoB (fun j=>j<σ3.n) _ _ _ (Frm.refl _ _) (fun _ _ h=>h.elim) ?_ ⟨p4,c4,rfl,hG4.close dW (by decide)⟩
   rintro j _ (h|⟨h1,h2⟩)
   ·omega
   ·have:=hG1.lt h1;omega
  have hil:(D.take i).length=i:=by rw [List.length_take];omega
  have hadd:=lF (P:=aF) (ov:=ovD) (byt:=40) (Q:=fun e vs σ'=>Wp aF ovD (T12k3 ((i:Nat):Int) e vs) σ' fun e st' σ'=>match e with
    | .normal=>∃ p c rb css,st'=[.int .i64 ((i+1:Nat):Int)]∧Frm σ σ' (· =V)∧St σ' V [v0,.slice p (i+1) c]∧GR dcR 2 σ' (fun j=>j<σ.n) rb (D.take (i+1)) css p c
    |e=>Wp aF ovD (K e st') σ' Q) cQ (fun j h=>by have:=hF4.n;omega) hG14 (by decide) (by decide) rfl (by intro y hy;simp at hy;rcases hy with rfl|rfl<;>rfl) hb (by omega) (by decide)
    (g:=fun p' n' c'=>.act (stC (aadd ⟨V,0,some 0⟩ 1) [.slice p' n' c']) fun v=>cG v fun l=>aA l (.ret .normal [])) fun σ5 rb5 p5 c5 hF5 hrb5 hG5=>by
   have hVr:¬ (p≠none∧V=rb):=fun h=>hG1.hr h.1 (by show rb<σ.n;omega)
   refine bP (hF5.st hV4 hVr) (by simp) rfl fun σ6 hF6 hn6 hS6=>?_
   simp only [List.set_cons_succ,List.set_cons_zero] at hS6
   simp only [wpS,T12k3,ei]
   rw [hil] at hS6
   have hF15:Frm σ σ5 (· =V):=(hF1.seq hF14.no).trans hF5 (fun _ _ h=>h) fun j hj h=>absurd hj (hG1.hr h.1 |> fun h2=>by rw [h.2];exact h2)
   rw [List.take_succ_eq_append_getElem hi]
   exact ⟨_,_,rb5,_,trivial,hF15.seq hF6,hS6,hG5.frm cQ hF6 fun j _ h=>by rw [h];exact hVn⟩
  rw [hil] at hadd
  exact hadd
 ·rintro st σ1 ⟨p,c,rb,css,rfl,hF1,hS1,hG1⟩
  unfold T12b2
  simp only [wpS]
  rw [aE (hF1.st hSU hU) (v:=.slice pd D.length cd) rfl]
  simp only [wpS]
  rw [aC,if_neg (by simp)]
  simp only [wpS]
  rw [List.take_length] at hG1
  exact k σ1 p c rb css hF1 hS1 hG1
end
end Go.Pg
namespace Go.Pg
open Go.Proofs Go.Utf8 Go.Lib
set_option linter.unusedSimpArgs false
section
variable {σ:aB}
theorem wp_made12 (S:List UInt8) {Q:Value→aB→Prop}
  (hno:1500<S.length∨docP S=none→∀ pn cn pd cd σ',Frm σ σ' NoB→Q (.tuple #[trV pn 0 cn pd 0 cd,.bool false]) σ')
  (hyes:∀ N D,S.length≤1500→docP S=some (N,D)→∀ pn cn pd cd σ',Frm σ σ' NoB→dF σ' (fun j=>j<σ.n) pn N pd D→(∀ v∈N,v.kids.length≤1000000)→D.length≤1000000→(∀ d∈D,d.cons.length≤1000000)→(∀ d∈D,∀ c∈d.cons,c.args.length≤1000000)→(cP D).length≤100000000→Q (.tuple #[trV pn N.length cn pd D.length cd,.bool true]) σ'):
  WpF aF ovD 12 [.string (mkB S)] σ Q:=by
 refine WpF.of (T12_eq _) rfl ?_
 rw [T12]
 refine aN fun σ1 hF1 hn1 hS1=>?_
 generalize hA:σ.n=A at hS1
 rw [aC]
 have hsz:=bJ S
 by_cases h15:1500<S.length
 ·rw [if_pos (by simp;omega)]
  refine bD hS1 rfl rfl fun σ2 hF2 hn2 hS2=>?_
  rw [aP hS2 2 rfl]
  simp only [wpS]
  exact ⟨_,rfl,hno (.inl h15) _ _ _ _ σ2 (hF1.fresh hF2 fun j hj h=>by omega)⟩
 rw [if_neg (by simp;omega),aD]
 have core:∀ (N:List NV) (D:List Dc) (pn pd:Option Addr) (cn cd:Nat) (e a:Int) (σ2:aB),Frm σ1 σ2 NoB→dF σ2 (fun j=>j<σ1.n) pn N pd D→(∀ v∈N,v.kids.length≤1000000)→N.length≤1000000→D.length≤1000000→(∀ d∈D,d.cons.length≤1000000)→(∀ d∈D,∀ c∈d.cons,c.args.length≤1000000)→
   (∀ pn' cn' pd' cd' σ',Frm σ σ' NoB→dF σ' (fun j=>j<A) pn' N pd' D→Q (.tuple #[trV pn' N.length cn' pd' D.length cd',.bool (e==0)]) σ')→
   Wp aF ovD (cG (.tuple #[trV pn N.length cn pd D.length cd,.int .i64 e,.int .i64 a]) fun l8=>bA l8 fun v9 l10=>asAgg v9 fun l11=>bA l11 fun v12 l13=>aM v12 fun p14 n15 n16=>bA l13 fun v17 l18=>aM v17 fun p19 n20 n21=>aA l18 (bA l10 fun v22 l23=>asInt .i64 v22 fun i24=>bA l23 fun v25 l26=>asInt .i64 v25 fun i27=>aA l26 (.act (newC [(.slice none 0 0),(.slice none 0 0)]) fun v28=>aY v28 fun p29=>aH p29 fun a30=>.act (stC a30 [(.slice p14 n15 n16),(.slice p19 n20 n21)]) fun v31=>cG v31 fun l32=>aA l32 (.act (newC [(.slice none 0 0),(.slice none 0 0)]) fun v33=>aY v33 fun p34=>aH p34 fun a35=>.act (stC a35 [(.slice none 0 0),(.slice none 0 0)]) fun v36=>cG v36 fun l37=>aA l37 (.loop [(.int .i64 0)] (T12b0 a30 a35) (T12k5 a30 a35 ⟨A,0,some 0⟩ i24)))))) σ2 fun _ vs σ'=>∃ v,vs=[v]∧Q v σ':=by
  intro N D pn pd cn cd e a σ2 hF2 hT2 hK hN hD hC hA' hq
  simp only [wpS]
  have hS2:=hF2.stN hS1
  have hn2:=hF2.n
  refine aN fun σ3 hF3 hn3 hS3=>?_
  generalize hU:σ2.n=U at hS3
  refine bD hS3 rfl rfl fun σ4 hF4 hn4 hS4=>?_
  have hF24:Frm σ2 σ4 NoB:=hF3.fresh hF4 fun j hj h=>by omega
  refine aN fun σ5 hF5 hn5 hS5=>?_
  generalize hV:σ4.n=V at hS5
  refine bD hS5 rfl rfl fun σ6 hF6 hn6 hS6=>?_
  have hF46:Frm σ4 σ6 NoB:=hF5.fresh hF6 fun j hj h=>by omega
  have hU6:=hF46.stN hS4
  have hF26:=hF24.seq hF46
  have hT6:dF σ6 (· =V) pn N pd D:=hT2.step (S:=NoB) hF26 (fun _ _ h=>h.elim) fun j hj h=>by omega
  have hUV:U≠V:=by omega
  have hF06:Frm σ σ6 NoB:=(hF1.seq hF2).seq hF26
  have hS16:=hF26.stN hS2
  refine wp_made_nodes hUV hU6 hS6 hT6 hK hN fun σ7 p7 c7 rb7 css7 hF7 hS7 hG7=>?_
  simp only [wpS,T12k5]
  have hU7:=hF7.st hU6 hUV
  have hT7:aT σ7 (· =V) 2 (dcR σ7 (· =V)) pd D:=(hT6.step (Y':=(· =V)) hF7 (fun _ _ h=>h) fun _ _ h=>h).decls
  refine wp_made_decls hUV hU7 hS7 hT7 hD hC hA' fun σ8 p8 c8 rb8 css8 hF8 hS8 hG8=>?_
  simp only [wpS,T12k4]
  rw [aP hS8 2 rfl]
  simp only [wpS]
  have hF68:=hF7.seq hF8
  have hF08:Frm σ σ8 NoB:=hF06.fresh hF68 fun j hj h=>by have:=hF06.n;have:=hF24.n;omega
  have hAV:A≠V:=by have:=hF24.n;omega
  refine bD (hF68.st hS16 hAV) rfl rfl fun σ9 hF9 hn9 hS9=>?_
  rw [aP hS9 2 rfl]
  simp only [wpS]
  have hF09:Frm σ σ9 NoB:=hF08.fresh hF9 fun j hj h=>by omega
  have hn6':=hF06.n
  have hn7:=hF7.n
  have hAl:A<σ6.n:=by have:=hS16.1;exact this
  have hVl:V<σ6.n:=hS6.1
  refine ⟨_,rfl,hq _ _ _ _ σ9 hF09 ⟨?_,?_⟩⟩
  ·have hG8':=hG7.frm cZ hF8 fun j _ h=>by rw [h];exact hVl
   have hG9:=hG8'.frm cZ hF9 fun j _ h=>by rw [h];exact hAl
   have hG9':=GR.step (S:=NoB) (Y':=fun j=>j<A) cZ hG9 (Frm.refl _ _) (fun _ _ h=>h.elim) fun j _ h=>by show j<σ6.n;omega
   exact hG9'.close cZ (by decide)
  ·have hG9:=hG8.frm cQ hF9 fun j _ h=>by rw [h];show A<σ7.n;omega
   have hG9':=GR.step (S:=NoB) (Y':=fun j=>j<A) cQ hG9 (Frm.refl _ _) (fun _ _ h=>h.elim) fun j _ h=>by show j<σ7.n;omega
   exact hG9'.close cQ (by decide)
 refine wp_Parse25 S (by omega) ?_ ?_
 ·intro hd e a σ2 hF2 he
  refine core [] [] none none 0 0 e a σ2 hF2 ⟨aT.nil,aT.nil⟩ (by simp) (by simp) (by simp) (by simp) (by simp) fun pn' cn' pd' cd' σ' hF _=>?_
  have:(e==0)=false:=by simpa using he
  rw [this]
  exact hno (.inr hd) _ _ _ _ σ' hF
 ·intro N D hd pn cn pd cd σ2 hF2 hT hK hD hC hA' hcn
  have hg:=docP_good hd
  refine core N D pn pd cn cd 0 0 σ2 hF2 hT hK (Nat.le_trans hg.most (by decide)) hD hC hA' fun pn' cn' pd' cd' σ' hF hT'=>?_
  have h:=hyes N D (by omega) hd pn' cn' pd' cd' σ' hF (by rw [hA];exact hT') hK hD hC hA' hcn
  exact h
end
end Go.Pg
namespace Go.Pg
structure Shp where
 k:Int
 n:Int
 nm:List UInt8
deriving DecidableEq
def anyV:NV:=⟨{ k:=21 },[]⟩
def shpV (v:NV):Shp:=if v.x.k=23∨v.x.k=24 then ⟨v.x.k,v.x.n,[]⟩ else if v.x.k=25 then ⟨25,0,[]⟩ else if v.x.k=26 then ⟨26,0,v.x.nm⟩ else ⟨0,0,[]⟩
theorem shpV_0 {v:NV}:(shpV v).k=0↔shpV v=⟨0,0,[]⟩:=by
 unfold shpV
 split
 ·rename_i h
  constructor
  ·intro h2;simp only at h2;omega
  ·intro h2;have:=congrArg Shp.k h2;simp only at this;omega
 ·split
  ·simp
  ·split
   ·simp
   ·simp
section
variable (N:List NV) (D:List Dc)
def nS (p:Int):NV:=if p<0 then anyV else match N[p.toNat]? with
 |some v=>if 21≤v.x.k∧v.x.k≤26 then v else anyV
 |none=>anyV
def shp (p:Int):Shp:=shpV (nS N p)
def fH (s:Shp):Nat:=if s.k=26 then (match ofD s.nm 0 D with
 |some x=>x.2.2
 |none=>0) else 0
def iO (v:NV) (n:Nat):List Int:=(List.range n).map fun i=>if i<v.kids.length then ((v.kids.getD i 0:Nat):Int) else -1
def dX (s:Shp):List Int→Option (List Int)
 |[]=>none
 |p::r=>if shp N p=s then some (iO (nS N p) (fH D s)++r) else if shp N p=⟨0,0,[]⟩ then some (List.replicate (fH D s) (-1)++r) else none
def fE (s:Shp) (rows:List (List Int)):List (List Int):=rows.filterMap (dX N D s)
def jM (row:List Int):Shp:=shp N (row.getD 0 (-1))
def pP (l:List Shp) (s:Shp):List Shp:=if s.k≠0∧s∉l then l++[s] else l
def cC (rows:List (List Int)):List Shp:=rows.foldl (fun l r=>pP l (jM N r)) []
def kH:List Shp→Bool
 |[]=>false
 |s::l=>if s.k=24 then decide (l.length+1=2) else if s.k=25 then true else if s.k=26 then (match ofD s.nm 0 D with
  |some x=>decide (l.length+1=(match D[x.1]? with
   |some d=>d.cons.length
   |none=>0))
  |none=>false) else false
def lN (rows:List (List Int)):List (List Int):=(rows.filter fun r=>decide ((jM N r).k=0)).map (·.drop 1)
def anyS (q:Shp→Nat→Bool × Nat):List Shp→Nat→Bool × Nat
 |[],n=>(false,n)
 |s::l,n=>if (q s n).1=true then (true,(q s n).2) else anyS q l (q s n).2
def bQ:Nat→List (List Int)→List Int→Nat→Bool × Nat
 |0,_,_,n=>(false,n)
 |f+1,rows,row,n=>
  if 10000<n+1 then (false,n+1) else
  match row with
  |[]=>(rows.isEmpty,n+1)
  |p::r=>
   if (shp N p).k≠0 then bQ f (fE N D (shp N p) rows) ((dX N D (shp N p) (p::r)).getD []) (n+1)
   else if kH D (cC N rows)=true then anyS (fun s n=>bQ f (fE N D s rows) ((dX N D s (p::r)).getD []) n) (cC N rows) (n+1)
   else bQ f (lN N rows) r (n+1)
end
section
variable {N:List NV} {D:List Dc}
theorem addS_mem {l:List Shp} {s x:Shp} (hl:∀ y∈l,y.k≠0) (h:x∈pP l s):x.k≠0:=by
 unfold pP at h
 split at h
 ·rename_i hs
  rcases List.mem_append.1 h with h|h
  ·exact hl x h
  ·rw [List.mem_singleton.1 h];exact hs.1
 ·exact hl x h
theorem shapesC_k (rows:List (List Int)):∀ x∈cC N rows,x.k≠0:=by
 unfold cC
 have:∀ (l:List (List Int)) (a:List Shp),(∀ y∈a,y.k≠0)→∀ x∈l.foldl (fun l r=>pP l (jM N r)) a,x.k≠0:=by
  intro l
  induction l with
  |nil=>intro a h;exact h
  |cons r l ih=>
   intro a h
   exact ih _ fun y hy=>addS_mem h hy
 exact this rows [] (fun y hy=>by cases hy)
theorem shp_0 {p:Int}:(shp N p).k=0↔shp N p=⟨0,0,[]⟩:=shpV_0
theorem specC_cons (s:Shp) (p:Int) (r:List Int):dX N D s (p::r)=if shp N p=s then some (iO (nS N p) (fH D s)++r) else if shp N p=⟨0,0,[]⟩ then some (List.replicate (fH D s) (-1)++r) else none:=rfl
theorem specC_same {s:Shp} {p:Int} {r:List Int} (h:shp N p=s):dX N D s (p::r)=some (iO (nS N p) (fH D s)++r):=by rw [specC_cons,if_pos h]
theorem specC_any {s:Shp} {p:Int} {r:List Int} (h:(shp N p).k=0) (hs:s.k≠0):dX N D s (p::r)=some (List.replicate (fH D s) (-1)++r):=by
 rw [specC_cons,if_neg (fun e=>hs (by rw [←e];exact h)),if_pos (shp_0.1 h)]
theorem shp_neg:shp N (-1)=⟨0,0,[]⟩:=rfl
end
end Go.Pg
namespace Go.Pg
end Go.Pg
namespace Go.Pg
open Go.Proofs Go.Utf8 Go.Lib
set_option linter.unusedSimpArgs false
section
variable {σ:aB} {Y:Nat→Prop} {N:List NV} {D:List Dc} {pn pd:Option Addr} {n cn cd A:Nat}
theorem wp_Of30 (h:aT σ Y 2 (dcR σ Y) pd D) (hD:D.length≤1000000) (hC:∀ d∈D,d.cons.length≤1000000) (s:List UInt8):
  WpF aF ovD 30 [trV pn n cn pd D.length cd,.string (mkB s)] σ fun v σ'=>v=ofV (ofD s 0 D)∧Frm σ σ' NoB:=by
 refine WpF.of (T30_eq _ _ _ _ _ _ _) rfl ?_
 rw [T30]
 refine aN fun σ1 hF1 hn1 hS1=>?_
 generalize σ.n=A at hS1
 rw [aE hS1 (v:=.slice pd D.length cd) rfl]
 simp only [wpS]
 refine Wp.count D.length (fun j st σ'=>Frm σ σ' NoB∧st=[.int .i64 ((j:Nat):Int),.bool false,.int .i64 0,.int .i64 0]∧∀ i (hi:i<D.length),i<j→ofC s 0 D[i].cons=none) ⟨hF1,rfl,fun i _ h=>by omega⟩ ?_ ?_
 ·rintro j st σ2 hj ⟨hF2,rfl,hall⟩
  have ej:aO ((j:Int)+1)=((j+1:Nat):Int):=by rw [aS (by omega)];omega
  have hcl:=hC _ (List.getElem_mem hj)
  have h2:=h.frmM cQ hF2
  unfold T30b1
  simp only [wpS]
  rw [aC,if_pos (by simp;omega),aK]
  refine dN h2 hj rfl fun cs hcs=>?_
  obtain ⟨q,k,rfl,hrow⟩:=hcs
  simp only [wpS]
  refine aN fun σ3 hF3 hn3 hS3=>?_
  refine bD hS3 rfl rfl fun σ4 hF4 hn4 hS4=>?_
  have hF24:Frm σ2 σ4 NoB:=hF3.fresh hF4 fun j hj h=>by omega
  have hF04:=hF2.seq hF24
  rw [aE hS4 (v:=.slice q D[j].cons.length k) rfl]
  simp only [wpS]
  have hrow4:=hrow.frmM dW hF24
  refine Wp.count D[j].cons.length (fun m st σ'=>Frm σ4 σ' NoB∧st=[.int .i64 ((m:Nat):Int),.bool false,.int .i64 0,.int .i64 0]∧∀ k (hk:k<D[j].cons.length),k<m→D[j].cons[k].nm≠s) ⟨Frm.refl _ _,rfl,fun k _ h=>by omega⟩ ?_ ?_
  ·rintro m st σ5 hm ⟨hF5,rfl,hm2⟩
   have em:aO ((m:Int)+1)=((m+1:Nat):Int):=by rw [aS (by omega)];omega
   have hrow5:=hrow4.frmM dW hF5
   unfold T30b0
   simp only [wpS]
   rw [aC,if_pos (by simp;omega),aK]
   refine dN hrow5 hm rfl fun cs hcs=>?_
   obtain ⟨q2,k2,rfl,_,_⟩:=hcs
   simp only [wpS]
   refine aN fun σ6 hF6 hn6 hS6=>?_
   refine bD hS6 rfl rfl fun σ7 hF7 hn7 hS7=>?_
   have hF57:Frm σ5 σ7 NoB:=hF6.fresh hF7 fun j hj h=>by omega
   rw [aE hS7 (v:=.string (mkB D[j].cons[m].nm)) rfl]
   simp only [wpS,eX]
   rw [aC]
   by_cases he:D[j].cons[m].nm=s
   ·rw [if_pos (by simpa using he)]
    simp only [wpS,T30k0,T30k1,T30k2,T30k3]
    have hc:=ofC_at s D[j].cons 0 m hm (fun i hi=>hm2 i (by omega) hi) he
    rw [ofD_at s D 0 j hj (fun i hi=>hall i (by omega) hi) _ hc,sQ]
    simp only [Nat.zero_add]
    exact ⟨_,rfl,rfl,(hF04.seq hF5).seq hF57⟩
   ·rw [if_neg (by simpa using he)]
    simp only [wpS,T30k0,em]
    refine ⟨hF5.seq hF57,trivial,fun k hk hkm=>?_⟩
    by_cases hkm2:k=m
    ·subst hkm2;exact he
    ·exact hm2 k hk (by omega)
  ·rintro st σ5 ⟨hF5,rfl,hm2⟩
   unfold T30b0
   simp only [wpS]
   rw [aC,if_neg (by simp)]
   simp only [wpS,T30k1,T30k2,ej]
   refine ⟨hF04.seq hF5,trivial,fun i hi hij=>?_⟩
   by_cases h2:i=j
   ·subst h2
    exact ofC_no s _ 0 fun k hk=>hm2 k hk hk
   ·exact hall i hi (by omega)
 ·rintro st σ2 ⟨hF2,rfl,hall⟩
  unfold T30b1
  simp only [wpS]
  rw [aC,if_neg (by simp)]
  simp only [wpS,T30k3]
  rw [ofD_no s D 0 fun i hi=>hall i hi hi,ofV_none]
  exact ⟨_,rfl,rfl,hF2⟩
structure Ask (σ:aB) (A:Nat) (pn:Option Addr) (N:List NV) (cn:Nat) (pd:Option Addr) (D:List Dc) (cd:Nat) (steps:Nat):Prop where
 st:St σ A [.slice pn N.length cn,.slice pd D.length cd,.int .i64 ((steps:Nat):Int)]
 tree:dF σ (· =A) pn N pd D
 nl:N.length≤1000000
 dl:D.length≤1000000
 cl:∀ d∈D,d.cons.length≤1000000
 kl:∀ v∈N,v.kids.length≤1000000
 al:∀ d∈D,∀ c∈d.cons,c.args.length≤1000000
variable {steps:Nat}
theorem Ask.frm {σ':aB} (h:Ask σ A pn N cn pd D cd steps) (f:Frm σ σ' NoB):Ask σ' A pn N cn pd D cd steps:=⟨f.stN h.st,h.tree.frm f,h.nl,h.dl,h.cl,h.kl,h.al⟩
theorem nJ (i:Int):WpF aF ovD 33 [.int .i64 i] σ fun v σ'=>v=.bool (decide (21≤i∧i≤26))∧σ'=σ:=by
 refine WpF.of (T33_eq _) rfl ?_
 rw [T33]
 simp only [wpS]
 refine ⟨_,rfl,?_,trivial⟩
 congr 1
 by_cases h1:21≤i<;>by_cases h2:i≤26<;>simp [h1,h2]
theorem nvR_any {σ:aB} {Y:Nat→Prop}:nvR σ Y [.int .i64 21,.int .i64 0,.string (bs []),.string (bs []),.slice none 0 0,.int .i64 0,.int .i64 0] anyV:=⟨none,0,rfl,aT.nil,Emp.none⟩
theorem wp_at63 (h:Ask σ A pn N cn pd D cd steps) (p:Int):
  WpF aF ovD 63 [bU A,.int .i64 p] σ fun v σ'=>∃ cs,v=.agg cs.toArray∧nvR σ' (· =A) cs (nS N p)∧Frm σ σ' NoB:=by
 refine WpF.of (T63_eq _ _) rfl ?_
 rw [T63]
 refine aN fun σ1 hF1 hn1 hS1=>?_
 generalize hX:σ.n=X at hS1
 have h1:=h.frm hF1
 have hl:=h.nl
 have fin:∀ (b:Bool) (τ:aB),Frm σ1 τ NoB→(b=true→nS N p=anyV)→(b=false→0≤p∧∃ hp:p.toNat<N.length,nS N p=N[p.toNat])→
   Wp aF ovD (T63k0 ⟨X,0,some 0⟩ (some ⟨A,0,some 0⟩) p .normal [.bool b]) τ fun _ vs σ'=>∃ v,vs=[v]∧∃ cs,v=.agg cs.toArray∧nvR σ' (· =A) cs (nS N p)∧Frm σ σ' NoB:=by
  intro b τ hF hb1 hb2
  simp only [wpS,T63k0]
  have hS:=hF.stN hS1
  rw [aC]
  cases b with
  |true=>
   rw [if_pos rfl]
   refine bD hS rfl rfl fun σ2 hF2 hn2 hS2=>?_
   rw [aP hS2 7 rfl]
   simp only [wpS]
   refine ⟨_,rfl,_,rfl,?_,(hF1.seq hF).fresh hF2 fun j hj h=>by omega⟩
   rw [hb1 rfl]
   exact nvR_any
  |false=>
   rw [if_neg (by simp)]
   obtain ⟨hp0,hp,he⟩:=hb2 rfl
   have hτ:=h1.frm hF
   have hTX:dF τ (fun j=>j=A∨j=X) pn N pd D:=h.tree.step (S:=NoB) (hF1.seq hF) (fun _ _ h=>h.elim) fun j hj h=>by
    rcases h with h|h
    ·exact h
    ·omega
   obtain ⟨m,rfl⟩:∃ m:Nat,p=(m:Int):=⟨p.toNat,by omega⟩
   simp only [Int.toNat_natCast] at hp he
   rw [dC,aE hτ.st (v:=.slice pn N.length cn) rfl]
   simp only [wpS]
   refine dN hTX.nodes hp rfl fun cs hcs=>?_
   rw [←he] at hcs
   generalize nS N (m:Int)=v at hcs
   obtain ⟨q,k,rfl,hrow,hemp⟩:=hcs
   simp only [wpS]
   refine bD hS rfl rfl fun σ2 hF2 hn2 hS2=>?_
   rw [aP hS2 7 rfl]
   simp only [wpS]
   exact ⟨_,rfl,_,rfl,⟨q,k,rfl,hrow.step hF2 (fun j _ h=>.inr h) (fun j _ h=>.inl h) (fun _ _ h=>h),hemp.step hF2 (fun j _ h=>.inr h) fun j _ h=>.inl h⟩,(hF1.seq hF).fresh hF2 fun j hj h=>by omega⟩
 have hpat:nS N p=if p<0 then anyV else match N[p.toNat]? with
  |some v=>if 21≤v.x.k∧v.x.k≤26 then v else anyV
  |none=>anyV:=rfl
 rw [aK,aC]
 by_cases hp0:p<0
 ·rw [if_neg (by simp;omega)]
  simp only [wpS]
  exact fin true σ1 (Frm.refl _ _) (fun _=>by rw [hpat,if_pos hp0]) fun h=>by cases h
 rw [if_neg hp0] at hpat
 rw [if_pos (by simp;omega)]
 simp only [wpS]
 rw [dC,aE h1.st (v:=.slice pn N.length cn) rfl]
 simp only [wpS]
 rw [aC]
 obtain ⟨m,rfl⟩:∃ m:Nat,p=(m:Int):=⟨p.toNat,by omega⟩
 rw [Int.toNat_natCast] at hpat
 by_cases hm:m<N.length
 case neg=>
  rw [if_neg (by simp;omega)]
  simp only [wpS]
  refine fin true σ1 (Frm.refl _ _) (fun _=>?_) fun h=>by cases h
  rw [hpat,List.getElem?_eq_none (by omega)]
 rw [List.getElem?_eq_getElem hm] at hpat
 simp only at hpat
 rw [if_pos (by simp;omega),aE h1.st (v:=.slice pn N.length cn) rfl]
 simp only [wpS]
 refine cO h1.tree.nodes hm rfl (o:=0) (by decide) fun cs hcs=>?_
 obtain ⟨q,k,rfl,_,_⟩:=hcs
 refine ⟨_,rfl,?_⟩
 simp only [wpS]
 rw [aD]
 refine WpF.mono (nJ _) ?_
 rintro _ σ2 ⟨rfl,rfl⟩
 simp only [wpS]
 by_cases hk:21≤N[m].x.k∧N[m].x.k≤26
 ·rw [decide_eq_true hk]
  rw [if_pos hk] at hpat
  refine fin false σ2 (Frm.refl _ _) (fun h=>by cases h) fun _=>⟨by omega,by simpa using hm,?_⟩
  rw [hpat]
  try rfl
 ·rw [decide_eq_false hk]
  rw [if_neg hk] at hpat
  exact fin true σ2 (Frm.refl _ _) (fun _=>hpat) fun h=>by cases h
def shV (s:Shp):Value:=.agg #[.int .i64 s.k,.int .i64 s.n,.string (mkB s.nm)]
theorem nB (h:Ask σ A pn N cn pd D cd steps) (p:Int):
  WpF aF ovD 37 [bU A,.int .i64 p] σ fun v σ'=>v=shV (shp N p)∧Frm σ σ' NoB:=by
 refine WpF.of (T37_eq _ _) rfl ?_
 rw [T37]
 refine aN fun σ1 hF1 hn1 hS1=>?_
 generalize hX:σ.n=X at hS1
 rw [aD]
 refine WpF.mono (wp_at63 (h.frm hF1) p) ?_
 rintro _ σ2 ⟨cs,rfl,hcs,hF2⟩
 have hshp:shp N p=shpV (nS N p):=rfl
 generalize nS N p=v at hcs hshp
 obtain ⟨q,k,rfl,_,_⟩:=hcs
 simp only [wpS]
 have hn2:=hF2.n
 refine aN fun σ3 hF3 hn3 hS3=>?_
 generalize hZ:σ2.n=Z at hS3
 refine bD hS3 rfl rfl fun σ4 hF4 hn4 hS4=>?_
 rw [aE hS4 (v:=.int .i64 v.x.k) rfl]
 simp only [wpS]
 have hF24:Frm σ2 σ4 NoB:=hF3.fresh hF4 fun j hj h=>by omega
 have hS:=(hF2.seq hF24).stN hS1
 have hF04:Frm σ σ4 NoB:=hF1.seq (hF2.seq hF24)
 rw [hshp]
 have fin:∀ (s:Shp) (τ:aB),Frm σ4 τ (· =X)→St τ X [.int .i64 s.k,.int .i64 s.n,.string (mkB s.nm)]→shpV v=s→Wp aF ovD (T37k1 ⟨X,0,some 0⟩ .ret []) τ fun _ vs σ'=>∃ w,vs=[w]∧w=shV (shpV v)∧Frm σ σ' NoB:=by
  intro s τ hF hS he
  simp only [wpS,T37k1]
  rw [aP hS 3 rfl]
  simp only [wpS]
  exact ⟨_,rfl,by rw [he];rfl,hF04.fresh hF fun j hj h=>by omega⟩
 have both:∀ b:Bool,(b=true↔v.x.k=23∨v.x.k=24)→Wp aF ovD (T37k0 ⟨Z,0,some 0⟩ ⟨X,0,some 0⟩ v.x.k .normal [.bool b]) σ4 fun e vs σ'=>Wp aF ovD (T37k1 ⟨X,0,some 0⟩ e vs) σ' fun _ vs σ'=>∃ w,vs=[w]∧w=shV (shpV v)∧Frm σ σ' NoB:=by
  intro b hb
  simp only [wpS,T37k0]
  rw [aC]
  by_cases c1:v.x.k=23∨v.x.k=24
  ·rw [if_pos (hb.2 c1),aE hS4 (v:=.int .i64 v.x.k) rfl]
   simp only [wpS]
   rw [aE hS4 (v:=.int .i64 v.x.n) rfl]
   simp only [wpS]
   refine bD hS rfl rfl fun σ5 hF5 hn5 hS5=>?_
   simp only [wpS]
   exact fin ⟨v.x.k,v.x.n,[]⟩ σ5 hF5 hS5 (by unfold shpV;rw [if_pos c1])
  ·rw [if_neg fun h=>c1 (hb.1 h),aC]
   by_cases c2:v.x.k=25
   ·rw [if_pos (by simpa using c2),aE hS4 (v:=.int .i64 v.x.k) rfl]
    simp only [wpS]
    refine bD hS rfl rfl fun σ5 hF5 hn5 hS5=>?_
    simp only [wpS]
    exact fin ⟨v.x.k,0,[]⟩ σ5 hF5 hS5 (by unfold shpV;rw [if_neg c1,if_pos c2,c2])
   ·rw [if_neg (by simpa using c2),aC]
    by_cases c3:v.x.k=26
    ·rw [if_pos (by simpa using c3),aE hS4 (v:=.int .i64 v.x.k) rfl]
     simp only [wpS]
     rw [aE hS4 (v:=.string (mkB v.x.nm)) rfl]
     simp only [wpS]
     refine bD hS rfl rfl fun σ5 hF5 hn5 hS5=>?_
     simp only [wpS]
     exact fin ⟨v.x.k,0,v.x.nm⟩ σ5 hF5 hS5 (by unfold shpV;rw [if_neg c1,if_neg c2,if_pos c3,c3])
    ·rw [if_neg (by simpa using c3)]
     simp only [wpS,T37k1]
     refine bD hS rfl rfl fun σ5 hF5 hn5 hS5=>?_
     rw [aP hS5 3 rfl]
     simp only [wpS]
     refine ⟨_,rfl,?_,hF04.fresh hF5 fun j hj h=>by omega⟩
     unfold shpV
     rw [if_neg c1,if_neg c2,if_neg c3]
     try rfl
 rw [aC]
 by_cases c0:v.x.k=23
 ·rw [if_pos (by simpa using c0)]
  simp only [wpS]
  exact both _ (by simp [c0])
 ·rw [if_neg (by simpa using c0)]
  simp only [wpS]
  exact both _ (by simp [c0])
theorem wp_many64 (h:Ask σ A pn N cn pd D cd steps) (s:Shp):
  WpF aF ovD 64 [bU A,shV s] σ fun v σ'=>v=.int .i64 ((fH D s:Nat):Int)∧Frm σ σ' NoB:=by
 refine WpF.of (T64_eq _ _ _ _) rfl ?_
 rw [T64]
 refine aN fun σ1 hF1 hn1 hS1=>?_
 have h1:=h.frm hF1
 rw [aE hS1 (v:=.int .i64 s.k) rfl]
 simp only [wpS]
 rw [aC]
 by_cases hk:s.k=26
 case neg=>
  rw [if_pos (by simpa using hk)]
  simp only [wpS]
  exact ⟨_,rfl,by unfold fH;rw [if_neg hk];rfl,hF1⟩
 rw [if_neg (by simp [hk])]
 rw [aZ,show aadd ⟨A,0,some 0⟩ 0=⟨A,0,some 0⟩ from rfl,h1.st.ldN (off:=0) (k:=2) (by simp)]
 simp only [wpS,List.drop_zero,List.take_succ_cons,List.take_zero]
 rw [aE hS1 (v:=.string (mkB s.nm)) rfl]
 simp only [wpS]
 rw [aD]
 refine WpF.mono (wp_Of30 h1.tree.decls h1.dl h1.cl s.nm) ?_
 rintro _ σ2 ⟨rfl,hF2⟩
 have h2:=h1.frm hF2
 have hm:fH D s=match ofD s.nm 0 D with
  |some x=>x.2.2
  |none=>0:=by unfold fH;rw [if_pos hk];try rfl
 cases ho:ofD s.nm 0 D with
 |none=>
  rw [ho] at hm
  simp only [ofV,wpS]
  rw [aC,if_pos (by rfl)]
  simp only [wpS]
  exact ⟨_,rfl,by rw [hm];rfl,hF1.seq hF2⟩
 |some x=>
  rw [ho] at hm
  simp only at hm
  obtain ⟨d,c,w⟩:=x
  obtain ⟨_,hd,hc,hw⟩:=mC _ _ _ _ ho
  simp only [Nat.sub_zero] at hd hc hw
  simp only [ofV,wpS]
  rw [aC,if_neg (by simp)]
  rw [aE h2.st (v:=.slice pd D.length cd) rfl]
  simp only [wpS]
  refine cO h2.tree.decls hd rfl (o:=1) (by decide) fun cs hcs=>?_
  obtain ⟨q,k,rfl,hrow⟩:=hcs
  refine ⟨_,rfl,?_⟩
  simp only [wpS]
  refine cO hrow hc rfl (o:=1) (by decide) fun cs hcs=>?_
  obtain ⟨q2,k2,rfl,_,_⟩:=hcs
  refine ⟨_,rfl,?_⟩
  simp only [wpS]
  exact ⟨_,rfl,by rw [hm,←hw],hF1.seq hF2⟩
end
end Go.Pg
namespace Go.Pg
open Go.Proofs Go.Utf8 Go.Lib
set_option linter.unusedSimpArgs false
theorem EvB.wp {p:Pg} {σ:aB} {b:Bool} (h:EvB p σ b) {Q:cJ} (k:Q .normal [.bool b] σ):Wp aF ovD p σ Q:=by rw [h];exact k
def justM (k:Int) (s:List UInt8):Bool:=decide (s≠[])&&(decide (s.length≤4000)&&decide (cU s=(k,s)))
theorem justM_of {k:Int} {s:List UInt8} (h:oneW k s=true):justM k s=true:=by
 unfold oneW at h
 split at h
 ·cases h
 rename_i hl
 split at h
 ·rename_i w hw
  simp only [Bool.and_eq_true,decide_eq_true_eq] at h
  obtain ⟨h1,h2⟩:=h
  have hc:=(qG s (s.length+1) 0 0 [w] (Nat.zero_le _) (by rw [List.drop_zero];exact hw)).1
  obtain ⟨_,c1,c2,c3,_,c4,_⟩:=hc
  rw [h2] at c1 c2 c4
  have e:w.fr=0:=by omega
  rw [e,List.drop_zero,h1] at c4
  unfold justM
  simp only [Bool.and_eq_true,decide_eq_true_eq]
  exact ⟨c2,by omega,c4.eq⟩
 ·cases h
section
variable {σ:aB}
theorem wp_just82 {k:Int} {s:List UInt8} (hj:justM k s=true) {Q:Value→aB→Prop} (hQ:∀ σ',Frm σ σ' NoB→Q (.bool true) σ'):WpF aF ovD 82 [.string (mkB s),.int .i64 k] σ Q:=by
 unfold justM at hj
 simp only [Bool.and_eq_true,decide_eq_true_eq] at hj
 obtain ⟨h0,h1,h2⟩:=hj
 refine WpF.of (T82_eq _ _) rfl ?_
 rw [T82,aK,cA,aC,if_pos (by simp [h0])]
 simp only [wpS,T82k1,bJ]
 rw [aC,if_neg (by simp;omega),aD]
 refine wp_word h0 fun σ1 hF1=>?_
 unfold wv
 simp only [wpS]
 refine aN fun σ2 hF2 hn2 hS2=>?_
 refine bD hS2 rfl rfl fun σ3 hF3 hn3 hS3=>?_
 have hF03:=hF1.seq (hF2.fresh hF3 fun j hj h=>by omega)
 rw [aK,aE hS3 rfl]
 simp only [wpS,h2]
 rw [aC,if_pos (by simp),aE hS3 rfl]
 simp only [wpS,T82k0,h2,eX]
 exact ⟨_,rfl,by simpa using hQ σ3 hF03⟩
theorem jE {s:List UInt8} (h:tB s=true) {Q:Value→aB→Prop} (hQ:∀ σ',Frm σ σ' NoB→Q (.bool true) σ'):WpF aF ovD 55 [.string (mkB s)] σ Q:=by
 unfold tB at h
 simp only [Bool.and_eq_true,decide_eq_true_eq] at h
 refine WpF.of (T55_eq _) rfl ?_
 rw [T55,aK,cA,aC,if_pos (by simp [h.2]),aD]
 refine wp_just82 (justM_of h.1) fun σ1 hF1=>?_
 simp only [wpS,T55k0]
 exact ⟨_,rfl,hQ σ1 hF1⟩
theorem wp_isCon57 {s:List UInt8} (h:conM s=true) {Q:Value→aB→Prop} (hQ:∀ σ',Frm σ σ' NoB→Q (.bool true) σ'):WpF aF ovD 57 [.string (mkB s)] σ Q:=by
 refine WpF.of (T57_eq _) rfl ?_
 rw [T57,aD]
 refine wp_just82 (justM_of h) fun σ1 hF1=>?_
 simp only [wpS]
 exact ⟨_,rfl,hQ σ1 hF1⟩
theorem wp_number85 {v:NV} (q:Option Addr) (c:Nat) (h:gI v.x.k v.x.n=true):WpF aF ovD 85 [.agg (nvC v q c).toArray] σ fun w σ'=>w=.bool true∧Frm σ σ' NoB:=by
 refine WpF.of (T85_eq _ _ _ _ _ _ _ _ _) rfl ?_
 rw [T85]
 refine aN fun σ1 hF1 hn1 hS1=>?_
 generalize σ.n=A at hS1
 have hS1:St σ1 A (nvC v q c):=hS1
 rw [aE hS1 rfl]
 simp only [wpS]
 refine EvB.wp (EvB.cond (EvB.ret _ _)) ?_
 simp only [wpS,T85k3]
 unfold gI at h
 rw [aC]
 by_cases h1:v.x.k=1∨v.x.k=23
 ·rw [if_pos h1] at h
  simp only [Bool.and_eq_true,decide_eq_true_eq] at h
  rw [if_pos (by simpa using h1),aK,aE hS1 rfl]
  simp only [wpS]
  rw [aC,if_pos (by simpa using h.1),aE hS1 rfl]
  simp only [wpS,T85k0,T85k4]
  exact ⟨_,rfl,by simpa using h.2,hF1⟩
 ·rw [if_neg h1] at h
  rw [if_neg (by simpa using h1),aK]
  refine EvB.wp (EvB.cond (EvB.ret _ _)) ?_
  simp only [wpS,T85k2]
  rw [aC]
  by_cases h2:v.x.k=2∨v.x.k=24
  ·rw [if_pos h2] at h
   rw [if_pos (by simpa using h2),aK,aE hS1 rfl]
   simp only [wpS]
   rw [aC]
   simp only [Bool.or_eq_true,decide_eq_true_eq] at h
   by_cases h3:v.x.n=0
   ·rw [if_neg (by simp [h3])]
    simp only [wpS,T85k1,T85k4]
    exact ⟨_,rfl,rfl,hF1⟩
   ·rw [if_pos (by simpa using h3),aE hS1 rfl]
    simp only [wpS,T85k1,T85k4]
    exact ⟨_,rfl,by rcases h with h|h;exact absurd h h3;simp [h],hF1⟩
  ·rw [if_neg h2] at h
   rw [if_neg (by simpa using h2)]
   simp only [wpS,T85k4]
   rw [aE hS1 rfl]
   simp only [wpS]
   exact ⟨_,rfl,by simpa using h,hF1⟩
def kidsR (k:Int):Int × Int:=
 if k=5∨k=26 then (0,3) else if k=11 then (3,1000) else if k=6∨k=15∨k=16∨k=17∨k=19 then (1,1)
 else if k=7∨k=8∨k=9∨k=12∨k=13∨k=14∨k=20 then (2,2) else if k=10 then (3,3) else (0,0)
theorem EvB.pass {k:Ex→List Value→Pg} (h:∀ x,k .normal [.bool x]=.ret .normal [.bool x]) (x:Bool):EvB (k .normal [.bool x]) σ x:=by rw [h];exact EvB.ret _ _
theorem ev_kids87 (k:Int):EvF aF ovD 87 [.int .i64 k] σ (.tuple #[.int .i64 (kidsR k).1,.int .i64 (kidsR k).2]) σ:=by
 refine EvF.of (T87_eq _) rfl ?_
 have p:∀ {K:Ex→List Value→Pg},(∀ x,K .normal [.bool x]=.ret .normal [.bool x])→∀ x,EvB (K .normal [.bool x]) σ x:=fun h=>EvB.pass h
 rw [T87,aK]
 refine EvB.wp (EvB.cond (EvB.ret _ _)) ?_
 unfold kidsR
 simp only [wpS,T87k10]
 rw [aC]
 by_cases c1:k=5∨k=26
 ·rw [if_pos (by simpa using c1),if_pos c1]
  simp only [wpS,T87k11]
  exact ⟨trivial,trivial⟩
 rw [if_neg (by simpa using c1),if_neg c1,aC]
 by_cases c2:k=11
 ·rw [if_pos (by simpa using c2),if_pos c2]
  simp only [wpS,T87k11]
  exact ⟨trivial,trivial⟩
 rw [if_neg (by simpa using c2),if_neg c2,aK]
 refine EvB.wp (EvB.cond (EvB.join (EvB.cond (EvB.join (EvB.cond (EvB.join (EvB.cond (EvB.ret _ _)) (p fun x=>by simp only [wpS,T87k0]))) (p fun x=>by simp only [wpS,T87k1]))) (p fun x=>by simp only [wpS,T87k2]))) ?_
 simp only [wpS,T87k9]
 rw [aC]
 by_cases c3:k=6∨k=15∨k=16∨k=17∨k=19
 ·rw [if_pos (by simpa using c3),if_pos c3]
  simp only [wpS,T87k11]
  exact ⟨trivial,trivial⟩
 rw [if_neg (by simpa using c3),if_neg c3,aK]
 refine EvB.wp (EvB.cond (EvB.join (EvB.cond (EvB.join (EvB.cond (EvB.join (EvB.cond (EvB.join (EvB.cond (EvB.join (EvB.cond (EvB.ret _ _)) (p fun x=>by simp only [wpS,T87k3]))) (p fun x=>by simp only [wpS,T87k4]))) (p fun x=>by simp only [wpS,T87k5]))) (p fun x=>by simp only [wpS,T87k6]))) (p fun x=>by simp only [wpS,T87k7]))) ?_
 simp only [wpS,T87k8]
 rw [aC]
 by_cases c4:k=7∨k=8∨k=9∨k=12∨k=13∨k=14∨k=20
 ·rw [if_pos (by simpa using c4),if_pos c4]
  simp only [wpS,T87k11]
  exact ⟨trivial,trivial⟩
 rw [if_neg (by simpa using c4),if_neg c4,aC]
 by_cases c5:k=10
 ·rw [if_pos (by simpa using c5),if_pos c5]
  simp only [wpS,T87k11]
  exact ⟨trivial,trivial⟩
 ·rw [if_neg (by simpa using c5),if_neg c5]
  simp only [wpS,T87k11]
  exact ⟨trivial,trivial⟩
theorem kidsR_ok {k:Int} {n:Nat} (h1:1≤k) (h2:k≤26) (h:iJ k n=true) (hn:n≤1000):(kidsR k).1≤(n:Int)∧(n:Int)≤(kidsR k).2∧(k=11→n % 2=1):=by
 have e:∃ i:Nat,i<27∧k=(i:Int):=⟨k.toNat,by omega,by omega⟩
 obtain ⟨i,hi,rfl⟩:=e
 have:∀ i:Fin 27,1≤i.1→(kidsR (i.1:Int)=if fG.getD i.1 0= -2 then (0,3) else if fG.getD i.1 0= -3 then (3,1000) else (fG.getD i.1 0,fG.getD i.1 0))∧(((i.1:Int)=11)→fG.getD i.1 0= -3):=by decide
 obtain ⟨e1,e2⟩:=this ⟨i,hi⟩ (by show 1≤i;omega)
 rw [e1]
 unfold iJ at h
 rw [Int.toNat_natCast] at h
 dsimp only at e2 ⊢
 split at h
 ·rename_i c
  rw [if_pos c]
  have h:n≤3:=by simpa using h
  refine ⟨by show (0:Int)≤n;omega,by show (n:Int)≤3;omega,fun h11=>?_⟩
  rw [e2 h11] at c
  exact absurd c (by decide)
 ·rename_i c
  rw [if_neg c]
  split at h
  ·rename_i c2
   rw [if_pos c2]
   simp only [Bool.and_eq_true,decide_eq_true_eq] at h
   exact ⟨by show (3:Int)≤n;omega,by show (n:Int)≤1000;omega,fun _=>h.2⟩
  ·rename_i c2
   rw [if_neg c2]
   have h:(n:Int)=fG.getD i 0:=by simpa using h
   refine ⟨by simp only;omega,by simp only;omega,fun h11=>absurd (e2 h11) c2⟩
theorem wp_index83 {Y:Nat→Prop} {p:Option Addr} {c:Nat} {l:List (List UInt8)} (h:aT σ Y 1 (pQ σ Y) p l) (hl:l.length≤1000000000) (s:List UInt8):
  WpF aF ovD 59 [.slice p l.length c,.string (mkB s)] σ fun v σ'=>v=.bool (l.contains s)∧σ'=σ:=by
 refine WpF.of (T59_eq _ _ _ _) rfl ?_
 rw [T59,aD]
 refine WpF.of (T83_eq _ _ _ _) rfl ?_
 rw [T83]
 refine Wp.count l.length (fun j st σ'=>σ'=σ∧st=[.int .i64 ((j:Nat):Int),.int .i64 0]∧∀ i (hi:i<l.length),i<j→l[i]≠s) ⟨rfl,rfl,fun i _ h=>by omega⟩ ?_ ?_
 ·rintro j st σ' hj ⟨rfl,rfl,hall⟩
  have ej:aO ((j:Int)+1)=((j+1:Nat):Int):=by rw [aS (by omega)];omega
  unfold T83b0
  simp only [wpS]
  rw [aC,if_pos (by simp;omega),aK]
  refine cR h hj rfl fun cs hcs=>⟨_,hcs,?_⟩
  simp only [wpS,eX]
  rw [aC]
  by_cases he:s=l[j]
  ·rw [if_pos (by simpa using he)]
   simp only [wpS,T83k0,T83k1]
   refine ⟨_,rfl,?_⟩
   simp only [wpS]
   refine ⟨_,rfl,?_,trivial⟩
   rw [show l.contains s=true from List.contains_iff_mem.2 (by rw [he];exact List.getElem_mem hj)]
   simp
  ·rw [if_neg (by simpa using he)]
   simp only [wpS,T83k0,ej]
   refine ⟨trivial,trivial,fun i hi hij=>?_⟩
   by_cases h2:i=j
   ·subst h2;exact fun h=>he h.symm
   ·exact hall i hi (by omega)
 ·rintro st σ' ⟨rfl,rfl,hall⟩
  unfold T83b0
  simp only [wpS]
  rw [aC,if_neg (by simp)]
  simp only [wpS,T83k1]
  refine ⟨_,rfl,?_⟩
  simp only [wpS]
  refine ⟨_,rfl,?_,trivial⟩
  have:l.contains s=false:=by
   rw [Bool.eq_false_iff]
   intro h
   obtain ⟨i,hi,he⟩:=List.mem_iff_getElem.1 (List.contains_iff_mem.1 h)
   exact hall i hi hi he
  rw [this]
  try rfl
end
end Go.Pg
namespace Go.Pg
open Go.Proofs Go.Utf8 Go.Lib
set_option linter.unusedSimpArgs false
abbrev sF (z:Int):Value:=.int .i64 z
def intR (cs:List Value) (z:Int):Prop:=cs=[sF z]
section
variable {σ σ':aB} {Y Y' S:Nat→Prop}
structure RI (σ:aB) (Y:Nat→Prop) (q:Option Addr) (k:Nat) (l:List Int):Prop where
 row:aT σ Y 1 intR q l
 emp:Emp σ Y q
 cap:l.length≤k
 may:nG q 1=true
theorem RI.step {q:Option Addr} {k:Nat} {l:List Int} (h:RI σ Y q k l) (f:Frm σ σ' S) (hS:∀ j,j<σ.n→S j→Y j) (hY:∀ j,j<σ.n→Y' j→Y j):RI σ' Y' q k l:=
 ⟨h.row.step f hS hY fun _ _ h=>h,h.emp.step f hS hY,h.cap,h.may⟩
theorem RI.frm {q:Option Addr} {k:Nat} {l:List Int} (h:RI σ Y q k l) (f:Frm σ σ' NoB):RI σ' Y q k l:=h.step (S:=NoB) (Y':=Y) f (fun _ _ h=>h.elim) fun _ _ h=>h
theorem Vis.cut {a:Addr} (h:Vis σ Y a) (n:Nat):Vis σ Y (aadd a n):=h
theorem RI.cut {q:Option Addr} {k:Nat} {x:Int} {l:List Int} (h:RI σ Y q k (x::l)):RI σ Y (cutS q 1) (k - 1) l:=by
 have hc:=h.cap
 rw [List.length_cons] at hc
 refine ⟨fun i hi=>?_,?_,by omega,?_⟩
 ·obtain ⟨a,cs,rfl,h2,h3,h4⟩:=h.row (i+1) (by simpa using hi)
  refine ⟨aadd a 1,cs,rfl,h2.cut 1,?_,by simpa using h4⟩
  have e:aadd (aadd a 1) (i*1)=aadd a ((i+1)*1):=by
   unfold aadd
   simp only [Nat.mul_one]
   congr 1
   omega
  rw [e]
  exact h3
 ·intro b hb
  obtain ⟨a,cs,rfl,h2,h3,_⟩:=h.row 0 (by simp)
  cases hb
  refine ⟨h2.cut 1,?_⟩
  have:=mQ (o:=1) (k:=0) h3 (by omega)
  rw [List.take_zero] at this
  rw [←this]
  try rfl
 ·have hm:=h.may
  cases q with
  |none=>rfl
  |some a=>
   obtain ⟨b,o,s⟩:=a
   cases s with
   |none=>rfl
   |some s=>exact hm
theorem RI.own {b c:Nat} {p:Option Addr} {l:List Int} (h:SlV σ b p c (l.map sF)) (hb:p≠none→¬ Y b):RI σ Y p c l:=by
 refine ⟨?_,h.emp hb,by simpa using h.cap,?_⟩
 ·rcases h with ⟨rfl,_,h0⟩|⟨off,s,rfl,hR⟩
  ·have:l=[]:=by simpa using h0
   rw [this]
   exact aT.nil
  ·exact aT.own (css:=l.map fun z=>[sF z]) (by
    have e:(l.map fun z=>[sF z]).flatten=l.map sF:=by
     clear hR hb
     induction l with
     |nil=>rfl
     |cons t r ih=>rw [List.map_cons,List.flatten_cons,List.map_cons,←ih];try rfl
    rw [e];exact hR) (hb (by simp)) (by simp) (by intro cs hcs;obtain ⟨t,_,rfl⟩:=List.mem_map.1 hcs;rfl) (fun i h1 h2=>by simp [intR])
 ·rcases h with ⟨rfl,_,_⟩|⟨off,s,rfl,hR⟩
  ·rfl
  ·have:=hR.sesz
   simp [nG,this]
theorem RI.nil:RI σ Y none 0 []:=⟨aT.nil,Emp.none,Nat.le_refl _,rfl⟩
variable {P:Program} {ov:Ov}
theorem rV {q:Option Addr} {k:Nat} {x:Int} {l:List Int} (h:RI σ Y q k (x::l)) {n:Nat} (hn:n=l.length+1) {f:Value→Pg} {Q:cJ} (K:Wp P ov (f (sF x)) σ Q):
  Wp P ov (aH q fun a=>grd (decide (0<((n:Nat):Int))) (.act (ld1 (aadd a 0)) f)) σ Q:=by
 subst hn
 obtain ⟨a,cs,rfl,_,h3,h4⟩:=h.row 0 (by simp)
 simp only [cH]
 rw [aV]
 refine ⟨by simp,?_⟩
 have e:ld1 (aadd a 0) σ=some (sF x,σ):=by
  unfold ld1
  rw [show aadd a 0=aadd a (0*1) from rfl,h3,h4]
  try rfl
 rw [aZ,e]
 exact K
theorem grd_cut {q:Option Addr} {k n:Nat} {x:Int} {l:List Int} (h:RI σ Y q k (x::l)) (hn:n=l.length+1):((((decide (1≤((n:Nat):Int)))&&(decide (((n:Nat):Int)≤((k:Nat):Int))))&&(decide (((k:Nat):Int)≤((k:Nat):Int))))&&((nG q 1)||false))=true:=by
 have hc:=h.cap
 rw [List.length_cons] at hc
 subst hn
 rw [h.may]
 simp
 omega
end
def rwR (σ:aB) (Y:Nat→Prop) (cs:List Value) (l:List Int):Prop:=∃ q k,cs=[.slice q l.length k]∧RI σ Y q k l
theorem bO:rE rwR:=by
 rintro σ σ' S Y Y' cs c f hS hY ⟨q,k,h1,h2⟩
 exact ⟨q,k,h1,h2.step f hS hY⟩
section
variable {σ:aB} {N:List NV} {D:List Dc} {pn pd:Option Addr} {cn cd A steps:Nat}
theorem manyC_le (h:∀ d∈D,∀ c∈d.cons,c.args.length≤1000000) (s:Shp):fH D s≤1000000:=by
 unfold fH
 split
 ·split
  ·rename_i x hx
   obtain ⟨_,h1,h2,h3⟩:=mC _ _ _ _ hx
   rw [←h3]
   exact h _ (List.getElem_mem h1) _ (List.getElem_mem h2)
  ·exact Nat.zero_le _
 ·exact Nat.zero_le _
theorem jY (v:NV) (n:Nat):(iO v n).length=n:=by simp [iO]
theorem shp_eq (a b:Shp):((a.k==b.k)&&((a.n==b.n)&&(((mkB a.nm).toList==(mkB b.nm).toList)&&true)))=decide (a=b):=by
 obtain ⟨a1,a2,a3⟩:=a
 obtain ⟨b1,b2,b3⟩:=b
 rw [eX]
 by_cases h1:a1=b1<;>by_cases h2:a2=b2<;>by_cases h3:a3=b3<;>simp [h1,h2,h3]
theorem specC_def (s:Shp) (p:Int) (r:List Int):dX N D s (p::r)=if shp N p=s then some (iO (nS N p) (fH D s)++r) else if shp N p=⟨0,0,[]⟩ then some (List.replicate (fH D s) (-1)++r) else none:=rfl
theorem nL (h:Ask σ A pn N cn pd D cd steps) (s:Shp) {q:Option Addr} {k:Nat} {p:Int} {r:List Int} (hr:RI σ (· =A) q k (p::r)) (hl:r.length≤100000000000):
  WpF aF ovD 38 [bU A,.slice q (r.length+1) k,shV s] σ fun v σ'=>∃ q' k',v=.tuple #[.slice q' ((dX N D s (p::r)).getD []).length k',.bool (dX N D s (p::r)).isSome]∧RI σ' (fun j=>j<σ.n) q' k' ((dX N D s (p::r)).getD [])∧Frm σ σ' NoB:=by
 refine WpF.of (T38_eq _ _ _ _ _ _ _) rfl ?_
 rw [T38]
 refine aN fun σ1 hF1 hn1 hS1=>?_
 refine rV (hr.frm hF1) rfl ?_
 simp only [wpS]
 rw [aD]
 refine WpF.mono (wp_at63 (h.frm hF1) p) ?_
 rintro _ σ2 ⟨cs,rfl,hcs,hF2⟩
 have hs1:=specC_def (N:=N) (D:=D) s p r
 generalize hv:nS N p=v at hcs hs1
 obtain ⟨qk,kk,rfl,hrow,hemp⟩:=hcs
 simp only [wpS]
 have hn2:=hF2.n
 refine aN fun σ3 hF3 hn3 hS3=>?_
 generalize hZ:σ2.n=Z at hS3
 refine bD hS3 rfl rfl fun σ4 hF4 hn4 hS4=>?_
 have hF24:Frm σ2 σ4 NoB:=hF3.fresh hF4 fun j hj h=>by omega
 have hF14:=hF2.seq hF24
 have hF04:=hF1.seq hF14
 rw [aP (hF14.stN hS1) 3 rfl]
 simp only [wpS]
 rw [aD]
 refine WpF.mono (wp_many64 (h.frm hF04) s) ?_
 rintro _ σ5 ⟨rfl,hF5⟩
 simp only [wpS]
 have hm:=manyC_le h.al s
 generalize hM:fH D s=m at hs1 hm
 have hF05:=hF04.seq hF5
 refine rV (hr.frm hF05) rfl ?_
 simp only [wpS]
 rw [aD]
 refine WpF.mono (nB (h.frm hF05) p) ?_
 rintro _ σ6 ⟨rfl,hF6⟩
 unfold shV
 simp only [wpS]
 have hF06:=hF05.seq hF6
 rw [aP ((hF14.seq (hF5.seq hF6)).stN hS1) 3 rfl]
 simp only [wpS]
 have hS6:=(hF5.seq hF6).stN hS4
 have hF26:=hF24.seq (hF5.seq hF6)
 have hrow6:=hrow.later hF26
 have hr6:=hr.frm hF06
 have fin:∀ (out:List Int) (b:Nat) (po:Option Addr) (c:Nat) (τ:aB),out.length≤1000000→Frm σ6 τ NoB→SlV τ b po c (out.map sF)→(po≠none→σ.n≤b)→dX N D s (p::r)=some (out++r)→
   Wp aF ovD (T38k6 (r.length+1) k q .normal [.bool false,.slice none 0 0,.slice po out.length c]) τ fun _ vs σ'=>∃ w,vs=[w]∧∃ q' k',w=.tuple #[.slice q' ((dX N D s (p::r)).getD []).length k',.bool (dX N D s (p::r)).isSome]∧RI σ' (fun j=>j<σ.n) q' k' ((dX N D s (p::r)).getD [])∧Frm σ σ' NoB:=by
  intro out b po c τ hol hF hO hb he
  simp only [wpS,T38k6]
  rw [aV]
  refine ⟨grd_cut hr rfl,?_⟩
  have hrτ:=(hr6.frm hF).cut
  rw [show r.length+1 - 1=r.length from rfl]
  refine sJ (ys:=r.map sF) hO (by simp) (hrτ.row.src (fun _ _ h=>h) hrτ.emp) (by simp) (by intro y hy;obtain ⟨z,_,rfl⟩:=List.mem_map.1 hy;rfl) (by omega) (by omega) fun σ7 b7 p7 c7 hF7 hb7 hO7=>?_
  simp only [wpS]
  rw [he]
  simp only [Option.getD_some,Option.isSome_some,List.length_append]
  refine ⟨_,rfl,p7,c7,rfl,RI.own (by simpa using hO7) ?_,(hF06.seq hF).fresh hF7 fun j hj h=>by have:=hb h.1;omega⟩
  intro h1 h2
  have hnτ:=(hF06.seq hF).n
  rcases hb7 with h3|⟨h3,h4⟩|h3
  ·exact h1 h3
  ·have:=hb h3;omega
  ·omega
 have hsp:((shp N p).k==s.k&&((shp N p).n==s.n&&((mkB (shp N p).nm).toList==(mkB s.nm).toList&&true)))=decide (shp N p=s):=shp_eq _ _
 have hsp0:((shp N p).k==0&&((shp N p).n==0&&((mkB (shp N p).nm).toList==(bs []).toList&&true)))=decide (shp N p=⟨0,0,[]⟩):=shp_eq _ ⟨0,0,[]⟩
 rw [aC,hsp]
 by_cases c1:shp N p=s
 ·rw [if_pos c1] at hs1
  rw [if_pos (by simpa using c1)]
  refine Wp.count m (fun i st σ'=>∃ b po c,st=[.int .i64 ((i:Nat):Int),.slice po i c]∧Frm σ6 σ' NoB∧SlV σ' b po c (((iO v m).take i).map sF)∧(po≠none→σ6.n≤b)) ⟨0,none,0,rfl,Frm.refl _ _,.inl ⟨rfl,rfl,by simp⟩,fun h=>absurd rfl h⟩ ?_ ?_
  ·rintro i st τ hi ⟨b,po,c,rfl,hF,hO,hb⟩
   have ei:aO ((i:Int)+1)=((i+1:Nat):Int):=by rw [aS (by omega)];omega
   have hSτ:=hF.stN hS6
   have hik:i<(iO v m).length:=by rw [jY];exact hi
   have hil:((iO v m).take i).length=i:=by rw [List.length_take];omega
   have put:∀ z:Int,(iO v m)[i]=z→Wp aF ovD (T38k0 po i c .normal [.int .i64 z]) τ fun e vs σ'=>Wp aF ovD (T38k1 ((i:Nat):Int) e vs) σ' fun e st' σ'=>match e with
     | .normal=>∃ b po c,st'=[.int .i64 ((i+1:Nat):Int),.slice po (i+1) c]∧Frm σ6 σ' NoB∧SlV σ' b po c (((iO v m).take (i+1)).map sF)∧(po≠none→σ6.n≤b)
     |e=>Wp aF ovD (T38k2 e st') σ' fun e vs σ'=>Wp aF ovD (T38k5 e vs) σ' fun e vs σ'=>Wp aF ovD (T38k6 (r.length+1) k q e vs) σ' fun _ vs σ'=>∃ w,vs=[w]∧∃ q' k',w=.tuple #[.slice q' ((dX N D s (p::r)).getD []).length k',.bool (dX N D s (p::r)).isSome]∧RI σ' (fun j=>j<σ.n) q' k' ((dX N D s (p::r)).getD [])∧Frm σ σ' NoB:=by
    intro z hz
    simp only [wpS,T38k0]
    refine wp_app1 hO (by rw [List.length_map,hil]) rfl (by omega) (by omega) fun τ2 b2 off2 s2 c2 hF2 hb2 hO2=>?_
    simp only [wpS,T38k1,ei]
    refine ⟨b2,_,c2,rfl,hF.fresh hF2 fun j hj h=>by have:=hb h.1;omega,.inr ⟨off2,s2,rfl,?_⟩,fun _=>?_⟩
    ·rw [List.take_succ_eq_append_getElem hik,List.map_append,hz]
     exact hO2
    ·have:=hF.n
     rcases hb2 with ⟨h1,h2⟩|h1
     ·have:=hb h1;omega
     ·omega
   have hkz:(iO v m)[i]=if i<v.kids.length then ((v.kids.getD i 0:Nat):Int) else -1:=by simp [iO]
   unfold T38b0
   simp only [wpS]
   rw [aC,if_pos (by simp;omega),aK,aE hSτ (v:=.slice qk v.kids.length kk) rfl]
   simp only [wpS]
   rw [aC]
   by_cases hik2:i<v.kids.length
   ·rw [if_pos (by simp;omega),aE hSτ (v:=.slice qk v.kids.length kk) rfl]
    simp only [wpS]
    refine cR (hrow6.later hF) hik2 rfl fun cs hcs=>⟨_,hcs,?_⟩
    simp only [wpS]
    refine put _ ?_
    rw [hkz,if_pos hik2,List.getD_eq_getElem?_getD,List.getElem?_eq_getElem hik2]
    try rfl
   ·rw [if_neg (by simp;omega)]
    simp only [wpS]
    exact put _ (by rw [hkz,if_neg hik2])
  ·rintro st τ ⟨b,po,c,rfl,hF,hO,hb⟩
   unfold T38b0
   simp only [wpS]
   rw [aC,if_neg (by simp)]
   simp only [wpS,T38k2,T38k5]
   have e1:(iO v m).take m=iO v m:=List.take_of_length_le (by rw [jY];exact Nat.le_refl _)
   rw [e1] at hO
   have:=fin (iO v m) b po c τ (by rw [jY];exact hm) hF hO (fun h=>by have:=hb h;have:=hF06.n;omega) hs1
   rw [jY] at this
   exact this
 ·rw [if_neg c1] at hs1
  rw [if_neg (by simpa using c1),aC,hsp0]
  by_cases c2:shp N p=⟨0,0,[]⟩
  ·rw [if_pos c2] at hs1
   rw [if_pos (by simpa using c2)]
   refine Wp.count m (fun i st σ'=>∃ b po c,st=[.int .i64 ((i:Nat):Int),.slice po i c]∧Frm σ6 σ' NoB∧SlV σ' b po c ((List.replicate i (-1)).map sF)∧(po≠none→σ6.n≤b)) ⟨0,none,0,rfl,Frm.refl _ _,.inl ⟨rfl,rfl,by simp⟩,fun h=>absurd rfl h⟩ ?_ ?_
   ·rintro i st τ hi ⟨b,po,c,rfl,hF,hO,hb⟩
    have ei:aO ((i:Int)+1)=((i+1:Nat):Int):=by rw [aS (by omega)];omega
    unfold T38b1
    simp only [wpS]
    rw [aC,if_pos (by simp;omega),aK]
    refine wp_app1 hO (by rw [List.length_map,List.length_replicate]) rfl (by omega) (by omega) fun τ2 b2 off2 s2 c2 hF2 hb2 hO2=>?_
    simp only [wpS,T38k3,ei]
    refine ⟨b2,_,c2,rfl,hF.fresh hF2 fun j hj h=>by have:=hb h.1;omega,.inr ⟨off2,s2,rfl,?_⟩,fun _=>?_⟩
    ·rw [List.replicate_succ',List.map_append]
     exact hO2
    ·have:=hF.n
     rcases hb2 with ⟨h1,h2⟩|h1
     ·have:=hb h1;omega
     ·omega
   ·rintro st τ ⟨b,po,c,rfl,hF,hO,hb⟩
    unfold T38b1
    simp only [wpS]
    rw [aC,if_neg (by simp)]
    simp only [wpS,T38k4,T38k5]
    have:=fin (List.replicate m (-1)) b po c τ (by rw [List.length_replicate];exact hm) hF hO (fun h=>by have:=hb h;have:=hF06.n;omega) hs1
    rw [List.length_replicate] at this
    exact this
  ·rw [if_neg c2] at hs1
   rw [if_neg (by simpa using c2)]
   simp only [wpS,T38k5,T38k6]
   rw [hs1]
   exact ⟨_,rfl,none,0,rfl,RI.nil,hF06⟩
end
end Go.Pg
namespace Go.Pg
open Go.Proofs Go.Utf8 Go.Lib
set_option linter.unusedSimpArgs false
set_option maxRecDepth 100000 in
theorem zero4:dJ aF 4=some (.bool false):=by
 have h:aF.info? 4=some Tryz.t4:=rfl
 unfold dJ
 rw [h]
 try rfl
theorem agg91 (a b:Shp):kJ aF 91 [.int .i64 a.k,.int .i64 a.n,.string (mkB a.nm)] [.int .i64 b.k,.int .i64 b.n,.string (mkB b.nm)]=some (decide (a=b)):=by
 unfold kJ
 rw [show aF.underlying 91=_ from Tryz.underlying91]
 simp only
 rw [show aF.stoodInHeld 91=false from Tryz.stoodInHeld91,show aF.eqGuardType aF.depth 91=false from Tryz.eqGuardType91]
 simp only [Bool.not_false,Bool.and_true,cond_true]
 have e3:aF.underlying 3=_:=Tryz.underlying3
 have e2:aF.underlying 2=_:=Tryz.underlying2
 have e9:aF.underlying 9=_:=Tryz.underlying9
 have n1:(("kind" :String)== "_")=false:=by decide
 have n2:(("n" :String)== "_")=false:=by decide
 have n3:(("name" :String)== "_")=false:=by decide
 simp only [kQ,n1,n2,n3,cond_false,partV,e3,e2,e9,oF,List.getElem?_cons_zero,List.getElem?_cons_succ,oJ,decide_true,Bool.and_self,cond_true,Bool.and_true]
 rw [←shp_eq,Bool.and_true]
theorem flat91 (s:Shp):nN aF 91 (shV s)=true:=by
 unfold nN shV
 simp only
 rw [agg91]
 try rfl
theorem scEqL_shp (a b:Shp):scEqL [.int .i64 a.k,.int .i64 a.n,.string (mkB a.nm)] [.int .i64 b.k,.int .i64 b.n,.string (mkB b.nm)]=decide (a=b):=by
 rw [←shp_eq]
 have e2:((mkB a.nm).toList==(mkB b.nm).toList)=decide ((mkB a.nm).data.toList=(mkB b.nm).data.toList):=by
  rw [eX]
  exact decide_eq_decide.2 Iff.rfl
 rw [e2]
 simp only [scEqL,scEq,decide_true,Bool.true_and,Bool.and_true]
 congr 1
theorem cmp91 (a b:Shp):dA aF 91 (shV a) (shV b)=some (decide (a=b)):=by
 unfold dA shV
 simp only
 rw [agg91,scEqL_shp]
 simp only [beq_self_eq_true,cond_true]
 try rfl
theorem mapFindA_cons (c:Value→Value→Option Bool) (k k' v:Value) (r:List (Value × Value)):dH c k ((k',v)::r)=match c k k' with
 |some true=>some (some v)
 |some false=>dH c k r
 |none=>none:=rfl
theorem mapSetA_cons (c:Value→Value→Option Bool) (k v k' v':Value) (r:List (Value × Value)):fF c k v ((k',v')::r)=match c k k' with
 |some true=>some ((k,v)::r)
 |some false=>match fF c k v r with
  |some r'=>some ((k',v')::r')
  |none=>none
 |none=>none:=rfl
def esS (l:List Shp):List (Value × Value):=l.map fun s=>(shV s,.bool true)
theorem find91 (s:Shp):∀ l:List Shp,dH (dA aF 91) (shV s) (esS l)=some (if s∈l then some (.bool true) else none)
 |[]=>rfl
 |x::l=>by
  rw [show esS (x::l)=(shV x,.bool true)::esS l from rfl,mapFindA_cons,cmp91]
  by_cases h:s=x
  ·rw [decide_eq_true h,if_pos (by rw [h];simp)]
  ·rw [decide_eq_false h]
   simp only
   rw [find91 s l]
   by_cases h2:s∈l
   ·rw [if_pos h2,if_pos (by simp [h2])]
   ·rw [if_neg h2,if_neg (by simp [h,h2])]
theorem set91 (s:Shp):∀ l:List Shp,s∉l→fF (dA aF 91) (shV s) (.bool true) (esS l)=some (esS (l++[s]))
 |[],_=>rfl
 |x::l,h=>by
  rw [show esS (x::l)=(shV x,.bool true)::esS l from rfl,mapSetA_cons,cmp91,decide_eq_false (fun e=>h (by rw [e];simp))]
  simp only
  rw [set91 s l fun e=>h (by simp [e])]
  try rfl
theorem lookup127 {σ:aB} {q:Nat} {l:List Shp} (h:σ.get q=some (.map (esS l))) (s:Shp):fV aF 127 (.map (some q)) (shV s) false σ=some (.bool (decide (s∈l)),σ):=by
 unfold fV
 rw [show aF.underlying 127=_ from Tryz.underlying127]
 simp only
 rw [show aF.underlying 91=_ from Tryz.underlying91,zero4]
 simp only
 rw [show lR _ (shV s)=false from rfl,flat91]
 have hm:σ.getMap q=some (esS l):=by unfold aB.getMap;rw [h]
 simp only [cond_false,cond_true,hm,Option.map_some,find91]
 by_cases hs:s∈l
 ·rw [if_pos hs,decide_eq_true hs]
 ·rw [if_neg hs,decide_eq_false hs]
theorem lookup127' {σ:aB} {q:Nat} {l:List Shp} (h:σ.get q=some (.map (esS l))) (s:Shp):fV aF 127 (.map (some q)) (.agg #[.int .i64 s.k,.int .i64 s.n,.string (mkB s.nm)]) false σ=some (.bool (decide (s∈l)),σ):=by
 have e:=lookup127 h s
 unfold shV at e
 exact e
theorem update127 {σ:aB} {q:Nat} {l:List Shp} (h:σ.get q=some (.map (esS l))) {s:Shp} (hs:s∉l):gW aF 127 (.map (some q)) (.agg #[.int .i64 s.k,.int .i64 s.n,.string (mkB s.nm)]) (.bool true) σ=some (.tuple #[],σ.put q (.map (esS (l++[s])))):=by
 have e:gW aF 127 (.map (some q)) (shV s) (.bool true) σ=some (.tuple #[],σ.put q (.map (esS (l++[s])))):=by
  unfold gW
  rw [show aF.underlying 127=_ from Tryz.underlying127]
  simp only
  rw [show aF.underlying 91=_ from Tryz.underlying91]
  simp only
  rw [show lR _ (shV s)=false from rfl,flat91]
  have hm:σ.getMapW q=some (esS l):=by unfold aB.getMapW;rw [h]
  rw [hm]
  simp only [Bool.false_and,cond_false,Bool.true_and]
  rw [show iF (.bool true)=true from rfl,cond_true,set91 s l hs]
 unfold shV at e
 exact e
theorem wp_mkMap {P:Program} {ov:Ov} {σ:aB} {g:Option Nat→Pg} {Q:cJ} (k:∀ σ',Frm σ σ' NoB→σ'.n=σ.n+1→σ'.get σ.n=some (.map [])→Wp P ov (g (some σ.n)) σ' Q):Wp P ov (.act eC fun v=>asMap v g) σ Q:=by
 rw [aZ,show eC σ=some (.map (some σ.n),σ.push (.map [])) from rfl]
 simp only [asMap_map]
 refine k _ ⟨by simp [aB.push],rfl,fun _ hj _=>oL σ _ hj,fun f j hj=>by
  simp only [aB.push] at hj
  rw [aB.get_push,if_neg (by omega)]
  exact f j (by omega)⟩ rfl (by rw [aB.get_push,if_pos rfl])
end Go.Pg
namespace Go.Pg
open Go.Proofs Go.Utf8 Go.Lib
set_option linter.unusedSimpArgs false
section
variable {σ:aB}
theorem past_kd {h:Act} {v:Value} {σ τ:aB} (e:h σ=some (v,τ)):past h v [σ]=true:=by
 simp [past,qC,e,oA]
theorem wp_texts86 {v:NV} (q:Option Addr) (c:Nat) (hn:fY v.x.k v.x.nm=true) (hp:mG v.x.k v.x.pm=true):WpF aF ovD 86 [.agg (nvC v q c).toArray] σ fun w σ'=>w=.bool true∧Frm σ σ' NoB:=by
 have p:∀ {σ:aB} {K:Ex→List Value→Pg},(∀ x,K .normal [.bool x]=.ret .normal [.bool x])→∀ x,EvB (K .normal [.bool x]) σ x:=fun h=>EvB.pass h
 refine WpF.of (T86_eq _ _ _ _ _ _ _ _ _) rfl ?_
 rw [T86]
 refine aN fun σ1 hF1 hn1 hS1=>?_
 generalize σ.n=A at hS1
 have hS1:St σ1 A (nvC v q c):=hS1
 rw [aE hS1 rfl]
 simp only [wpS]
 rw [aE hS1 rfl]
 simp only [wpS]
 rw [aE hS1 rfl]
 simp only [wpS]
 have fin:∀ τ,Frm σ1 τ NoB→Wp aF ovD (T86k9 .normal [.bool true,.bool true]) τ fun _ vs σ'=>∃ w,vs=[w]∧w=.bool true∧Frm σ σ' NoB:=by
  intro τ hτ
  simp only [wpS,T86k9]
  exact ⟨_,rfl,rfl,hF1.seq hτ⟩
 refine EvB.wp (EvB.cond (EvB.join (EvB.cond (EvB.ret _ _)) (p fun x=>by simp only [wpS,T86k0]))) ?_
 simp only [wpS,T86k8]
 unfold fY at hn
 unfold mG at hp
 rw [aC]
 by_cases c1:v.x.k=4∨v.x.k=8∨v.x.k=22
 ·rw [if_pos (by omega)] at hn
  rw [if_neg (by omega)] at hp
  rw [if_pos (by simpa using c1),aE hS1 rfl]
  simp only [wpS]
  rw [aD]
  refine jE hn fun τ hτ=>?_
  simp only [wpS,cA,hp,T86k7]
  exact fin τ hτ
 rw [if_neg (by simpa using c1),aK,aC]
 by_cases c2:v.x.k=9
 ·rw [if_pos (by omega)] at hn
  rw [if_pos (by omega)] at hp
  rw [if_pos (by simpa using c2),aE hS1 rfl]
  simp only [wpS]
  rw [fD,aD]
  refine jE hn fun τ hτ=>?_
  simp only [wpS]
  rw [aE (hτ.stN hS1) rfl,aV]
  refine ⟨past_kd (hS1.ldF rfl),?_⟩
  simp only [wpS]
  rw [aD]
  refine jE hp fun τ2 hτ2=>?_
  simp only [wpS,T86k6,T86k7]
  exact fin τ2 (hτ.seq hτ2)
 rw [if_neg (by simpa using c2),aK]
 refine EvB.wp (EvB.cond (EvB.ret _ _)) ?_
 simp only [wpS,T86k5]
 rw [aC]
 by_cases c3:v.x.k=6∨v.x.k=20
 ·rw [if_neg (by omega),if_neg (by omega),if_neg (by omega)] at hn
  rw [if_pos (by omega)] at hp
  rw [if_pos (by simpa using c3),aE hS1 rfl]
  simp only [wpS]
  rw [aD]
  refine jE hp fun τ hτ=>?_
  simp only [wpS,cA,hn,T86k4,T86k6,T86k7]
  exact fin τ hτ
 rw [if_neg (by omega)] at hp
 rw [if_neg (by simpa using c3),aK]
 refine EvB.wp (EvB.cond (EvB.ret _ _)) ?_
 simp only [wpS,T86k3]
 rw [if_neg (by omega)] at hn
 rw [aC]
 by_cases c4:v.x.k=5∨v.x.k=26
 ·rw [if_pos c4] at hn
  rw [if_pos (by simpa using c4),aE hS1 rfl]
  simp only [wpS]
  rw [aD]
  refine wp_isCon57 hn fun τ hτ=>?_
  simp only [wpS,cA,hp,T86k2,T86k4,T86k6,T86k7]
  exact fin τ hτ
 rw [if_neg c4] at hn
 rw [if_neg (by simpa using c4),aK,aC]
 by_cases c5:v.x.k=14
 ·rw [if_pos c5] at hn
  rw [if_pos (by simpa using c5),aZ,cV]
  have hF2:Frm σ1 (σ1.newBlk (([[43],[45],[42],[60],[61]]:List (List UInt8)).map fun t=>Value.string (mkB t)) 1) NoB:=Frm.new _ _ _ _
  have hR2:=Row.new σ1 1 (([[43],[45],[42],[60],[61]]:List (List UInt8)).map fun t=>Value.string (mkB t)) 5 (by decide) rfl (by intro y hy;obtain ⟨t,_,rfl⟩:=List.mem_map.1 hy;rfl)
  rw [show ([(.string (bs [43])),(.string (bs [45])),(.string (bs [42])),(.string (bs [60])),(.string (bs [61]))]:List Value)=([[43],[45],[42],[60],[61]]:List (List UInt8)).map fun t=>Value.string (mkB t) from rfl]
  generalize σ1.newBlk (([[43],[45],[42],[60],[61]]:List (List UInt8)).map fun t=>Value.string (mkB t)) 1=σ2 at hF2 hR2 ⊢
  simp only [wpS]
  rw [aE (hF2.stN hS1) rfl]
  simp only [wpS]
  rw [aD]
  refine WpF.mono (wp_index83 (l:=[[43],[45],[42],[60],[61]]) (gH (.inr ⟨0,1,rfl,hR2⟩)) (by decide) v.x.nm) ?_
  rintro _ _ ⟨rfl,rfl⟩
  have e:([[43],[45],[42],[60],[61]]:List (List UInt8)).contains v.x.nm=true:=by
   simp only [Bool.or_eq_true,decide_eq_true_eq] at hn
   rw [List.contains_iff_mem]
   simp only [List.mem_cons,List.not_mem_nil,or_false]
   rcases hn with (((h|h)|h)|h)|h<;>simp [h]
  simp only [wpS,e,cA,hp,T86k1,T86k2,T86k4,T86k6,T86k7]
  exact fin _ hF2
 ·rw [if_neg c5] at hn
  rw [if_neg (by simpa using c5)]
  simp only [wpS,cA,hn,hp,T86k1,T86k2,T86k4,T86k6,T86k7]
  exact fin σ1 (Frm.refl _ _)
theorem wp_alone62 {Y:Nat→Prop} {pn pd:Option Addr} {N:List NV} {D:List Dc} {cn cd:Nat} (hT:dF σ Y pn N pd D) (hD:D.length≤1000000) (hC:∀ d∈D,d.cons.length≤1000000) {v:NV} (q:Option Addr) (k:Nat) (hs:bS v=true) (hk:v.kids.length≤1000) (hc:v.x.k=5∨v.x.k=26→∃ x,ofD v.x.nm 0 D=some x∧x.2.2=v.kids.length):
  WpF aF ovD 62 [trV pn N.length cn pd D.length cd,.agg (nvC v q k).toArray] σ fun w σ'=>w=.bool true∧Frm σ σ' NoB:=by
 unfold bS at hs
 simp only [Bool.and_eq_true,decide_eq_true_eq] at hs
 obtain ⟨⟨⟨⟨⟨h1,h2⟩,h3⟩,h4⟩,h5⟩,h6⟩:=hs
 obtain ⟨k1,k2,k3⟩:=kidsR_ok h1 h2 h3 hk
 refine WpF.of (T62_eq _ _ _ _ _ _ _ _ _ _ _ _ _ _ _) rfl ?_
 rw [T62]
 refine aN fun σ1 hF1 hn1 hS1=>?_
 generalize σ.n=A at hS1
 refine aN fun σ2 hF2 hn2 hS2=>?_
 have hS12:=hF2.stN hS1
 generalize σ1.n=B at hS2
 have hS2:St σ2 B (nvC v q k):=hS2
 have hF02:=hF1.seq hF2
 rw [aK,aE hS2 rfl]
 simp only [wpS]
 rw [aC,if_pos (by simp;omega),aE hS2 rfl]
 simp only [wpS]
 rw [aC,if_pos (by simp;omega),aP hS2 7 rfl]
 have ev:∀ {f:List Value→Pg},asAgg (.agg (nvC v q k).toArray) f=f (nvC v q k):=fun {f}=>by rw [mK]
 unfold nvC at hS2 ⊢
 simp only [wpS]
 rw [aD]
 refine WpF.mono (wp_number85 q k h4) ?_
 rintro _ σ3 ⟨rfl,hF3⟩
 simp only [wpS]
 have hS3:=hF3.stN hS2
 rw [aC,if_pos (by rfl),aP hS3 7 rfl]
 simp only [wpS]
 rw [aD]
 refine WpF.mono (wp_texts86 q k h5 h6) ?_
 rintro _ σ4 ⟨rfl,hF4⟩
 have hS4:=hF4.stN hS3
 have hS14:=(hF3.seq hF4).stN hS12
 have hF04:=hF02.seq (hF3.seq hF4)
 have hT4:=hT.frm hF04
 simp only [wpS,T62k3,Bool.not_true]
 rw [aC,if_neg (by simp),aE hS4 rfl]
 simp only [wpS]
 rw [aD,WpF.eq (ev_kids87 v.x.k)]
 simp only [wpS]
 rw [aE hS4 (i:=4) rfl]
 simp only [wpS]
 rw [aC,if_pos (by simp;omega),aE hS4 (i:=4) rfl]
 simp only [wpS]
 rw [aC,if_pos (by simp;omega),aE hS4 (i:=0) rfl]
 simp only [wpS]
 have next:Wp aF ovD (T62k2 ⟨B,0,some 0⟩ ⟨A,0,some 0⟩ .normal [.bool false]) σ4 fun _ vs σ'=>∃ w,vs=[w]∧w=.bool true∧Frm σ σ' NoB:=by
  simp only [wpS,T62k2]
  rw [aC,if_neg (by simp),aK,aE hS4 (i:=0) rfl]
  simp only [wpS]
  have cont:∀ b:Bool,(b=true↔¬ (v.x.k=5∨v.x.k=26))→Wp aF ovD (T62k1 ⟨A,0,some 0⟩ ⟨B,0,some 0⟩ .normal [.bool b]) σ4 fun _ vs σ'=>∃ w,vs=[w]∧w=.bool true∧Frm σ σ' NoB:=by
   intro b hb
   simp only [wpS,T62k1]
   rw [aC]
   by_cases hkk:v.x.k=5∨v.x.k=26
   case neg=>
    rw [if_pos (hb.2 hkk)]
    simp only [wpS]
    exact ⟨_,rfl,rfl,hF04⟩
   rw [if_neg fun h=>hb.1 h hkk,aP hS14 2 rfl]
   simp only [wpS]
   rw [aE hS4 (i:=2) rfl]
   simp only [wpS]
   rw [aD]
   refine WpF.mono (wp_Of30 hT4.decls hD hC v.x.nm) ?_
   rintro _ σ5 ⟨rfl,hF5⟩
   obtain ⟨⟨d,c,m⟩,hof,hm⟩:=hc hkk
   have hS5:=hF5.stN hS4
   have hS15:=hF5.stN hS14
   have hT5:=hT4.frm hF5
   obtain ⟨_,g1,g2,g3⟩:=mC _ _ _ _ hof
   simp only [Nat.sub_zero] at g1 g2 g3 hm
   rw [hof,sQ]
   simp only [wpS]
   rw [aC,if_pos (by rfl),aE hS15 rfl]
   simp only [wpS]
   refine cO hT5.decls g1 rfl (o:=1) (by decide) fun cs hcs=>?_
   obtain ⟨q1,k1,rfl,hr1⟩:=hcs
   refine ⟨_,rfl,?_⟩
   simp only [wpS]
   refine cO hr1 g2 rfl (o:=1) (by decide) fun cs hcs=>?_
   obtain ⟨q2,k2,rfl,_,_⟩:=hcs
   refine ⟨_,rfl,?_⟩
   simp only [wpS]
   rw [aE hS5 (i:=4) rfl]
   simp only [wpS,T62k0]
   exact ⟨_,rfl,by rw [g3,hm];simp,hF04.seq hF5⟩
  rw [aC]
  by_cases k5:v.x.k=5
  ·rw [if_neg (by simp [k5])]
   simp only [wpS]
   exact cont false ⟨fun h=>Bool.noConfusion h,fun h=>absurd (Or.inl k5) h⟩
  ·rw [if_pos (by simpa using k5),aE hS4 (i:=0) rfl]
   simp only [wpS]
   refine cont _ ?_
   rw [bne_iff_ne]
   constructor
   ·rintro h (h'|h')
    ·exact k5 h'
    ·exact h h'
   ·exact fun h h'=>h (.inr h')
 rw [aC]
 by_cases k11:v.x.k=11
 ·rw [if_pos (by simpa using k11),aE hS4 (i:=4) rfl]
  simp only [wpS]
  rw [aD]
  refine WpF.of (T36_eq _) rfl ?_
  rw [T36]
  simp only [wpS]
  refine ⟨_,rfl,?_⟩
  have e:(Int.tmod ((v.kids.length:Nat):Int) 2==1)=true:=by
   rw [Int.tmod_eq_emod_of_nonneg (by omega),beq_iff_eq]
   have:=k3 k11
   omega
  simp only [wpS,e,Bool.not_true]
  exact next
 ·rw [if_neg (by simpa using k11)]
  simp only [wpS]
  exact next
theorem same_str (a b:List UInt8):Instr.sameNow .string (.string (mkB a)) (.string (mkB b))=some (decide (a=b)):=by
 show some (a.toArray==b.toArray)=_
 by_cases h:a=b
 ·simp [h]
 ·simp [h]
def esT (l:List (List UInt8)):List (Value × Value):=l.map fun s=>(.string (mkB s),.bool true)
theorem find_esT (s:List UInt8):∀ l:List (List UInt8),s∉l→dK .string (.string (mkB s)) (esT l)=some none
 |[],_=>rfl
 |t::l,h=>by
  unfold esT
  rw [List.map_cons,dK,same_str,decide_eq_false fun e=>h (by simp [e])]
  exact find_esT s l fun h2=>h (by simp [h2])
theorem set_esT (s:List UInt8):∀ l:List (List UInt8),s∉l→gO .string (.string (mkB s)) (.bool true) (esT l)=some (esT (l++[s]))
 |[],_=>rfl
 |t::l,h=>by
  unfold esT
  rw [List.map_cons,gO,same_str,decide_eq_false fun e=>h (by simp [e])]
  simp only
  have:=set_esT s l fun h2=>h (by simp [h2])
  unfold esT at this
  rw [this]
  try rfl
theorem twiceM_ne {l:List (List UInt8)} (h:cM l=false) {j:Nat} (hj:j<l.length):l[j]∉l.take j:=by
 intro hm
 obtain ⟨i,hi,he⟩:=List.mem_iff_getElem.1 hm
 rw [List.getElem_take] at he
 rw [List.length_take] at hi
 rw [twiceM_true hj (by omega:i<j) he.symm] at h
 cases h
theorem qQ {Y:Nat→Prop} {l:List (List UInt8)} {p:Option Addr} {c:Nat} (h:aT σ Y 1 (pQ σ Y) p l) (hl:l.length≤1000000000) (ht:cM l=false):
  WpF aF ovD 34 [.slice p l.length c] σ fun v σ'=>v=.bool false∧Frm σ σ' NoB:=by
 refine WpF.of (T34_eq _ _ _) rfl ?_
 rw [T34]
 refine wp_mkMap fun σ1 hF1 hn1 hM1=>?_
 generalize hA:σ.n=A at hM1 hn1
 refine Wp.count l.length (fun j st σ'=>st=[.int .i64 ((j:Nat):Int),.bool false]∧Frm σ σ' NoB∧σ'.get A=some (.map (esT (l.take j)))∧A<σ'.n) ⟨rfl,hF1,by simpa [esT] using hM1,by omega⟩ ?_ ?_
 ·rintro j st σ2 hj ⟨rfl,hF2,hM2,hn2⟩
  have ej:aO ((j:Int)+1)=((j+1:Nat):Int):=by rw [aS (by omega)];omega
  have hne:=twiceM_ne ht hj
  unfold T34b0
  simp only [wpS]
  rw [aC,if_pos (by simp;omega),aK]
  refine cR (h.later hF2) hj rfl fun cs hcs=>⟨_,hcs,?_⟩
  simp only [wpS]
  have e1:lkp .string (.bool false) (some A) (.string (mkB l[j])) false σ2=some (.bool false,σ2):=by
   unfold lkp aB.getMap
   simp only [hM2,Option.map_some,find_esT _ _ hne]
   try rfl
  rw [aZ,e1]
  simp only [wpS]
  rw [aC,if_neg (by simp)]
  have e2:mup .string (some A) (.string (mkB l[j])) (.bool true) σ2=some (.tuple #[],σ2.put A (.map (esT (l.take (j+1))))):=by
   unfold mup aB.getMapW
   simp only [hM2,set_esT _ _ hne]
   rw [List.take_succ_eq_append_getElem hj]
  rw [aZ,e2]
  simp only [wpS,T34k0,ej]
  exact ⟨trivial,hF2.putNew (by omega) hn2 _,dI _ _ _,hn2⟩
 ·rintro st σ2 ⟨rfl,hF2,hM2,hn2⟩
  unfold T34b0
  simp only [wpS]
  rw [aC,if_neg (by simp)]
  simp only [wpS,T34k1]
  exact ⟨_,rfl,rfl,hF2⟩
end
end Go.Pg
namespace Go.Pg
open Go.Proofs Go.Utf8 Go.Lib
set_option linter.unusedSimpArgs false
def asD (D:List Dc):List (List UInt8):=D.flatMap fun d=>d.cons.flatMap (·.args)
section
variable {σ σ':aB} {X:Nat→Prop} {lo b c:Nat} {p:Option Addr} {l:List (List UInt8)} {P:Program} {ov:Ov}
structure lX (lo:Nat) (σ:aB) (X:Nat→Prop) (b:Nat) (p:Option Addr) (c:Nat) (l:List (List UInt8)):Prop where
 row:SlE σ b p c 1 (l.map cW)
 lo:p≠none→lo≤b
 no:p≠none→¬ X b
theorem lX.nil:lX lo σ X b none 0 []:=⟨.inl ⟨rfl,rfl,rfl⟩,fun h=>absurd rfl h,fun h=>absurd rfl h⟩
theorem lX.frm {S:Nat→Prop} (h:lX lo σ X b p c l) (f:Frm σ σ' S) (hS:p≠none→¬ S b):lX lo σ' X b p c l:=⟨h.row.frm f hS,h.lo,h.no⟩
theorem lX.x {X':Nat→Prop} (h:lX lo σ X b p c l) (hX:p≠none→b<σ.n→X' b→X b):lX lo σ X' b p c l:=⟨h.row,h.lo,fun hp h2=>h.no hp (hX hp (h.row.lt hp) h2)⟩
theorem wp_own1 (h:lX lo σ X b p c l) (hX:∀ j,X j→j<σ.n) (hlo:lo≤σ.n) (hl:l.length≤1000000) (t:List UInt8) {g:Option Addr→Nat→Nat→Pg} {Q:cJ}
  (K:∀ σ' b' p' c',Frm σ σ' (fun j=>p≠none∧j=b)→((p≠none∧b'=b)∨σ.n≤b')→lX lo σ' X b' p' c' (l++[t])→Wp P ov (g p' (l++[t]).length c') σ' Q):
  Wp P ov (.act (rJ 1 1 [.string (mkB t)]) fun v=>aM v fun p1 n1 c1=>.act (apS 1 16 p l.length c p1 n1 c1) fun w=>aM w g) σ Q:=by
 refine jQ (len:=l.length) h.row (by rw [List.length_map,Nat.mul_one]) (by decide) (by decide) rfl (by intro y hy;simp at hy;subst hy;rfl) (by omega) (by omega) fun σ1 b' off s c' hF hb hR=>?_
 have:=K σ1 b' (some ⟨b',off,some s⟩) c' hF hb ⟨.inr ⟨off,s,rfl,by rw [List.map_append];exact hR⟩,fun _=>by
  rcases hb with ⟨h1,rfl⟩|h1
  ·exact h.lo h1
  ·omega,fun _=>by
  rcases hb with ⟨h1,rfl⟩|h1
  ·exact h.no h1
  ·intro h2;have:=hX _ h2;omega⟩
 rw [List.length_append] at this
 exact this
theorem wp_ownX {Y:Nat→Prop} {q:Option Addr} {ts:List (List UInt8)} {n k:Nat} (h:lX lo σ X b p c l) (hX:∀ j,X j→j<σ.n) (hlo:lo≤σ.n) (hl:l.length+ts.length≤1000000) (hr:aT σ Y 1 (pQ σ Y) q ts) (he:Emp σ Y q) (hn:n=ts.length) {g:Option Addr→Nat→Nat→Pg} {Q:cJ}
  (K:∀ σ' b' p' c',Frm σ σ' (fun j=>p≠none∧j=b)→(p'≠none→(p≠none∧b'=b)∨σ.n≤b')→lX lo σ' X b' p' c' (l++ts)→Wp P ov (g p' (l++ts).length c') σ' Q):
  Wp P ov (.act (apS 1 16 p l.length c q n k) fun w=>aM w g) σ Q:=by
 subst hn
 refine sJ (n:=ts.length) h.row (by rw [List.length_map]) (aT.src (f:=cW) (fun _ _ h=>h) hr he) (by rw [List.length_map]) (by intro y hy;obtain ⟨t,_,rfl⟩:=List.mem_map.1 hy;rfl) (by omega) (by omega) fun σ1 b' p' c' hF hb hR=>?_
 have hb':p'≠none→(p≠none∧b'=b)∨σ.n≤b':=fun h=>hb.resolve_left h
 have:=K σ1 b' p' c' hF hb' ⟨by rw [List.map_append];exact hR,fun h0=>by
  rcases hb' h0 with ⟨h1,rfl⟩|h1
  ·exact h.lo h1
  ·omega,fun h0=>by
  rcases hb' h0 with ⟨h1,rfl⟩|h1
  ·exact h.no h1
  ·intro h2;have:=hX _ h2;omega⟩
 rw [List.length_append] at this
 exact this
end
section
variable {σ σ':aB} {Y:Nat→Prop}
theorem ev_basic56 (s:List UInt8):EvF aF ovD 56 [.string (mkB s)] σ (.bool (eB s)) σ:=by
 refine EvF.of (T56_eq _) rfl ?_
 rw [T56]
 simp only [wpS,cA]
 exact ⟨rfl,trivial⟩
theorem wp_ld0 {P:Program} {ov:Ov} {b:Nat} {v:Value} {cs:List Value} (h:St σ b (v::cs)) (g:Value→Pg) (Q:cJ):Wp P ov (.act (ld1 ⟨b,0,some 0⟩) g) σ Q=Wp P ov (g v) σ Q:=aE (i:=0) h rfl g Q
theorem asFunc_eq (f:FuncId) (x y:Array Value) (g:FuncId→List Value→List Value→Pg):rI (.func (.func f) x y) g=g f x.toList y.toList:=rfl
theorem wp_all61 {p:Option Addr} {c A B:Nat} {l ns:List (List UInt8)} {q:Option Addr} {k:Nat} (h:aT σ Y 1 (pQ σ Y) p l) (hl:l.length≤1000000000) (hA:St σ A [.slice q ns.length k]) (hN:aT σ NoB 1 (pQ σ NoB) q ns) (hns:ns.length≤1000000) (hB:St σ B [.func (.func 58) #[] #[.pointer (some ⟨A,0,some 0⟩)]])
  (ha:∀ t∈l,(ns.contains t||eB t)=true):
  WpF aF ovD 61 [.slice p l.length c,.func (.func 60) #[] #[.pointer (some ⟨B,0,some 0⟩)]] σ fun v σ'=>v=.bool false∧σ'=σ:=by
 refine WpF.of (T61_eq _ _ _ _) rfl ?_
 rw [T61,aD]
 refine WpF.of (T84_eq _ _ _ _) rfl ?_
 rw [T84]
 refine Wp.count l.length (fun j st σ'=>σ'=σ∧st=[.int .i64 ((j:Nat):Int),.int .i64 0]) ⟨rfl,rfl⟩ ?_ ?_
 ·rintro j st σ' hj ⟨rfl,rfl⟩
  have ej:aO ((j:Int)+1)=((j+1:Nat):Int):=by rw [aS (by omega)];omega
  have hk:=ha _ (List.getElem_mem hj)
  unfold T84b0
  simp only [wpS]
  rw [aC,if_pos (by simp;omega),aK]
  refine cR h hj rfl fun cs hcs=>⟨_,hcs,?_⟩
  simp only [wpS,asFunc_eq,List.nil_append,List.singleton_append]
  rw [aD]
  refine WpF.of (T60_eq _ _) rfl ?_
  rw [T60,wp_ld0 hB]
  simp only [asFunc_eq,List.nil_append,List.singleton_append]
  rw [aD]
  refine WpF.of (T58_eq _ _) rfl ?_
  have key:Wp aF ovD (T58k0 .normal [.bool true]) σ' fun _ vs σ'_1=>∃ v,vs=[v]∧Wp aF ovD (eR v fun b7=>.ret .ret [.bool !b7]) σ'_1 fun _ vs σ'_2=>∃ v,vs=[v]∧Wp aF ovD (eR v fun b18=>bif b18 then .ret .ret [.int .i64 ((j:Nat):Int)] else .ret .normal [.int .i64 0]) σ'_2 fun e vs σ'_3=>Wp aF ovD (T84k0 ((j:Nat):Int) e vs) σ'_3 fun e st' σ'_4=>match e with
    | .normal=>σ'_4=σ'∧st'=[.int .i64 ((j+1:Nat):Int),.int .i64 0]
    |e=>Wp aF ovD (T84k1 e st') σ'_4 fun _ vs σ'_5=>∃ v,vs=[v]∧Wp aF ovD (asInt .i64 v fun i5=>.ret .ret [.bool (decide (i5≥0))]) σ'_5 fun _ vs σ'_6=>∃ v,vs=[v]∧v=.bool false∧σ'_6=σ':=by
   simp only [wpS,T58k0]
   refine ⟨_,rfl,?_⟩
   simp only [wpS,Bool.not_true]
   refine ⟨_,rfl,?_⟩
   simp only [wpS]
   rw [aC,if_neg (by simp)]
   simp only [wpS,T84k0,ej]
   exact ⟨trivial,trivial⟩
  rw [T58,aK,aD,WpF.eq (ev_basic56 _)]
  simp only [wpS]
  rw [aC]
  cases hb:eB l[j] with
  |true=>
   rw [if_neg (by simp)]
   simp only [wpS]
   exact key
  |false=>
   rw [hb,Bool.or_false] at hk
   rw [if_pos (by rfl),wp_ld0 hA]
   simp only [wpS]
   rw [aD]
   refine WpF.mono (wp_index83 hN (by omega) l[j]) ?_
   rintro _ _ ⟨rfl,rfl⟩
   simp only [wpS,hk]
   exact key
 ·rintro st σ' ⟨rfl,rfl⟩
  unfold T84b0
  simp only [wpS]
  rw [aC,if_neg (by simp)]
  simp only [wpS,T84k1]
  refine ⟨_,rfl,?_⟩
  simp only [wpS]
  exact ⟨_,rfl,rfl,trivial⟩
theorem asD_len {D:List Dc} {m:Nat} (h:∀ d∈D,d.cons.length≤m∧∀ c∈d.cons,c.args.length≤3):(asD D).length≤D.length*(m*3):=by
 have h1:∀ l:List Cn,(∀ c∈l,c.args.length≤3)→(l.flatMap (·.args)).length≤l.length*3:=by
  intro l
  induction l with
  |nil=>intro _;simp
  |cons c l ih=>
   intro h
   rw [List.flatMap_cons,List.length_append,List.length_cons]
   have:=ih fun x hx=>h x (by simp [hx])
   have:=h c (by simp)
   omega
 induction D with
 |nil=>simp [asD]
 |cons d D ih=>
  unfold asD at ih ⊢
  rw [List.flatMap_cons,List.length_append,List.length_cons,Nat.succ_mul]
  have h2:=ih fun x hx=>h x (by simp [hx])
  obtain ⟨h3,h4⟩:=h d (by simp)
  have h5:=h1 d.cons h4
  have h6:d.cons.length*3≤m*3:=Nat.mul_le_mul_right 3 h3
  omega
theorem wp_decls31 {D:List Dc} {pd:Option Addr} {cd:Nat} (hT:aT σ Y 2 (dcR σ Y) pd D) (ht:eE D=true):WpF aF ovD 31 [.slice pd D.length cd] σ fun v σ'=>v=.bool true∧Frm σ σ' NoB:=by
 rw [typesM_eq] at ht
 simp only [Bool.and_eq_true,decide_eq_true_eq,Bool.not_eq_true',List.all_eq_true] at ht
 obtain ⟨⟨⟨⟨hok,hD20⟩,htn⟩,htc⟩,hargs⟩:=ht
 have hokd:∀ d∈D,tB d.nm=true∧eB d.nm=false∧1≤d.cons.length∧d.cons.length≤20∧∀ c∈d.cons,conM c.nm=true∧c.args.length≤3:=by
  intro d hd
  have:=hok d hd
  unfold okD okC at this
  simp only [Bool.and_eq_true,decide_eq_true_eq,Bool.not_eq_true',List.all_eq_true] at this
  obtain ⟨⟨⟨⟨a1,a2⟩,a3⟩,a4⟩,a5⟩:=this
  exact ⟨a1,a2,a3,a4,a5⟩
 clear hok
 have hcb:(cP D).length≤400:=Nat.le_trans (cnsD_len 20 D fun d hd=>(hokd d hd).2.2.2.1) (by omega)
 have hab:(asD D).length≤1200:=Nat.le_trans (asD_len (m:=20) fun d hd=>⟨(hokd d hd).2.2.2.1,fun c hc=>((hokd d hd).2.2.2.2 c hc).2⟩) (by omega)
 have htk:∀ {i:Nat} (hi:i<D.length),dB (D.take (i+1))=dB (D.take i)++[D[i].nm]∧cP (D.take (i+1))=cP (D.take i)++D[i].cons.map (·.nm)∧asD (D.take (i+1))=asD (D.take i)++D[i].cons.flatMap (·.args):=fun {i} hi=>by
  unfold dB cP asD
  rw [List.take_succ_eq_append_getElem hi,List.map_append,List.flatMap_append,List.flatMap_append]
  simp
 have hpre:∀ i,(dB (D.take i)).length≤20∧(cP (D.take i)).length≤400∧(asD (D.take i)).length≤1200:=fun i=>by
  have e1:cP D=cP (D.take i)++cP (D.drop i):=by unfold cP;rw [←List.flatMap_append,List.take_append_drop]
  have e2:asD D=asD (D.take i)++asD (D.drop i):=by unfold asD;rw [←List.flatMap_append,List.take_append_drop]
  rw [e1,List.length_append] at hcb
  rw [e2,List.length_append] at hab
  refine ⟨?_,by omega,by omega⟩
  unfold dB
  rw [List.length_map,List.length_take]
  omega
 refine WpF.of (T31_eq _ _ _) rfl ?_
 rw [T31]
 refine aN fun σ1 hF1 hn1 hS1=>?_
 generalize hA0:σ.n=A at hS1 hn1
 refine Wp.count D.length (fun i st σ'=>∃ ra qa ka rc qc kc rn qn kn,st=[.int .i64 ((i:Nat):Int),.slice qa (asD (D.take i)).length ka,.slice qc (cP (D.take i)).length kc,.bool false]∧St σ' A [.slice qn (dB (D.take i)).length kn]∧
   lX A σ' (· =A) rn qn kn (dB (D.take i))∧lX A σ' (fun j=>j=A∨qn≠none∧j=rn) rc qc kc (cP (D.take i))∧lX A σ' (fun j=>j=A∨(qn≠none∧j=rn)∨qc≠none∧j=rc) ra qa ka (asD (D.take i))∧Frm σ σ' NoB)
  ⟨0,none,0,0,none,0,0,none,0,rfl,hS1,.nil,.nil,.nil,hF1⟩ ?_ ?_
 ·rintro i st σ2 hi ⟨ra,qa,ka,rc,qc,kc,rn,qn,kn,rfl,hS2,hN2,hC2,hR2,hF2⟩
  have ei:aO ((i:Int)+1)=((i+1:Nat):Int):=by rw [aS (by omega)];omega
  obtain ⟨o1,o2,o3,o4,o5⟩:=hokd _ (List.getElem_mem hi)
  obtain ⟨tk1,tk2,tk3⟩:=htk hi
  obtain ⟨b1,b2,b3⟩:=hpre i
  obtain ⟨c1,c2,c3⟩:=hpre (i+1)
  rw [tk2,List.length_append,List.length_map] at c2
  rw [tk3,List.length_append] at c3
  have hn2:=hS2.1
  unfold T31b1
  simp only [wpS]
  rw [aC,if_pos (by simp;omega),aK]
  refine dN (hT.later hF2) hi rfl fun cs hcs=>?_
  obtain ⟨q,k,rfl,hrow⟩:=hcs
  generalize hd:D[i]=d at o1 o2 o3 o4 o5 tk1 tk2 tk3 c2 c3 hrow
  simp only [wpS]
  refine aN fun σ3 hF3 hn3 hS3=>?_
  refine bD hS3 rfl rfl fun σ4 hF4 hn4 hS4=>?_
  generalize hB:σ2.n=B at hS3 hS4 hF4 hn3
  have hF24:Frm σ2 σ4 NoB:=hF3.fresh hF4 fun j hj h=>by omega
  clear hS3 hF3 hF4
  rw [aK,aE hS4 rfl]
  simp only [wpS]
  rw [aD]
  refine jE o1 fun σ5 hF5=>?_
  have hF25:=hF24.seq hF5
  have hS5:=hF5.stN hS4
  have hSA5:=hF25.stN hS2
  simp only [wpS]
  rw [aC,if_pos (by rfl),aE hS5 rfl]
  simp only [wpS]
  rw [aD,WpF.eq (ev_basic56 _),o2]
  simp only [wpS]
  rw [aC,if_pos (by rfl),aE hS5 (i:=1) rfl]
  simp only [wpS]
  rw [aC,if_pos (by simp;omega),aE hS5 (i:=1) rfl]
  simp only [wpS,T31k3]
  rw [decide_eq_false (show ¬ ((d.cons.length:Nat):Int)>20 by omega),aC,if_neg (by simp),wp_ld0 hSA5]
  simp only [wpS]
  rw [aE hS5 (i:=0) rfl]
  simp only [wpS]
  have hN5:=hN2.frm hF25 fun _ h=>h
  have hC5:=hC2.frm hF25 fun _ h=>h
  have hR5:=hR2.frm hF25 fun _ h=>h
  have hnn:=hF25.n
  have hBn:=hS5.1
  refine wp_own1 hN5 (fun j h=>by omega) (by omega) (by omega) d.nm fun σ6 rn6 qn6 kn6 hF6 hrn6 hN6=>?_
  have hF26:Frm σ σ6 NoB:=(hF2.seq hF25).trans hF6 (fun _ _ h=>h) fun j hj h=>by have:=hN5.lo h.1;omega
  have hSA6:=hF6.st hSA5 fun h=>hN5.no h.1 h.2.symm
  have hrnB:qn≠none→rn<B:=fun h=>by have:=hN2.row.lt h;omega
  have hS6:=hF6.st hS5 fun h=>by have:=hrnB h.1;omega
  have hC6:lX A σ6 (fun j=>j=A∨qn6≠none∧j=rn6) rc qc kc (cP (D.take i)):=(hC5.frm hF6 fun hp h=>hC5.no hp (.inr h)).x fun hp hlt h=>by
   rcases h with h|⟨_,h⟩
   ·exact .inl h
   ·rcases hrn6 with ⟨h1,h2⟩|h1
    ·exact .inr ⟨h1,by omega⟩
    ·have:=hC5.row.lt hp;omega
  have hR6:lX A σ6 (fun j=>j=A∨(qn6≠none∧j=rn6)∨qc≠none∧j=rc) ra qa ka (asD (D.take i)):=(hR5.frm hF6 fun hp h=>hR5.no hp (.inr (.inl h))).x fun hp hlt h=>by
   rcases h with h|⟨_,h⟩|h
   ·exact .inl h
   ·rcases hrn6 with ⟨h1,h2⟩|h1
    ·exact .inr (.inl ⟨h1,by omega⟩)
    ·have:=hR5.row.lt hp;omega
   ·exact .inr (.inr h)
  have hn56:=hF6.n
  refine bD hSA6 rfl rfl fun σ7 hF7 hn7 hSA7=>?_
  have hN7:=hN6.frm hF7 fun hp h=>hN6.no hp h
  have hC7:=hC6.frm hF7 fun hp h=>hC6.no hp (.inl h)
  have hR7:=hR6.frm hF7 fun hp h=>hR6.no hp (.inl h)
  have hS7:=hF7.st hS6 (by omega)
  have hF27:Frm σ σ7 NoB:=hF26.fresh hF7 fun j hj h=>by omega
  rw [aE hS7 (i:=1) rfl]
  simp only [wpS]
  have hlo7:A≤σ7.n:=by omega
  have hA7:A<σ7.n:=by omega
  have hqn7:∀ j,(j=A∨qn6≠none∧j=rn6)→j<σ7.n:=by
   rintro j (h|⟨h,h2⟩)
   ·omega
   ·have:=hN7.row.lt h;omega
  clear hF7 hF6 hS6 hS5 hS4 hSA6 hSA5 hN6 hC6 hR6 hN5 hC5 hR5 hF25 hF5 hF24 hrn6
  refine Wp.count d.cons.length (fun j st σ'=>∃ ra qa ka rc qc kc,st=[.int .i64 ((j:Nat):Int),.slice qa (asD (D.take i)++(d.cons.take j).flatMap (·.args)).length ka,.slice qc (cP (D.take i)++(d.cons.take j).map (·.nm)).length kc,.bool false]∧St σ' A [.slice qn6 (dB (D.take i)++[d.nm]).length kn6]∧
    lX A σ' (· =A) rn6 qn6 kn6 (dB (D.take i)++[d.nm])∧lX A σ' (fun j=>j=A∨qn6≠none∧j=rn6) rc qc kc (cP (D.take i)++(d.cons.take j).map (·.nm))∧lX A σ' (fun j=>j=A∨(qn6≠none∧j=rn6)∨qc≠none∧j=rc) ra qa ka (asD (D.take i)++(d.cons.take j).flatMap (·.args))∧Frm σ σ' NoB∧σ7.n≤σ'.n)
   ⟨ra,qa,ka,rc,qc,kc,by simp,hSA7,hN7,by simpa using hC7,by simpa using hR7,hF27,Nat.le_refl _⟩ ?_ ?_
  ·rintro j st σ8 hj ⟨ra8,qa8,ka8,rc8,qc8,kc8,rfl,hSA8,hN8,hC8,hR8,hF8,hn8⟩
   have ej:aO ((j:Int)+1)=((j+1:Nat):Int):=by rw [aS (by omega)];omega
   obtain ⟨p1,p2⟩:=o5 _ (List.getElem_mem hj)
   have kt1:(d.cons.take (j+1)).map (·.nm)=(d.cons.take j).map (·.nm)++[d.cons[j].nm]:=by rw [List.take_succ_eq_append_getElem hj,List.map_append];try rfl
   have kt2:(d.cons.take (j+1)).flatMap (·.args)=(d.cons.take j).flatMap (·.args)++d.cons[j].args:=by rw [List.take_succ_eq_append_getElem hj,List.flatMap_append];simp
   have kl1:(cP (D.take i)++(d.cons.take j).map (·.nm)).length≤400:=by rw [List.length_append,List.length_map,List.length_take];omega
   have kl2:((d.cons.take j).flatMap (·.args)).length≤(d.cons.flatMap (·.args)).length:=by
    conv=>rhs;rw [←List.take_append_drop j d.cons,List.flatMap_append,List.length_append]
    omega
   unfold T31b0
   simp only [wpS]
   rw [aC,if_pos (by simp;omega),aK]
   refine dN (hrow.later hF8) hj rfl fun cs hcs=>?_
   obtain ⟨q1,k1,rfl,hr1,he1⟩:=hcs
   generalize d.cons[j]=cn at p1 p2 kt1 kt2 hr1 he1
   simp only [wpS]
   refine aN fun σ9 hF9 hn9 hS9=>?_
   refine bD hS9 rfl rfl fun σa hFa hna hSa=>?_
   generalize hC:σ8.n=C at hS9 hSa hFa hn9
   have hF8a:Frm σ8 σa NoB:=hF9.fresh hFa fun j hj h=>by omega
   clear hS9 hF9 hFa
   rw [aK,aE hSa rfl]
   simp only [wpS]
   rw [aD]
   refine wp_isCon57 p1 fun σb hFb=>?_
   have hF8b:=hF8a.seq hFb
   have hSb:=hFb.stN hSa
   have hSAb:=hF8b.stN hSA8
   have hNb:=hN8.frm hF8b fun _ h=>h
   have hCb:=hC8.frm hF8b fun _ h=>h
   have hRb:=hR8.frm hF8b fun _ h=>h
   have hnb:=hF8b.n
   have hCn:=hSb.1
   have hF0b:=hF8.seq hF8b
   have hqb:∀ j,(j=A∨qn6≠none∧j=rn6)→j<σb.n:=fun j h=>by have:=hqn7 j h;omega
   simp only [wpS]
   rw [aC,if_pos (by rfl),aE hSb (i:=1) rfl]
   simp only [wpS,T31k0]
   rw [decide_eq_false (show ¬ ((cn.args.length:Nat):Int)>3 by omega),aC,if_neg (by simp),aE hSb (i:=0) rfl]
   simp only [wpS]
   refine wp_own1 hCb hqb (by omega) (by omega) cn.nm fun σc rcc qcc kcc hFc hrcc hCc=>?_
   have hcC:qc8≠none→rc8<C:=fun h=>by have:=hC8.row.lt h;omega
   have hnc:=hFc.n
   have hF0c:Frm σ σc NoB:=hF0b.trans hFc (fun _ _ h=>h) fun j hj h=>by have:=hCb.lo h.1;omega
   have hSc:=hFc.st hSb fun h=>by have:=hcC h.1;omega
   have hSAc:=hFc.st hSAb fun h=>hCb.no h.1 (.inl h.2.symm)
   have hNc:=hNb.frm hFc fun hp h=>hCb.no h.1 (.inr ⟨hp,h.2.symm⟩)
   have hRc:lX A σc (fun j=>j=A∨(qn6≠none∧j=rn6)∨qcc≠none∧j=rcc) ra8 qa8 ka8 (asD (D.take i)++(d.cons.take j).flatMap (·.args)):=(hRb.frm hFc fun hp h=>hRb.no hp (.inr (.inr h))).x fun hp hlt h=>by
    rcases h with h|h|⟨_,h⟩
    ·exact .inl h
    ·exact .inr (.inl h)
    ·rcases hrcc with ⟨h1,h2⟩|h1
     ·exact .inr (.inr ⟨h1,by omega⟩)
     ·have:=hRb.row.lt hp;omega
   have hqc:∀ j,(j=A∨(qn6≠none∧j=rn6)∨qcc≠none∧j=rcc)→j<σc.n:=by
    rintro j (h|h|⟨h,h2⟩)
    ·have:=hqb j (.inl h);omega
    ·have:=hqb j (.inr h);omega
    ·have:=hCc.row.lt h;omega
   rw [aE hSc (i:=1) rfl]
   simp only [wpS]
   refine wp_ownX hRc hqc (by omega) (by rw [List.length_append];omega) ((hr1.later hF0c)) (he1.step (Y':=Y) hF0c (fun _ _ h=>h.elim) fun _ _ h=>h) rfl fun σd rad qad kad hFd hrad hRd=>?_
   simp only [wpS,T31k1,ej]
   have hnd:=hFd.n
   have hCd:=hCc.frm hFd fun hp h=>hRc.no h.1 (.inr (.inr ⟨hp,h.2.symm⟩))
   have hNd:=hNc.frm hFd fun hp h=>hRc.no h.1 (.inr (.inl ⟨hp,h.2.symm⟩))
   have hSAd:=hFd.st hSAc fun h=>hRc.no h.1 (.inl h.2.symm)
   rw [kt1,kt2,←List.append_assoc,←List.append_assoc]
   exact ⟨rad,qad,kad,rcc,qcc,kcc,rfl,hSAd,hNd,hCd,hRd,hF0c.trans hFd (fun _ _ h=>h) fun j hj h=>by have:=hRc.lo h.1;omega,by omega⟩
  ·rintro st σ8 ⟨ra8,qa8,ka8,rc8,qc8,kc8,rfl,hSA8,hN8,hC8,hR8,hF8,hn8⟩
   rw [List.take_length] at hC8 hR8 ⊢
   unfold T31b0
   simp only [wpS]
   rw [aC,if_neg (by simp)]
   simp only [wpS,T31k2,T31k4,ei]
   rw [tk1,tk2,tk3]
   exact ⟨ra8,qa8,ka8,rc8,qc8,kc8,rn6,qn6,kn6,rfl,hSA8,hN8,hC8,hR8,hF8⟩
 ·rintro st σ2 ⟨ra,qa,ka,rc,qc,kc,rn,qn,kn,rfl,hS2,hN2,hC2,hR2,hF2⟩
  rw [List.take_length] at hS2 hN2 hC2 hR2 ⊢
  unfold T31b1
  simp only [wpS]
  rw [aC,if_neg (by simp)]
  simp only [wpS,T31k6]
  refine aN fun σ3 hF3 hn3 hS3=>?_
  refine bD hS3 rfl rfl fun σ4 hF4 hn4 hS4=>?_
  generalize hB:σ2.n=B at hS3 hS4 hF4 hn3
  have hF24:Frm σ2 σ4 NoB:=hF3.fresh hF4 fun j hj h=>by omega
  have hSA4:=hF24.stN hS2
  have hN4:=hN2.frm hF24 fun _ h=>h
  have hC4:=hC2.frm hF24 fun _ h=>h
  have hR4:=hR2.frm hF24 fun _ h=>h
  have hnl:(dB D).length≤20:=by unfold dB;rw [List.length_map];exact hD20
  rw [aK,aC,if_pos (by simp;omega),wp_ld0 hSA4]
  simp only [wpS]
  rw [aD]
  refine WpF.mono (qQ (gH hN4.row) (by omega) htn) ?_
  rintro _ σ5 ⟨rfl,hF5⟩
  simp only [wpS]
  rw [aC,if_pos (by rfl),aD]
  refine WpF.mono (qQ (gH (hC4.frm hF5 fun _ h=>h).row) (by omega) htc) ?_
  rintro _ σ6 ⟨rfl,hF6⟩
  have hF46:=hF5.seq hF6
  simp only [wpS]
  rw [aC,if_pos (by rfl),aD]
  have hk:∀ t∈asD D,((dB D).contains t||eB t)=true:=by
   intro t ht
   unfold asD at ht
   obtain ⟨d,hd,ht⟩:=List.mem_flatMap.1 ht
   obtain ⟨c,hc,ht⟩:=List.mem_flatMap.1 ht
   have:=hargs d hd
   unfold oW at this
   exact List.all_eq_true.1 (List.all_eq_true.1 this c hc) t ht
  refine WpF.mono (wp_all61 (gH (hR4.frm hF46 fun _ h=>h).row) (by omega) (hF46.stN hSA4) (gH (hN4.frm hF46 fun _ h=>h).row) (by omega) (hF46.stN hS4) hk) ?_
  rintro _ _ ⟨rfl,rfl⟩
  simp only [wpS,T31k5]
  exact ⟨_,rfl,rfl,(hF2.seq hF24).seq hF46⟩
end
end Go.Pg
namespace Go.Pg
open Go.Proofs Go.Utf8 Go.Lib
set_option linter.unusedSimpArgs false
def shR (_:aB) (_:Nat→Prop) (cs:List Value) (s:Shp):Prop:=cs=[.int .i64 s.k,.int .i64 s.n,.string (mkB s.nm)]
theorem kX:rE shR:=fun _ _ _ _ _ _ _ _ _ _ h=>h
section
variable {σ:aB} {N:List NV} {D:List Dc} {pn pd:Option Addr} {cn cd A steps:Nat} {q:Option Addr} {k:Nat} {L:List (List Int)}
theorem filterMap_take {α β:Type} (f:α→Option β) {l:List α} {i:Nat} (hi:i<l.length):(l.take (i+1)).filterMap f=(l.take i).filterMap f++(f l[i]).toList:=by
 rw [List.take_succ_eq_append_getElem hi,List.filterMap_append]
 congr 1
theorem pU (h:Ask σ A pn N cn pd D cd steps) (s:Shp) (hL:aT σ (· =A) 1 (rwR σ (· =A)) q L) (hl:L.length≤1000000) (hw:∀ r∈L,1≤r.length∧r.length≤100000000000):
  WpF aF ovD 39 [bU A,.slice q L.length k,shV s] σ fun v σ'=>∃ q' k',v=.slice q' (fE N D s L).length k'∧aT σ' (· =A) 1 (rwR σ' (· =A)) q' (fE N D s L)∧Frm σ σ' NoB:=by
 refine WpF.of (T39_eq _ _ _ _ _ _ _) rfl ?_
 rw [T39]
 refine aN fun σ1 hF1 hn1 hS1=>?_
 have hA:=h.st.1
 refine Wp.count L.length (fun i st σ'=>∃ p c rb css,st=[.int .i64 ((i:Nat):Int),.slice p (fE N D s (L.take i)).length c]∧Frm σ1 σ' NoB∧GR rwR 1 σ' (· =A) rb (fE N D s (L.take i)) css p c∧(p≠none→σ1.n≤rb))
  ⟨none,0,0,[],rfl,Frm.refl _ _,.zero,fun h=>absurd rfl h⟩ ?_ ?_
 ·rintro i st σ2 hi ⟨p,c,rb,css,rfl,hF2,hG2,hrb⟩
  have ei:aO ((i:Int)+1)=((i+1:Nat):Int):=by rw [aS (by omega)];omega
  have hF02:=hF1.seq hF2
  have hlen:(fE N D s (L.take i)).length≤i:=by
   have:=List.length_filterMap_le (dX N D s) (L.take i)
   rw [List.length_take] at this
   show (List.filterMap (dX N D s) (L.take i)).length≤i
   omega
  have hstep:fE N D s (L.take (i+1))=fE N D s (L.take i)++(dX N D s L[i]).toList:=filterMap_take _ hi
  unfold T39b0
  simp only [wpS]
  rw [aC,if_pos (by simp;omega),aK]
  refine cR (hL.frmM bO hF02) hi rfl fun cs hcs=>?_
  obtain ⟨hw1,hw2⟩:=hw L[i] (List.getElem_mem hi)
  generalize hr:L[i]=r at hcs hw1 hw2 hstep
  obtain ⟨qr,kr,rfl,hRI⟩:=hcs
  refine ⟨_,rfl,?_⟩
  simp only [wpS]
  rw [aP (hF2.stN hS1) 3 rfl]
  simp only [wpS]
  cases r with
  |nil=>simp at hw1
  |cons x r=>
  rw [aD]
  refine WpF.mono (nL (h.frm hF02) s hRI (by simpa using Nat.le_of_succ_le hw2)) ?_
  rintro _ σ3 ⟨q',k',rfl,hRI',hF3⟩
  simp only [wpS]
  have hF23:=hF2.seq hF3
  have hG3:=hG2.frmN bO hF3
  have hn3:=hF3.n
  rw [aC]
  cases hs:dX N D s (x::r) with
  |none=>
   rw [if_neg (by simp)]
   simp only [wpS,T39k0,T39k1,ei]
   rw [hs] at hstep
   simp only [Option.toList_none,List.append_nil] at hstep
   rw [hstep]
   exact ⟨_,_,rb,_,rfl,hF23,hG3,hrb⟩
  |some y=>
   rw [if_pos (by rfl)]
   rw [hs] at hRI' hstep
   simp only [Option.getD_some] at hRI' ⊢
   simp only [Option.toList_some] at hstep
   have hb:rwR σ3 (fun j=>j=A∨p≠none∧j=rb) [.slice q' y.length k'] y:=by
    refine ⟨q',k',rfl,hRI'.step (S:=NoB) (Frm.refl _ _) (fun _ _ h=>h.elim) ?_⟩
    rintro j _ (h1|⟨h1,h2⟩)
    ·have:=hF02.n;omega
    ·have:=hG2.lt h1;omega
   refine lF bO (fun j h=>by have:=hF02.n;omega) hG3 (by decide) (by decide) rfl (by intro y hy;simp at hy;subst hy;rfl) hb (by omega) (by decide) fun σ4 rb4 p4 c4 hF4 hrb4 hG4=>?_
   simp only [wpS,T39k0,T39k1,ei]
   rw [hstep]
   refine ⟨some p4,c4,rb4,_,by simp,hF23.fresh hF4 fun j hj h=>by have:=hrb h.1;omega,hG4,fun _=>?_⟩
   have:=hF23.n
   rcases hrb4 with ⟨h1,h2⟩|h1
   ·have:=hrb h1;omega
   ·omega
 ·rintro st σ2 ⟨p,c,rb,css,rfl,hF2,hG2,hrb⟩
  rw [List.take_length] at hG2 ⊢
  unfold T39b0
  simp only [wpS]
  rw [aC,if_neg (by simp)]
  simp only [wpS,T39k2]
  exact ⟨_,rfl,p,c,rfl,hG2.close bO (by decide),hF1.seq hF2⟩
theorem shapesC_take {i:Nat} (hi:i<L.length):cC N (L.take (i+1))=pP (cC N (L.take i)) (jM N L[i]):=by
 unfold cC
 rw [List.take_succ_eq_append_getElem hi,List.foldl_append]
 try rfl
theorem oC (L:List (List Int)):(cC N L).length≤L.length:=by
 have:∀ (l:List (List Int)) (a:List Shp),(l.foldl (fun l r=>pP l (jM N r)) a).length≤a.length+l.length:=by
  intro l
  induction l with
  |nil=>intro a;exact Nat.le_refl _
  |cons r l ih=>
   intro a
   have h1:=ih (pP a (jM N r))
   have h2:(pP a (jM N r)).length≤a.length+1:=by unfold pP;split<;>simp
   rw [List.foldl_cons,List.length_cons]
   omega
 have:=this L []
 rw [List.length_nil,Nat.zero_add] at this
 exact this
theorem wp_shapes40 (h:Ask σ A pn N cn pd D cd steps) (hL:aT σ (· =A) 1 (rwR σ (· =A)) q L) (hl:L.length≤1000000) (hw:∀ r∈L,1≤r.length):
  WpF aF ovD 40 [bU A,.slice q L.length k] σ fun v σ'=>∃ q' k',v=.slice q' (cC N L).length k'∧aT σ' (· =A) 3 (shR σ' (· =A)) q' (cC N L)∧Frm σ σ' NoB:=by
 refine WpF.of (T40_eq _ _ _ _) rfl ?_
 rw [T40]
 have hA:=h.st.1
 refine wp_mkMap fun σ1 hF1 hn1 hM1=>?_
 generalize hm:σ.n=m at hM1
 refine Wp.count L.length (fun i st σ'=>∃ p c rb css,st=[.int .i64 ((i:Nat):Int),.slice p (cC N (L.take i)).length c]∧Frm σ σ' NoB∧m<σ'.n∧σ'.get m=some (.map (esS (cC N (L.take i))))∧GR shR 3 σ' (fun j=>j=A∨j=m) rb (cC N (L.take i)) css p c∧(p≠none→σ.n≤rb))
  ⟨none,0,0,[],rfl,hF1,by omega,hM1,.zero,fun h=>absurd rfl h⟩ ?_ ?_
 ·rintro i st σ2 hi ⟨p,c,rb,css,rfl,hF2,hm2,hM2,hG2,hrb⟩
  have ei:aO ((i:Int)+1)=((i+1:Nat):Int):=by rw [aS (by omega)];omega
  have hlen:(cC N (L.take i)).length≤i:=by
   have:=oC (N:=N) (L.take i)
   rw [List.length_take] at this
   omega
  have hstep:=shapesC_take (N:=N) hi
  generalize hl0:cC N (L.take i)=l at*
  unfold T40b0
  simp only [wpS]
  rw [aC,if_pos (by simp;omega),aK]
  refine cR (hL.frmM bO hF2) hi rfl fun cs hcs=>?_
  have hw1:=hw L[i] (List.getElem_mem hi)
  generalize hr:L[i]=r at hcs hw1 hstep
  obtain ⟨qr,kr,rfl,hRI⟩:=hcs
  refine ⟨_,rfl,?_⟩
  simp only [wpS]
  cases r with
  |nil=>simp at hw1
  |cons x r=>
  have hhead:jM N (x::r)=shp N x:=rfl
  rw [hhead] at hstep
  refine rV hRI rfl ?_
  simp only [wpS]
  rw [aD]
  refine WpF.mono (nB (h.frm hF2) x) ?_
  rintro _ σ3 ⟨rfl,hF3⟩
  generalize shp N x=s at hstep
  unfold shV
  simp only [wpS]
  have hn3:=hF3.n
  refine aN fun σ4 hF4 hn4 hS4=>?_
  generalize hZ:σ3.n=Z at hS4
  refine bD hS4 rfl rfl fun σ5 hF5 hn5 hS5=>?_
  have hF35:Frm σ3 σ5 NoB:=hF4.fresh hF5 fun j hj h=>by omega
  have hF25:=hF3.seq hF35
  have hF05:=hF2.seq hF25
  have hM5:σ5.get m=some (.map (esS l)):=by rw [hF25.get m hm2 fun h=>h];exact hM2
  have hG5:=hG2.frmN kX hF25
  have hn5':=hF25.n
  have next:∀ b:Bool,(b=true↔s.k≠0∧s∉l)→Wp aF ovD (T40k1 ⟨Z,0,some 0⟩ (some m) p l.length c .normal [.bool b]) σ5 fun e vs σ'=>Wp aF ovD (T40k2 ((i:Nat):Int) e vs) σ' fun e st' σ'=>match e with
    | .normal=>∃ p c rb css,st'=[.int .i64 ((i+1:Nat):Int),.slice p (cC N (L.take (i+1))).length c]∧Frm σ σ' NoB∧m<σ'.n∧σ'.get m=some (.map (esS (cC N (L.take (i+1)))))∧GR shR 3 σ' (fun j=>j=A∨j=m) rb (cC N (L.take (i+1))) css p c∧(p≠none→σ.n≤rb)
    |e=>Wp aF ovD (T40k3 e st') σ' fun _ vs σ'=>∃ v,vs=[v]∧∃ q' k',v=.slice q' (cC N L).length k'∧aT σ' (· =A) 3 (shR σ' (· =A)) q' (cC N L)∧Frm σ σ' NoB:=by
   intro b hb
   simp only [wpS,T40k1]
   rw [aC]
   by_cases hc:s.k≠0∧s∉l
   ·rw [if_pos (hb.2 hc),aP hS5 3 rfl]
    simp only [wpS]
    have hadd:pP l s=l++[s]:=by unfold pP;rw [if_pos hc]
    rw [hadd] at hstep
    rw [aZ,update127 hM5 hc.2]
    simp only [wpS]
    have hF6:Frm σ5 (σ5.put m (.map (esS (l++[s])))) (· =m):=Frm.put _ _ _ (by omega)
    have hn6:(σ5.put m (.map (esS (l++[s])))).n=σ5.n:=rfl
    have hM6:(σ5.put m (.map (esS (l++[s])))).get m=some (.map (esS (l++[s]))):=dI _ _ _
    generalize σ5.put m (.map (esS (l++[s])))=σ6 at hF6 hn6 hM6 ⊢
    have hZm:Z≠m:=by omega
    rw [aP (hF6.st hS5 hZm) 3 rfl]
    simp only [wpS]
    have hG6:=hG5.frm kX hF6 fun j _ h=>.inr h
    have hF06:Frm σ σ6 NoB:=hF05.fresh hF6 fun j hj h=>by omega
    refine lF kX (by rintro j (h|h);have:=hF06.n;omega;omega) hG6 (by decide) (by decide) rfl (by intro y hy;simp at hy;rcases hy with rfl|rfl|rfl<;>rfl) (b:=s) rfl (by omega) (by decide) fun σ7 rb7 p7 c7 hF7 hrb7 hG7=>?_
    simp only [wpS,T40k0,T40k2,ei]
    rw [hstep]
    have hmr:¬ (p≠none∧m=rb):=fun h=>hG6.hr h.1 (.inr h.2.symm)
    refine ⟨some p7,c7,rb7,_,by simp,hF06.fresh hF7 fun j hj h=>by have:=hrb h.1;omega,by have:=hF7.n;omega,by rw [hF7.get m (by omega) hmr];exact hM6,hG7,fun _=>?_⟩
    rcases hrb7 with ⟨h1,h2⟩|h1
    ·have:=hrb h1;omega
    ·have:=hF06.n;omega
   ·rw [if_neg fun h=>hc (hb.1 h)]
    simp only [wpS,T40k0,T40k2,ei]
    have hadd:pP l s=l:=by unfold pP;rw [if_neg hc]
    rw [hadd] at hstep
    rw [hstep]
    exact ⟨p,c,rb,_,rfl,hF05,by omega,hM5,hG5,hrb⟩
  rw [aK,aE hS5 (v:=.int .i64 s.k) rfl]
  simp only [wpS]
  rw [aC]
  by_cases hk:s.k=0
  ·rw [if_neg (by simp [hk])]
   simp only [wpS]
   exact next false (by simp [hk])
  ·rw [if_pos (by simpa using hk),aP hS5 3 rfl]
   simp only [wpS]
   rw [aZ,lookup127' hM5 s]
   simp only [wpS]
   exact next _ (by simp [hk])
 ·rintro st σ2 ⟨p,c,rb,css,rfl,hF2,hm2,hM2,hG2,hrb⟩
  rw [List.take_length] at hG2 ⊢
  unfold T40b0
  simp only [wpS]
  rw [aC,if_neg (by simp)]
  simp only [wpS,T40k3]
  have hG2':=GR.step (S:=NoB) (Y':=fun j=>j=A) kX hG2 (Frm.refl _ _) (fun _ _ h=>h.elim) fun j _ h=>.inl h
  exact ⟨_,rfl,p,c,rfl,hG2'.close kX (by decide),hF2⟩
end
end Go.Pg
