/- MvD, MvE, MvF, MvG, MdA, MvH, MvI, MvJ, MvK, MvL, McD, MvM, MvN, MvO, MdB, MdC, TabF, Awk, MwA, BdA, BdB, BdC, BdD, BdE, BdF, BdG, BdH -/
import Derived.Test.YtkbefekajgfldaaGreatDoorU6
set_option maxHeartbeats 1000000
namespace Go.Pg
open Go.Proofs Go.Utf8 Go.Lib
set_option linter.unusedSimpArgs false
section
variable{σ σ':aC}{X:Nat->Prop}{A:Nat}{T:TrA}{N:List NV}{D:List Dc}{s:Slt}{m:MS}
theorem wp_input65(h:Mac σ X A T N D s m)(_hr:m.read<=m.inp.length)(hl:m.inp.length<=1000000):WpF aG ovD 65 [bI A] σ (QM σ X A T N D s (zR m)):=by
 refine WpF.of (T65_eq _) rfl ?_;rw[T65];simp only[wpS];rw[aB h.st (i:=3) rfl];simp only[wpS];rw[aB h.st (i:=2) rfl];simp only[wpS];unfold zR;rw[aA];by_cases c1:m.inp.length<=m.read
 ·rw[if_pos (by simp;omega),if_pos c1];refine aT (i:=9) h.st (by simp[fB]) rfl fun σ1 a0 a3 a1=>?_;simp only[wpS];refine⟨_,rfl,rfl,s,?_,Mov.ofA a0 rfl⟩;exact h.upd a0 a1 (by constructor<;>rfl) h.v h.env h.k h.calls
 rw[if_neg (by simp;omega),if_neg c1,aB h.st (i:=3) rfl];simp only[wpS];have e1:aP (((m.read:Nat):Int)+1)=((m.read+1:Nat):Int):=by rw[aS (by omega)];omega
 have e2:aP (((m.read+1:Nat):Int)-1)=((m.read:Nat):Int):=by rw[aS (by omega)];omega
 rw[e1];refine aT (i:=3) h.st (by simp[fB]) rfl fun σ1 a0 a3 a1=>?_;have h1:Mac σ1 X A T N D s {m with read:=m.read+1}:=h.upd a0 a1 (by constructor<;>rfl) h.v h.env h.k h.calls;rw[aB h1.st (i:=2) rfl];simp only[wpS];rw[aB h1.st (i:=3) rfl];simp only[wpS];rw[e2];have hi:m.read<m.inp.length:=by omega
 refine cN h1.inp hi rfl fun cs a4=>⟨_,a4,?_⟩;simp only[wpS];rw[aE];refine pQ _ fun σ2 a2=>?_;have h2:=h1.frmN a2;have key:=eV h2 0 (v:=xV m.inp[m.read]) (q:=none) (p:=none) (VlP.plain rfl rfl);unfold vC at key ⊢;simp only[wpS];rw[aE];refine WpF.mono key ?_;intro v σ3 hq;obtain⟨rfl,_⟩:=id hq;simp only[wpS];refine⟨_,rfl,?_⟩;have eg:m.inp.getD m.read 0=m.inp[m.read]:=by simp[List.getD,hi]
 rw[eg];exact hq.up ((Mov.ofA a0 rfl).trans (Mov.ofN a2))
theorem wp_branch58(h:Mac σ X A T N D s m){x:NV}{q:Option Addr}{k:Nat}(a4:aN σ (FX X A s) 1 gE q x.kids)(hl:x.kids.length=3){xw:Addr}{w:Wt}{pe:Option Addr}{c0 c2 c3 c4:Value}(hw:Cz σ (FX X A s) xw 5 [c0,.pointer pe,c2,c3,c4])(he:EnR 7 σ (FX X A s) w.env pe)(v:Vl)(vq vp:Option Addr)(vc:Nat):
  WpF aG ovD 58 [bI A,.agg (nvC x q k).toArray,.pointer (some xw),.agg (vC v vq vc vp).toArray] σ (QM σ X A T N D s (uK m x w v)):=by
 refine WpF.of (T58_eq _ _ _ _ _ _ _ _ _ _ _ _ _ _ _ _ _ _ _ _) rfl ?_;rw[T58];refine aJ fun σ1 b1 b0 a7=>?_;generalize hB:σ.n=B at a7 b0;refine aJ fun σ2 a8 a9 a3=>?_;have a0:=a8.stN a7;generalize hC:σ1.n=C at a3 a9;have a0:St σ2 B (nvC x q k):=a0;have a3:St σ2 C (vC v vq vc vp):=a3;have hF:=b1.seq a8;have h2:=h.frmN hF;have a1:=a4.later hF;have a5:=hw.frm hF;have a6:EnR 7 σ2 (FX X A s) w.env pe:=EnR_step (S:=NoB) hF (fun _ _ h=>h.elim) (fun _ _ h=>h) _ _ he;have fin:∀(m':MS) (τ:aC),QM σ2 X A T N D s m' (.tuple #[]) τ->QM σ X A T N D s m' (.tuple #[]) τ:=fun m' τ hq=>hq.up (Mov.ofN hF);rw[aF,aB a3 (i:=0) rfl];simp only[wpS];unfold uK;rw[aA];by_cases c1:v.k=2
 case neg=>rw[if_pos (by simpa using c1),aE,if_pos c1];refine WpF.mono (gB h2) ?_;intro v' σ3 hq;obtain⟨rfl,_⟩:=id hq;simp only[wpS,T58k1,T58k2];exact⟨_,rfl,fin _ _ hq⟩
 rw[if_neg (by simp[c1]),if_neg (by simp[c1]),aB a3 (i:=1) rfl];simp only[wpS];rw[aA];by_cases c2:v.n=1
 ·rw[if_pos (by simpa using c2),if_pos c2,aB a0 (i:=4) rfl];simp only[wpS];refine jH a1 (i:=1) (o:=0) rfl (by omega) rfl (by decide) rfl fun cs a2=>?_;unfold gE at a2;subst a2;refine⟨_,rfl,?_⟩;simp only[wpS];rw[dI a5 (i:=1) rfl];simp only[wpS];rw[aE];refine WpF.mono (fJ h2 a6) ?_;intro v' σ3 hq;obtain⟨rfl,_⟩:=id hq;simp only[wpS,T58k0,T58k1,T58k2];have ek:fQ x 1=x.kids[1]:=by unfold fQ;simp[List.getD,show 1<x.kids.length by omega]
  rw[ek];exact⟨_,rfl,fin _ _ hq⟩
 ·rw[if_neg (by simpa using c2),if_neg c2,aB a0 (i:=4) rfl];simp only[wpS];refine jH a1 (i:=2) (o:=0) rfl (by omega) rfl (by decide) rfl fun cs a2=>?_;unfold gE at a2;subst a2;refine⟨_,rfl,?_⟩;simp only[wpS];rw[dI a5 (i:=1) rfl];simp only[wpS];rw[aE];refine WpF.mono (fJ h2 a6) ?_;intro v' σ3 hq;obtain⟨rfl,_⟩:=id hq;simp only[wpS,T58k0,T58k1,T58k2];have ek:fQ x 2=x.kids[2]:=by unfold fQ;simp[List.getD,show 2<x.kids.length by omega]
  rw[ek];exact⟨_,rfl,fin _ _ hq⟩
def MeetQ(σ:aC)(Y:Nat->Prop)(r:Option En)(v:Value)(σ':aC):Prop:=∃p b,v=.tuple #[.pointer p,.bool b]/\(∀e,r=some e->b=true/\EnR 7 σ' Y e p)/\(r=none->b=false)/\Frm σ σ' NoB
theorem wp_meets87(g:bZ N D):∀(f i:Nat) (σ:aC) (v:Vl) (e:En) (q p pe:Option Addr) (c:Nat),Mac σ X A T N D s m->i<N.length->N.length<=f+i->VlP 7 σ (FX X A s) v q p->EnR 7 σ (FX X A s) e pe->
  WpF aG ovD 87 [bI A,.int .i64 ((i:Nat):Int),.agg (vC v q c p).toArray,.pointer pe] σ (MeetQ σ (FX X A s) (oG N f i v e)):=by
 intro f;induction f with
 |zero=>intro i σ v e q p pe c _ hi hf;omega
 |succ f ih=>
  intro i σ v e q p pe c h hi hf hv he;have d8:=h.tree.nl;refine WpF.of (T87_eq _ _ _ _ _ _ _ _ _ _ _ _) rfl ?_;rw[T87];refine aJ fun σ1 c0 c8 b0=>?_;generalize hB:σ.n=B at b0 c8;have b0:St σ1 B (vC v q c p):=b0;have h1:=h.frmN c0;simp only[wpS];rw[bS,aB h1.st (i:=0) rfl];simp only[wpS];refine cX h1.tree.tree.nodes hi rfl fun cs a7=>?_;have a9:=fun j hj=>g.kid (i:=i) (j:=j) hi hj;have c9:=h.tree.kl _ (List.getElem_mem hi);rw[oG,jI hi];generalize N[i]=x at a7 a9 c9;obtain⟨xq,xk,rfl,b1,_⟩:=a7;simp only[wpS];refine aJ fun σ2 b9 c7 b3=>?_;refine aZ b3 rfl rfl fun σ3 b4 d7 a2=>?_;generalize hC:σ1.n=C at b3 a2 b4 c7;have a4:Frm σ1 σ3 NoB:=b9.fresh b4 fun j hj h=>by omega
  have a2:St σ3 C (nvC x xq xk):=a2;have a0:=a4.stN b0;have a5:=c0.seq a4;have h3:=h1.frmN a4;have a8:=b1.later a4;have b5:=hv.step (S:=NoB) (Y':=FX X A s) a5 (fun _ _ h=>h.elim) fun _ _ h=>h;have a6:EnR 7 σ3 (FX X A s) e pe:=EnR_step (S:=NoB) a5 (fun _ _ h=>h.elim) (fun _ _ h=>h) _ _ he;clear b3 b9 b4;rw[aB a2 (i:=0) rfl];simp only[wpS];have out:∀(τ:aC) (b:Bool) (p':Option Addr) (r:Option En),Frm σ3 τ NoB->(∀e,r=some e->b=true/\EnR 7 τ (FX X A s) e p')->(r=none->b=false)->MeetQ σ (FX X A s) r (.tuple #[.pointer p',.bool b]) τ:=fun τ b p' r hτ h1 h2=>⟨p',b,rfl,h1,h2,a5.seq hτ⟩;rw[aA];by_cases c1:x.x.k=21
  ·rw[if_pos (by simpa using c1),if_pos c1];simp only[wpS,T87k5];exact⟨_,rfl,out σ3 _ _ _ (Frm.refl _ _) (fun e' h=>by cases h;exact⟨rfl,a6⟩) fun h=>by cases h⟩
  rw[if_neg (by simpa using c1),if_neg c1,aA];by_cases c2:x.x.k=22
  ·rw[if_pos (by simpa using c2),if_pos c2,aB a2 (i:=2) rfl];simp only[wpS];rw[aL a0 7 rfl];unfold vC;simp only[wpS];refine aJ fun σ4 a1 d6 d4=>?_;simp only[wpS,T87k5];refine⟨_,rfl,out σ4 _ _ _ a1 (fun e' h=>?_) fun h=>by cases h⟩;cases h;refine⟨rfl,iF (cs:=vC v q c p) (pu:=pe) d4 ?_ ?_ ?_⟩
   ·intro hX;have:=h3.fn _ hX;omega
   ·exact dM.2 ⟨q,c,p,rfl,b5.step (S:=NoB) a1 (fun _ _ h=>h.elim) fun _ _ h=>h⟩
   ·exact EnR_step (S:=NoB) a1 (fun _ _ h=>h.elim) (fun _ _ h=>h) _ _ a6
  rw[if_neg (by simpa using c2),if_neg c2,aA];by_cases c3:x.x.k=23
  ·rw[if_pos (by simpa using c3),if_pos c3,aF,aB a0 (i:=0) rfl];simp only[wpS];rw[aA];by_cases d1:v.k=1
   ·rw[if_pos (by simpa using d1),aB a0 (i:=1) rfl];simp only[wpS];rw[aB a2 (i:=1) rfl];simp only[wpS,T87k0,T87k5];refine⟨_,rfl,?_⟩;by_cases d2:v.n=x.x.n
    ·rw[if_pos ⟨d1,d2⟩];exact out σ3 _ _ _ (Frm.refl _ _) (fun e' h=>by cases h;exact⟨by simpa using d2,a6⟩) fun h=>by cases h
    ·rw[if_neg fun h=>d2 h.2];exact out σ3 _ _ _ (Frm.refl _ _) (fun e' h=>by cases h) fun _=>by simpa using d2
   ·rw[if_neg (by simpa using d1)];simp only[wpS,T87k0,T87k5];rw[if_neg fun h=>d1 h.1];exact⟨_,rfl,out σ3 _ _ _ (Frm.refl _ _) (fun e' h=>by cases h) fun _=>rfl⟩
  rw[if_neg (by simpa using c3),if_neg c3,aA];by_cases c4:x.x.k=24
  ·rw[if_pos (by simpa using c4),if_pos c4,aF,aB a0 (i:=0) rfl];simp only[wpS];rw[aA];by_cases d1:v.k=2
   ·rw[if_pos (by simpa using d1),aB a0 (i:=1) rfl];simp only[wpS];rw[aB a2 (i:=1) rfl];simp only[wpS,T87k1,T87k5];refine⟨_,rfl,?_⟩;by_cases d2:v.n=x.x.n
    ·rw[if_pos ⟨d1,d2⟩];exact out σ3 _ _ _ (Frm.refl _ _) (fun e' h=>by cases h;exact⟨by simpa using d2,a6⟩) fun h=>by cases h
    ·rw[if_neg fun h=>d2 h.2];exact out σ3 _ _ _ (Frm.refl _ _) (fun e' h=>by cases h) fun _=>by simpa using d2
   ·rw[if_neg (by simpa using d1)];simp only[wpS,T87k1,T87k5];rw[if_neg fun h=>d1 h.1];exact⟨_,rfl,out σ3 _ _ _ (Frm.refl _ _) (fun e' h=>by cases h) fun _=>rfl⟩
  rw[if_neg (by simpa using c4),if_neg c4,aA];by_cases c5:x.x.k=25
  ·rw[if_pos (by simpa using c5),if_pos c5,aB a0 (i:=0) rfl];simp only[wpS,T87k5];refine⟨_,rfl,?_⟩;by_cases d1:v.k=3
   ·rw[if_pos d1];exact out σ3 _ _ _ (Frm.refl _ _) (fun e' h=>by cases h;exact⟨by simpa using d1,a6⟩) fun h=>by cases h
   ·rw[if_neg d1];exact out σ3 _ _ _ (Frm.refl _ _) (fun e' h=>by cases h) fun _=>by simpa using d1
  rw[if_neg (by simpa using c5),if_neg c5];simp only[wpS,T87k5];rw[aB a0 (i:=0) rfl];simp only[wpS];have no:v.k≠4\/v.nm≠x.x.nm\/v.args.length≠x.kids.length->Wp aG ovD (T87k4 pe ⟨C,0,some 0⟩ false none ⟨B,0,some 0⟩ (some ⟨A,0,some 0⟩) .normal [.bool true]) σ3 fun _ vs σ'=>∃w,vs=[w]/\MeetQ σ (FX X A s) (if v.k≠4\/v.nm≠x.x.nm\/v.args.length≠x.kids.length then none else meetsL N f x.kids v.args e) w σ':=by intro hc;simp only[wpS,T87k4];rw[aA,if_pos rfl,if_pos hc];simp only[wpS];exact⟨_,rfl,out σ3 _ _ _ (Frm.refl _ _) (fun e' h=>by cases h) fun _=>rfl⟩
  rw[aA];by_cases d1:v.k=4
  case neg=>rw[if_neg (by simpa using d1)];simp only[wpS];exact no (.inl d1)
  rw[if_pos (by simp[d1]),aB a0 (i:=2) rfl];simp only[wpS];rw[aB a2 (i:=2) rfl];simp only[wpS,eP];rw[aA];by_cases d2:v.nm=x.x.nm
  case neg=>rw[if_neg (by simpa using d2)];simp only[wpS];exact no (.inr (.inl d2))
  rw[if_pos (by simp[d2]),aB a0 (i:=3) rfl];simp only[wpS];rw[aB a2 (i:=4) rfl];simp only[wpS];by_cases d3:v.args.length=x.kids.length
  case neg=>rw[show(((v.args.length:Nat):Int) !=((x.kids.length:Nat):Int))=true from bne_iff_ne.2 fun h=>d3 (by omega)];exact no (.inr (.inr d3))
  rw[show(((v.args.length:Nat):Int) !=((x.kids.length:Nat):Int))=false by simp[d3]];simp only[wpS,T87k4];rw[aA,if_neg (by simp),if_neg (by simp[d1,d2,d3]),aB a2 (i:=4) rfl];simp only[wpS];generalize hR:meetsL N f x.kids v.args e=R;refine Wp.count x.kids.length (fun j st σ'=>∃b p1 p2 e',st=[.int .i64 ((j:Nat):Int),.bool b,.pointer p1,.pointer p2]/\Frm σ3 σ' NoB/\EnR 7 σ' (FX X A s) e' p2/\meetsL N f (x.kids.drop j) (v.args.drop j) e'=R)
   ⟨_,_,_,e,rfl,Frm.refl _ _,a6,by rw[List.drop_zero,List.drop_zero];exact hR⟩ ?_ ?_
  ·rintro j st σ4 hj ⟨b,p1,p2,e',rfl,a1,b2,a3⟩;have ej:aP ((j:Int)+1)=((j+1:Nat):Int):=by rw[aS (by omega)];omega
   have b7:j<v.args.length:=by omega
   obtain⟨k1,k2⟩:=a9 j hj;rw[List.drop_eq_getElem_cons hj,List.drop_eq_getElem_cons b7,meetsL]at a3;have h4:=h3.frmN a1;have c6:=b5.step (S:=NoB) (Y':=FX X A s) a1 (fun _ _ h=>h.elim) fun _ _ h=>h;unfold T87b0;simp only[wpS];rw[aA,if_pos (by simp;omega),aF];refine cN (a8.later a1) hj rfl fun cs a7=>⟨_,a7,?_⟩;simp only[wpS];rw[aB (a1.stN a0) (i:=3) rfl];simp only[wpS];refine cX c6.row b7 rfl fun cs a7=>?_;obtain⟨q5,c5',p5,rfl,d5⟩:=dM.1 a7;have key:=ih x.kids[j] σ4 v.args[j] e' q5 p5 p2 c5' h4 k2 (by omega) d5 b2;unfold vC at key ⊢;simp only[wpS];rw[aE];refine WpF.mono key ?_;rintro _ σ5 ⟨p6,b6,rfl,hy,hn,b8⟩;simp only[wpS];rw[aA];cases hm:oG N f x.kids[j] v.args[j] e' with
   |none=>rw[hm]at a3;obtain rfl:=hn hm;rw[if_pos (by rfl)];simp only[wpS,T87k2,T87k3];exact⟨_,rfl,out σ5 _ _ _ (a1.seq b8) (fun e1 h=>by rw[<-a3]at h;cases h) fun _=>rfl⟩
   |some e1=>rw[hm]at a3;obtain⟨rfl,d0⟩:=hy e1 hm;rw[if_neg (by simp)];simp only[wpS,T87k2,ej];exact⟨_,_,_,e1,rfl,a1.seq b8,d0,a3⟩
  ·rintro st σ4 ⟨b,p1,p2,e',rfl,a1,b2,a3⟩;rw[List.drop_length,meetsL]at a3
   ·unfold T87b0;simp only[wpS];rw[aA,if_neg (by simp)];simp only[wpS,T87k3];exact⟨_,rfl,out σ4 _ _ _ a1 (fun e1 h=>by rw[<-a3]at h;cases h;exact⟨rfl,b2⟩) fun h=>by rw[<-a3]at h;cases h⟩
   ·intro i l v r h;cases h
theorem wp_match59(g:bZ N D)(h:Mac σ X A T N D s m){x:NV}{q:Option Addr}{k:Nat}(a7:aN σ (FX X A s) 1 gE q x.kids)(hl:x.kids.length%2=1)(c9:x.kids.length<=1000000)(c1:∀j (hj:j<x.kids.length),x.kids[j]<N.length){xw:Addr}{w:Wt}{pe:Option Addr}{c0 c2 c3 c4:Value}(hw:Cz σ (FX X A s) xw 5 [c0,.pointer pe,c2,c3,c4])(he:EnR 7 σ (FX X A s) w.env pe){v:Vl}{vq vp:Option Addr}(vc:Nat)(hv:VlP 7 σ (FX X A s) v vq vp):
  WpF aG ovD 59 [bI A,.agg (nvC x q k).toArray,.pointer (some xw),.agg (vC v vq vc vp).toArray] σ (QM σ X A T N D s (yd N m x w v)):=by
 refine WpF.of (T59_eq _ _ _ _ _ _ _ _ _ _ _ _ _ _ _ _ _ _ _ _) rfl ?_;rw[T59];refine aJ fun σ1 c8 b9 b2=>?_;generalize hB:σ.n=B at b2 b9;refine aJ fun σ2 b3 b8 a5=>?_;have a2:=b3.stN b2;generalize hC:σ1.n=C at a5 b8;have a2:St σ2 B (nvC x q k):=a2;have a5:St σ2 C (vC v vq vc vp):=a5;have hF:=c8.seq b3;unfold yd;generalize hR:wM N v w.env (x.kids.drop 1)=R;refine Wp.loop (fun n st σ'=>∃i:Nat,st=[.int .i64 ((i:Nat):Int)]/\Frm σ2 σ' NoB/\i+n=x.kids.length+2/\i%2=1/\wM N v w.env (x.kids.drop i)=R) (x.kids.length+1) ⟨1,rfl,Frm.refl _ _,by omega,rfl,hR⟩ ?_;rintro n st σ3 ⟨i,rfl,a6,d0,b7,a3⟩;have a0:=hF.seq a6;have h3:=h.frmN a0;have a1:=a7.later a0;have b5:=hw.frm a0;have c6:EnR 7 σ3 (FX X A s) w.env pe:=EnR_step (S:=NoB) a0 (fun _ _ h=>h.elim) (fun _ _ h=>h) _ _ he;have b6:=hv.step (S:=NoB) (Y':=FX X A s) a0 (fun _ _ h=>h.elim) fun _ _ h=>h;have a9:=a6.stN a2;have c7:=a6.stN a5;unfold T59b0;simp only[wpS];rw[aB a9 (i:=4) rfl];simp only[wpS];rw[aA];by_cases hi:i<x.kids.length
 case neg=>
  rw[List.drop_eq_nil_of_le (by omega),wM]at a3
  ·rw[if_neg (by simp;omega),<-a3];simp only[wpS,T59k1];rw[aE];refine WpF.mono (gB h3) ?_;intro v' σ4 hq;obtain⟨rfl,_⟩:=id hq;simp only[wpS];exact⟨_,rfl,hq.up (Mov.ofN a0)⟩
  ·intro p b r h;cases h
 have b1:i+1<x.kids.length:=by omega
 have e1:aP (((i:Nat):Int)+1)=((i+1:Nat):Int):=by rw[aS (by omega)];omega
 have e2:aP (((i:Nat):Int)+2)=((i+2:Nat):Int):=by rw[aS (by omega)];omega
 rw[if_pos (by simp;omega),aF,aB a9 (i:=4) rfl];simp only[wpS];refine cN a1 hi rfl fun cs a8=>⟨_,a8,?_⟩;simp only[wpS];rw[aL c7 7 rfl];have key:=wp_meets87 g (N.length+1) x.kids[i] σ3 v w.env vq vp pe vc h3 (c1 i hi) (by omega) b6 c6;unfold vC at key ⊢;simp only[wpS];rw[dI b5 (i:=1) rfl];simp only[wpS];rw[aE];refine WpF.mono key ?_;rintro _ σ4 ⟨p4,b4,rfl,hy,hn,a4⟩;rw[List.drop_eq_getElem_cons hi,List.drop_eq_getElem_cons b1,wM]at a3;simp only[wpS];rw[aA];have b0:=a0.seq a4;cases hm:oG N (N.length+1) x.kids[i] v w.env with
 |none=>rw[hm]at a3;obtain rfl:=hn hm;rw[if_neg (by simp)];simp only[wpS,T59k0,e2];exact⟨n-2,by omega,i+2,rfl,a6.seq a4,by omega,by omega,a3⟩
 |some e'=>rw[hm]at a3;obtain⟨rfl,c5⟩:=hy e' hm;have h4:=h3.frmN a4;rw[if_pos rfl,aB (a4.stN a9) (i:=4) rfl];simp only[wpS];rw[e1];refine cN (a1.later a4) b1 rfl fun cs a8=>⟨_,a8,?_⟩;simp only[wpS];rw[aE];refine WpF.mono (fJ h4 c5) ?_;intro v' σ5 hq;obtain⟨rfl,_⟩:=id hq;simp only[wpS,T59k0,T59k1];rw[<-a3];exact⟨_,rfl,hq.up (Mov.ofN b0)⟩
end
section
variable{σ σ':aC}{X Y:Nat->Prop}{A:Nat}{T:TrA}{N:List NV}{D:List Dc}{s:Slt}{m:MS}{P:Program}{ov:Ov}
theorem kC{β:Type}{c:Nat}{R:List Value->β->Prop}{p:Option Addr}{ts:List β}(h:aN σ Y c R p ts){i n:Nat}(hi:i<ts.length)(hn:n=ts.length){f:Addr->Value->Pg}{Q:bW}
  (k:∀x cs,R cs ts[i]->(∀τ,Frm σ τ NoB->Go.Pg.ldN c (aadd x (Int.toNat ((i:Nat):Int)*c)) τ=some (.agg cs.toArray,τ))->Wp P ov (f x (.agg cs.toArray)) σ Q):
  Wp P ov (aD p fun a=>grd (decide (0<=((i:Nat):Int))&&decide (((i:Nat):Int)<((n:Nat):Int))) (.act (Go.Pg.ldN c (aadd a (Int.toNat ((i:Nat):Int)*c))) (f a))) σ Q:=by
 subst hn;obtain⟨x,cs,rfl,h1,h2⟩:=keepN h hi;have e:(decide (0<=((i:Nat):Int))&&decide (((i:Nat):Int)<((ts.length:Nat):Int)))=true:=by simp;omega
 simp only[bP];have h3:=h2 σ (Frm.refl _ _);rw[aO,e,aV,Int.toNat_natCast,h3];exact⟨rfl,k x cs h1 (by rw[Int.toNat_natCast];exact h2)⟩
theorem iT{β:Type}{c:Nat}{R:List Value->β->Prop}{p:Option Addr}{ts:List β}(h:aN σ Y c R p ts){i n o:Nat}{J:Int}(hJ:J=((i:Nat):Int))(hi:i<ts.length)(hn:n=ts.length)(ho:o<c){w:Nat}(hw:w=i*c+o){f:Addr->Value->Pg}{Q:bW}
  (k:∀x cs,R cs ts[i]->∃v,cs[o]?=some v/\(Kp σ (aadd x w) v->Wp P ov (f x v) σ Q)):Wp P ov (aD p fun a=>grd (decide (J<((n:Nat):Int))) (.act (ld1 (aadd a w)) (f a))) σ Q:=by
 obtain⟨x,cs,rfl,h2,h3⟩:=Kp.ofRow h hi;subst hw hJ hn;obtain⟨v,hv,hk⟩:=k x cs h2;simp only[bP];rw[aO];refine⟨by simp;omega,?_⟩;have h4:=h3 o v ho hv;rw[show aadd (aadd x (i*c)) o=aadd x (i*c+o) by simp[aadd,Nat.add_assoc]]at h4;rw[oS h4 (f x) Q];exact hk h4
theorem LkR.none{l:List (Int×Int)}{p:Option Addr}(h:LkR σ Y l p):l=[]/\p=none\/∃c r x,l=c::r/\p=some x:=by
 cases l with
 |nil=>exact .inl ⟨rfl,h⟩
 |cons c r=>obtain⟨x,pu,h1,_⟩:=h;exact .inr ⟨c,r,x,rfl,h1⟩
theorem wp_call88(h:Mac σ X A T N D s m)(i:Nat){F a:Vl}{fq fp aq ap:Option Addr}(fc ac:Nat)(hF:VlP 7 σ (FX X A s) F fq fp)(ha:VlP 7 σ (FX X A s) a aq ap)(hn:F.k=5->wj N F.node)(g:bZ N D)(f4:m.calls.length<=1000000000000):
  WpF aG ovD 88 [bI A,.int .i64 ((i:Nat):Int),.agg (vC F fq fc fp).toArray,.agg (vC a aq ac ap).toArray] σ (QM σ X A T N D s (wd N m i F a)):=by
 refine WpF.of (T88_eq _ _ _ _ _ _ _ _ _ _ _ _ _ _ _ _ _ _ _ _) rfl ?_;rw[T88];refine aJ fun σ1 g5 e4 d4=>?_;generalize hB:σ.n=B at d4 e4;refine aJ fun σ2 d5 e0 b7=>?_;have a1:=d5.stN d4;generalize hC:σ1.n=C at b7 e0;have a1:St σ2 B (vC F fq fc fp):=a1;have b7:St σ2 C (vC a aq ac ap):=b7;have a3:=g5.seq d5;have h2:=h.frmN a3;have g6:=hF.frmN a3;have f8:=ha.frmN a3;rw[aB a1 (i:=0) rfl];simp only[wpS];unfold wd;rw[aA];by_cases c1:F.k=5
 case neg=>rw[if_pos (by simpa using c1),if_pos c1,aE];refine WpF.mono (gB h2) ?_;intro v' σ3 hq;obtain⟨rfl,_⟩:=id hq;simp only[wpS];exact⟨_,rfl,hq.up (Mov.ofN a3)⟩
 rw[if_neg (by simp[c1]),if_neg (by simp[c1])];obtain⟨j,hj,b6,f0⟩:=hn c1;rw[bS,aB h2.st (i:=0) rfl];simp only[wpS];rw[aB a1 (i:=4) rfl];simp only[wpS];have e8:Kp σ2 (aadd ⟨B,0,some 0⟩ 4) (.int .i64 ((j:Nat):Int)):=Kp.st a1 (i:=4) (by show some (Value.int .i64 F.node)=_;rw[hj]);rw[hj,Int.toNat_natCast,jI b6];refine kC h2.tree.tree.nodes b6 rfl fun x cs b2 e7=>?_;have d2:N[j].kids.length=if N[j].x.k=9 then 2 else 1:=by
  rcases f0 with hk|hk
  ·rw[if_neg (by omega)];exact g.kidsOf b6 6 1 hk rfl
  ·rw[if_pos hk];exact g.kidsOf b6 9 2 hk rfl
 generalize N[j]=nv at b2 d2 ⊢;obtain⟨xq,xk,rfl,b9,_⟩:=b2;simp only[wpS];refine aJ fun σ3 b8 d9 d3=>?_;generalize hE:σ2.n=E at d3 d9;rw[bC,aO];refine⟨cQ (e7 σ3 b8) (bF (e8.frm b8) (bF ((Kp.st h2.st (i:=0) rfl).frm b8) rfl)),?_⟩;refine aZ d3 rfl rfl fun σ4 g4 i7 b3=>?_;have a0:Frm σ2 σ4 NoB:=b8.fresh g4 fun j hj h=>by omega
 have b4:=a3.seq a0;have b3:St σ4 E (nvC nv xq xk):=b3;have d0:=a0.stN a1;have i0:=a0.stN b7;have h4:=h2.frmN a0;have c0:=g6.frmN a0;have f7:=f8.frmN a0;have b0:=b9.later a0;rw[aB d0 (i:=5) rfl];simp only[wpS];rw[aB b3 (i:=0) rfl];simp only[wpS];have fin:∀(τ:aC) (e:En) (pe:Option Addr),Frm σ4 τ NoB->EnR 7 τ (FX X A s) e pe->e=(if nv.x.k=9 then .cons nv.x.nm F F.env else F.env)->
   Wp aG ovD (T88k1 (some ⟨A,0,some 0⟩) ⟨B,0,some 0⟩ ((i:Nat):Int) ⟨E,0,some 0⟩ ⟨C,0,some 0⟩ .normal [.pointer pe]) τ fun _ vs σ'=>∃v,vs=[v]/\QM σ X A T N D s (MS.goTo {m with k:=⟨none,.nil,[],m.calls⟩::m.k,calls:=(((i:Nat):Int),((j:Nat):Int))::m.calls} (fQ nv 0) (.cons nv.x.pm a (if nv.x.k=9 then .cons nv.x.nm F F.env else F.env))) v σ':=by
  rintro τ e pe hτ he rfl;generalize (if nv.x.k=9 then En.cons nv.x.nm F F.env else F.env)=e at he ⊢;have h5:=h4.frmN hτ;unfold T88k1;simp only[wpS];rw[aB h5.st (i:=22) rfl];simp only[wpS];rw[aB h5.st (i:=21) rfl];simp only[wpS];refine aJ fun σ5 a2 d8 c5=>?_;have h6:=h5.frmN a2;have nX5:¬FX X A s τ.n:=fun hX=>by have:=h5.fn _ hX;omega
  have e9:WtR σ5 (FX X A s) (⟨none,.nil,[],m.calls⟩::m.k) (some ⟨τ.n,0,some 0⟩):=WtR_new (w:=⟨none,.nil,[],m.calls⟩) c5 nX5 (kT.2 rfl) aN.nil Emp.none h6.calls h6.k;refine aT (i:=21) h6.st (by simp[fB]) rfl fun σ6 a4 i6 g2=>?_;have h7:Mac σ6 X A T N D {s with pk:=some ⟨τ.n,0,some 0⟩} {m with k:=⟨none,.nil,[],m.calls⟩::m.k}:=h6.upd a4 g2 (by constructor<;>rfl) h6.v h6.env e9 h6.calls;have b5:∀k,σ4.n<=k\/k=B\/k=C\/k=E->¬k=A:=fun k hk he=>by have:=h.st.1;have:=b4.n;omega
  have g3:=a2;have i1:=a4.st (a2.stN (hτ.stN d0)) (b5 B (by omega));have g9:=a4.st (a2.stN (hτ.stN i0)) (b5 C (by omega));have g7:=a4.st (a2.stN (hτ.stN b3)) (b5 E (by omega));have c4:∀j,j<σ5.n->j=A->FX X A s j:=fun j _ h=>.inr (.inl h);have f3:EnR 7 σ6 (FX X A s) e pe:=EnR_step a4 c4 (fun _ _ h=>h) _ _ (he.frmN a2);have f6:VlP 7 σ6 (FX X A s) a aq ap:=((f7.frmN hτ).frmN a2).step a4 c4 fun _ _ h=>h;have a9:aN σ6 (FX X A s) 1 gE xq nv.kids:=aN.step a4 c4 (fun _ _ h=>h) (fun _ _ h=>h) ((b0.later hτ).later a2);have c7:Mov σ σ6 A s {s with pk:=some ⟨τ.n,0,some 0⟩}:=(Mov.ofN ((b4.seq hτ).seq a2)).trans (Mov.ofA a4 rfl);rw[aB h7.st (i:=22) rfl];simp only[wpS];have fin2:Wp aG ovD (T88k0 ⟨B,0,some 0⟩ (some ⟨A,0,some 0⟩) ((i:Nat):Int) ⟨E,0,some 0⟩ ⟨C,0,some 0⟩ pe .normal [.int .i64 ((m.calls.length+1:Nat):Int)]) σ6 fun _ vs σ'=>∃v,vs=[v]/\QM σ X A T N D s (MS.goTo {m with k:=⟨none,.nil,[],m.calls⟩::m.k,calls:=(((i:Nat):Int),((j:Nat):Int))::m.calls} (fQ nv 0) (.cons nv.x.pm a e)) v σ':=by
   unfold T88k0;simp only[wpS];rw[aB i1 (i:=4) rfl];simp only[wpS];rw[aB h7.st (i:=22) rfl];simp only[wpS];rw[hj];refine aJ fun σ7 a6 i5 g1=>?_;have h8:=h7.frmN a6;have nX7:¬FX X A s σ6.n:=fun hX=>by have:=h7.fn _ hX;omega
   have e5:LkR σ7 (FX X A s) ((((i:Nat):Int),((j:Nat):Int))::m.calls) (some ⟨σ6.n,0,some 0⟩):=LkR_new (c:=(((i:Nat):Int),((j:Nat):Int))) g1 nX7 h8.calls;refine aT (i:=22) h8.st (by simp[fB]) rfl fun σ8 a5 i4 g0=>?_;have h9:Mac σ8 X A T N D {s with pk:=some ⟨τ.n,0,some 0⟩,pl:=some ⟨σ6.n,0,some 0⟩} {m with k:=⟨none,.nil,[],m.calls⟩::m.k,calls:=(((i:Nat):Int),((j:Nat):Int))::m.calls}:=h8.upd a5 g0 (by constructor<;>rfl) h8.v h8.env h8.k e5;have g8:=a5.st (a6.stN g9) (b5 C (by omega));have c8:=a5.st (a6.stN g7) (b5 E (by omega));have c3:∀j,j<σ7.n->j=A->FX X A s j:=fun j _ h=>.inr (.inl h);have f2:EnR 7 σ8 (FX X A s) e pe:=EnR_step a5 c3 (fun _ _ h=>h) _ _ (f3.frmN a6);have f5:VlP 7 σ8 (FX X A s) a aq ap:=(f6.frmN a6).step a5 c3 fun _ _ h=>h;have a8:aN σ8 (FX X A s) 1 gE xq nv.kids:=aN.step a5 c3 (fun _ _ h=>h) (fun _ _ h=>h) (a9.later a6);have c6:Mov σ σ8 A s {s with pk:=some ⟨τ.n,0,some 0⟩,pl:=some ⟨σ6.n,0,some 0⟩}:=c7.trans ((Mov.ofN a6).trans (Mov.ofA a5 rfl));rw[aB c8 (i:=4) rfl];simp only[wpS];have d1:0<nv.kids.length:=by rw[d2];split<;>omega
   refine iT a8 (i:=0) (o:=0) rfl d1 rfl (by decide) rfl fun y cs b2=>?_;unfold gE at b2;subst b2;refine⟨_,rfl,fun e6=>?_⟩;simp only[wpS];rw[aB c8 (i:=3) rfl];simp only[wpS];rw[aL g8 7 rfl];unfold vC;simp only[wpS];refine aJ fun σ9 a7 i3 f9=>?_;rw[bC,aO];refine⟨bF (e6.frm a7) (bF ((Kp.st c8 (i:=4) rfl).frm a7) rfl),?_⟩;have i2:=h9.frmN a7;have nX9:¬FX X A s σ8.n:=fun hX=>by have:=h9.fn _ hX;omega
   have f1:EnR 7 σ9 (FX X A s) (.cons nv.x.pm a e) (some ⟨σ8.n,0,some 0⟩):=iF (cs:=vC a aq ac ap) (pu:=pe) f9 nX9 (dM.2 ⟨_,_,_,rfl,f5.frmN a7⟩) (f2.frmN a7);have ek:fQ nv 0=nv.kids[0]:=by unfold fQ;simp[List.getD,d1]
   rw[aE,ek];refine WpF.mono (fJ i2 f1) ?_;intro v' σ10 hq;obtain⟨rfl,_⟩:=id hq;simp only[wpS];exact⟨_,rfl,hq.up (c6.trans (Mov.ofN a7))⟩
  rw[aA];have b1:=h7.calls;rcases LkR.none b1 with⟨e1,e2⟩|⟨c,r,y,e1,e2⟩
  ·have e1:m.calls=[]:=e1;have e2:s.pl=none:=e2;have e3:((m.calls.length+1:Nat):Int)=1:=by rw[e1];try rfl
   rw[e3]at fin2;rw[if_neg (by simp[e2])];simp only[wpS];exact fin2
  ·have e1:m.calls=c::r:=e1;have e2:s.pl=some y:=e2;rw[if_pos (by simp[e2]),aB h7.st (i:=22) rfl];simp only[wpS];have b1:LkR σ6 (FX X A s) m.calls s.pl:=b1;rw[e1]at b1;obtain⟨y',pu,h1,d7,d6,_⟩:=b1;rw[h1];simp only[wpS];have hz:Cz σ6 (FX X A s) y' 4 _:=⟨d7,d6,rfl⟩;rw[dI hz (i:=3) rfl];simp only[wpS];have ew:aP (((r.length+1:Nat):Int)+1)=((m.calls.length+1:Nat):Int):=by rw[e1,List.length_cons,aS (by rw[e1,List.length_cons]at f4;omega)];omega
   rw[ew];exact fin2
 rw[aA];by_cases c9:nv.x.k=9
 ·rw[if_pos (by simpa using c9),aB b3 (i:=2) rfl];simp only[wpS];rw[aL d0 7 rfl];unfold vC;simp only[wpS];refine aJ fun σ5 a2 d8 c5=>?_;simp only[wpS];have nX5:¬FX X A s σ4.n:=fun hX=>by have:=h4.fn _ hX;omega
  refine fin σ5 _ _ a2 (iF (cs:=vC F fq fc fp) (pu:=fp) c5 nX5 (dM.2 ⟨_,_,_,rfl,c0.frmN a2⟩) (c0.env.frmN a2)) ?_;rw[if_pos c9]
 ·rw[if_neg (by simpa using c9)];simp only[wpS];exact fin σ4 _ _ (Frm.refl _ _) c0.env (by rw[if_neg c9])
end
section
variable{σ σ':aC}{X Y:Nat->Prop}{A:Nat}{T:TrA}{N:List NV}{D:List Dc}{s:Slt}{m:MS}{P:Program}{ov:Ov}
theorem okW.at_{c:Nat}{w:Wt}(h:okW N c w){i:Nat}(hi:w.at_=some i):i<N.length:=(h.2.2 i hi).1
theorem wp_raise90(g:bZ N D)(h:Mac σ X A T N D s m)(ok:okM N m){v:Vl}{vq vp:Option Addr}(vc:Nat)(hv:VlP 7 σ (FX X A s) v vq vp):
  WpF aG ovD 90 [bI A,.agg (vC v vq vc vp).toArray] σ (QM σ X A T N D s (sR N m v)):=by
 refine WpF.of (T90_eq _ _ _ _ _ _ _ _ _ _) rfl ?_;rw[T90];refine aJ fun σ1 b6 e0 b3=>?_;generalize hB:σ.n=B at b3 e0;have b3:St σ1 B (vC v vq vc vp):=b3;have h1:=h.frmN b6;have d7:=hv.frmN b6;rw[aB b3 (i:=0) rfl];simp only[wpS];unfold sR;rw[aA];by_cases c1:v.k=1
 case neg=>rw[if_pos (by simpa using c1),if_pos c1,aE];refine WpF.mono (gB h1) ?_;intro v' σ3 hq;obtain⟨rfl,_⟩:=id hq;simp only[wpS];exact⟨_,rfl,hq.up (Mov.ofN b6)⟩
 rw[if_neg (by simp[c1]),if_neg (by simp[c1])];have hA:¬B=A:=fun e=>by have:=h.st.1;omega
 generalize hR:xr N m.k=R;refine Wp.loop (fun n st σ'=>st=[]/\∃k' pk',Mac σ' X A T N D {s with pk:=pk'} {m with k:=k'}/\Mov σ1 σ' A s {s with pk:=pk'}/\St σ' B (vC v vq vc vp)/\VlP 7 σ' (FX X A s) v vq vp/\(∀w∈k',w∈m.k)/\xr N k'=R/\n=k'.length) m.k.length ⟨rfl,m.k,s.pk,h1,Mov.refl,b3,d7,fun _ h=>h,hR,rfl⟩ ?_;rintro n st σ2 ⟨rfl,k',pk',h2,c8,b5,c7,a9,a7,rfl⟩;unfold T90b0;simp only[wpS];rw[aB h2.st (i:=21) rfl];simp only[wpS];rw[aA];have b4:=(Mov.ofN b6).trans c8;cases k' with
 |nil=>have e2:pk'=none:=h2.k;subst e2;rw[if_neg (by simp)];simp only[wpS,T90k2];rw[aB b5 (i:=1) rfl];simp only[wpS];refine aT (i:=9) h2.st (by simp[fB]) rfl fun σ3 a2 b9 a6=>?_;rw[bC,aO];have f9:=a2.st b5 hA;refine⟨cQ (f9.ldF (i:=1) rfl) rfl,?_⟩;refine aT (i:=10) a6 (by simp[fB]) rfl fun σ4 c3 d9 b2=>?_;simp only[wpS];have hF:=a2.seq c3;rw[xr]at a7;subst a7;refine⟨_,rfl,rfl,{s with pk:=none},?_,b4.trans (Mov.ofA hF rfl)⟩;exact h2.upd hF b2 (by constructor<;>rfl) h2.v h2.env h2.k h2.calls
 |cons w r=>
  have e6:WtR σ2 (FX X A s) (w::r) pk':=h2.k;obtain⟨x,pe,q,c,pc,pu,rfl,d3,d2,d1,g1,g0,d0,c5⟩:=e6;have hz:Cz σ2 (FX X A s) x 5 [.int .i64 (atI w.at_),.pointer pe,.slice q w.vals.length c,.pointer pc,.pointer pu]:=⟨d3,d2,rfl⟩;rw[if_pos (by simp),aF];rw[aB h2.st (i:=21) rfl];simp only[wpS];rw[dI hz (i:=0) rfl];simp only[wpS];have d4:w∈m.k:=a9 w (by simp);have c6:=ok.k w d4;refine Wp.mono _ _ (fun e vs σ'=>e=.normal/\vs=[.bool (decide (∃i,w.at_=some i/\(dF N i).x.k=20))]/\σ'=σ2) _ ?_ ?_
  ·rintro _ _ τ ⟨rfl,rfl,rfl⟩;simp only[wpS,T90k0];rw[aA];by_cases hc:∃i,w.at_=some i/\(dF N i).x.k=20
   ·rw[if_pos (by simpa using hc)];obtain⟨i,hi,c0⟩:=hc;have a4:=c6.at_ hi;rw[xr,hi]at a7;simp only[c0,if_true]at a7;subst a7;simp only;rw[jI a4]at c0 ⊢;have e1:=g.kidsOf a4 20 2 c0 rfl;rw[bS,aB h2.st (i:=0) rfl];simp only[wpS];rw[dI hz (i:=0) rfl];have e3:Kp τ (aadd x 0) (.int .i64 ((i:Nat):Int)):=hz.kp (i:=0) (by rw[hi];rfl);rw[hi];unfold atI;simp only[wpS];refine kC h2.tree.tree.nodes a4 rfl fun xn cs a3 e5=>?_;generalize N[i]=nv at a3 e1 ⊢;obtain⟨xq,xk,rfl,b8,_⟩:=a3;simp only[wpS];refine aJ fun σ3 a2 b9 a6=>?_;generalize hE:τ.n=E at a6 b9;rw[bC,aO];refine⟨cQ (e5 σ3 a2) (bF (e3.frm a2) (bF ((Kp.st h2.st (i:=0) rfl).frm a2) rfl)),?_⟩;refine aZ a6 rfl rfl fun σ4 c3 d9 b2=>?_;have a0:Frm τ σ4 NoB:=a2.fresh c3 fun j hj h=>by omega
    have b2:St σ4 E (nvC nv xq xk):=b2;have h4:=h2.frmN a0;have b7:=hz.frm a0;rw[dI b7 (i:=4) rfl];simp only[wpS];rw[dI b7 (i:=3) rfl];simp only[wpS];refine aT (i:=21) h4.st (by simp[fB]) rfl fun σ5 f6 g4 f3=>?_;refine aT (i:=22) f3 (by simp[fB]) rfl fun σ6 f5 g3 f2=>?_;have a1:=f6.seq f5;have a5:∀j,j<σ4.n->j=A->FX X A s j:=fun j _ h=>.inr (.inl h);have d8:WtR σ4 (FX X A s) r pu:=lP (S:=NoB) a0 (fun _ _ h=>h.elim) (fun _ _ h=>h) c5;have f0:LkR σ4 (FX X A s) w.calls pc:=gV (S:=NoB) a0 (fun _ _ h=>h.elim) (fun _ _ h=>h) d0;have e9:EnR 7 σ4 (FX X A s) w.env pe:=d1.frmN a0;have b1:=b8.later a0;have h6:Mac σ6 X A T N D {s with pk:=pu,pl:=pc} {m with k:=r,calls:=w.calls}:=h4.upd a1 f2 (by constructor<;>rfl) h4.v h4.env d8 f0;have f7:¬E=A:=fun e=>by have:=h2.st.1;omega
    have c4:=a1.st b2 f7;have f8:=a1.st (a0.stN b5) hA;have e8:EnR 7 σ6 (FX X A s) w.env pe:=EnR_step a1 a5 (fun _ _ h=>h) _ _ e9;have d6:VlP 7 σ6 (FX X A s) v vq vp:=(c7.frmN a0).step a1 a5 fun _ _ h=>h;have b0:aN σ6 (FX X A s) 1 gE xq nv.kids:=aN.step a1 a5 (fun _ _ h=>h) (fun _ _ h=>h) b1;have c9:Cz σ6 (FX X A s) x 5 _:=b7.step a1 a5 fun _ _ h=>h;rw[aB c4 (i:=4) rfl];simp only[wpS];refine iT b0 (i:=1) (o:=0) rfl (by omega) rfl (by decide) rfl fun y cs a3=>?_;unfold gE at a3;subst a3;refine⟨_,rfl,fun e4=>?_⟩;simp only[wpS];rw[aB c4 (i:=3) rfl];simp only[wpS];rw[aL f8 7 rfl];unfold vC;simp only[wpS];rw[dI c9 (i:=1) rfl];simp only[wpS];refine aJ fun σ7 a8 g2 f1=>?_;rw[bC,aO];refine⟨bF (e4.frm a8) (bF ((Kp.st c4 (i:=4) rfl).frm a8) rfl),?_⟩;have h7:=h6.frmN a8;have nX7:¬FX X A s σ6.n:=fun hX=>by have:=h6.fn _ hX;omega
    have e7:EnR 7 σ7 (FX X A s) (.cons nv.x.pm v w.env) (some ⟨σ6.n,0,some 0⟩):=iF (cs:=vC v vq vc vp) (pu:=pe) f1 nX7 (dM.2 ⟨_,_,_,rfl,d6.frmN a8⟩) (e8.frmN a8);have ek:fQ nv 1=nv.kids[1]:=by unfold fQ;simp[List.getD,show 1<nv.kids.length by omega]
    rw[aE,ek];refine WpF.mono (fJ h7 e7) ?_;intro v' σ10 hq;obtain⟨rfl,_⟩:=id hq;simp only[wpS,T90k1,T90k2];have f4:Mov τ σ6 A {s with pk:=some x} {s with pk:=pu,pl:=pc}:=(Mov.ofN a0).trans (Mov.ofA a1 rfl);exact⟨_,rfl,hq.up ((b4.trans f4).trans (Mov.ofN a8))⟩
   ·rw[if_neg (by simpa using hc)];simp only[wpS,T90k1];rw[aB h2.st (i:=21) rfl];simp only[wpS];rw[dI hz (i:=4) rfl];simp only[wpS];refine aT (i:=21) h2.st (by simp[fB]) rfl fun σ3 a2 b9 a6=>?_;simp only[wpS];have a5:∀j,j<τ.n->j=A->FX X A s j:=fun j _ h=>.inr (.inl h);have h3:Mac σ3 X A T N D {s with pk:=pu} {m with k:=r}:=h2.upd a2 a6 (by constructor<;>rfl) h2.v h2.env c5 h2.calls;refine⟨r.length,Nat.lt_succ_self _,trivial,r,pu,h3,c8.trans (Mov.ofA a2 rfl),a2.st b5 hA,c7.step a2 a5 (fun _ _ h=>h),fun w' d5=>a9 w' (by simp[d5]),?_,rfl⟩;rw[<-a7,xr];cases ha:w.at_ with
    |none=>rfl
    |some i=>simp only;rw[if_neg fun hk=>hc ⟨i,ha,hk⟩]
  ·rw[aA];cases ha:w.at_ with
   |none=>rw[if_neg (by simp[atI])];simp only[wpS];exact⟨trivial,by simp,trivial⟩
   |some i=>
    have a4:=c6.at_ ha;rw[if_pos (by simp[atI]),bS,aB h2.st (i:=0) rfl];simp only[wpS];rw[dI hz (i:=0) rfl,ha];unfold atI;simp only[wpS];refine cR h2.tree.tree.nodes a4 rfl (o:=0) (by decide) fun cs a3=>?_;obtain⟨q',k',rfl,_,_⟩:=a3;refine⟨_,rfl,?_⟩;simp only[wpS];refine⟨trivial,?_,trivial⟩;have e:(∃i_1,some i=some i_1/\(dF N i_1).x.k=20)↔N[i].x.k=20:=by rw[<-jI a4];exact⟨fun⟨j,h1,h2⟩=>by cases h1;exact h2,fun h=>⟨i,rfl,h⟩⟩
    rw[show(N[i].x.k==20)=decide (N[i].x.k=20) from rfl];simp only[e]
end
theorem Tri.setF_comm:∀(fa fb:Nat) (t:Tri) (a b:Nat) (x y:dV),a≠b->Tri.setF fb (Tri.setF fa t a x) b y=Tri.setF fa (Tri.setF fb t b y) a x
 |0,fb,t,a,b,x,y,_=>by rw[Tri.setF,Tri.setF]
 |fa+1,0,t,a,b,x,y,_=>by rw[Tri.setF,Tri.setF]
 |fa+1,fb+1,t,0,0,x,y,h=>absurd rfl h
 |fa+1,fb+1,t,0,b+1,x,y,_=>by simp only[Tri.setF];cases Nat.beq (b%2) 0<;>rfl
 |fa+1,fb+1,t,a+1,0,x,y,_=>by simp only[Tri.setF];cases Nat.beq (a%2) 0<;>rfl
 |fa+1,fb+1,t,a+1,b+1,x,y,h=>by
  simp only[Tri.setF];cases ha:Nat.beq (a%2) 0<;>cases hb:Nat.beq (b%2) 0<;>simp only[cond_true,cond_false,Tri.lft,Tri.rgt,Tri.val]
  ·have h1:a%2≠0:=Nat.ne_of_beq_eq_false ha;have h2:b%2≠0:=Nat.ne_of_beq_eq_false hb;exact congrArg (Tri.node _ _) (Tri.setF_comm fa fb _ (a/2) (b/2) x y (by omega))
  ·have h1:a%2=0:=Nat.eq_of_beq_eq_true ha;have h2:b%2=0:=Nat.eq_of_beq_eq_true hb;exact congrArg (fun l=>Tri.node _ l _) (Tri.setF_comm fa fb _ (a/2) (b/2) x y (by omega))
theorem put_comm(σ:aC){a b:Nat}(h:a≠b)(x y:dV):(σ.put a x).put b y=(σ.put b y).put a x:=by unfold aC.put;simp only[Tri.setF_comm (a+1) (b+1) σ.mem a b x y h]
theorem heapEq_same(σ:aC):pY σ σ=true:=by unfold pY;simp
theorem uy:∀l:List Value,eqvs l l=true
 |[]=>rfl
 |v::l=>by have:=uy l;unfold eqvs at this ⊢;rw[rS,lZ,this];try rfl
section
variable{σ σ':aC}
theorem app_ex{b cap len byt esz:Nat}{p:Option Addr}{xs ys:List Value}(h:SlE σ b p cap esz xs)(a0:xs.length=len*esz)(h0:1<=esz)(he:esz<64)(hy:ys.length=esz)(a1:∀y∈ys,one y=true)
  (hb:2*(len+1)*byt<=281474976710656) (a3:len+1<=4611686018427387904):
  ∃σ' b' off s cap',apS esz byt p len cap (some ⟨σ.n,0,some esz⟩) 1 1 (σ.newBlk ys esz)=some (.slice (some ⟨b',off,some s⟩) (len+1) cap',σ')/\Frm σ σ' (fun j=>p≠none/\j=b)/\((p≠none/\b'=b)\/σ.n<=b')/\Row σ' b' off s cap' esz (xs++ys):=by
 have hF:=Frm.new σ ys esz NoB;have hN:=Row.new σ esz ys 1 he (by omega) a1;rw[gY (show(σ.newBlk ys esz).rdN ⟨σ.n,0,some esz⟩ (1*esz)=some ys from by have:=hN.rdN (i:=0) (k:=1*esz) (by omega);rw[this,List.drop_zero,List.take_of_length_le (by omega)])];rcases h with⟨rfl,rfl,rfl⟩|⟨off,s,rfl,h⟩
 ·have a2:len=0:=by
   simp only[List.length_nil]at a0;rcases Nat.mul_eq_zero.1 a0.symm with h|h
   ·exact h
   ·omega
  subst a2;refine⟨_,_,_,_,_,lX he (by decide) (by omega) a1 (by simpa using hb) (by decide),?_,.inr (by rw[iD];omega),Row.new (σ.newBlk ys esz) esz ys 1 he (by omega) a1⟩;exact hF.no.trans (Frm.new _ ys esz NoB) (fun _ _ h=>h) (fun _ _ h=>h.elim)
 ·obtain⟨σ',s',cap',e1,e2,e3,e4,e5⟩:=(hF.rowN h).append (byt:=byt) (len:=len) (n:=1) (ys:=ys) a0 (by omega) h0 (by decide) a1 hb a3;have hk:Frm (σ.newBlk ys esz) σ' (· =b):=Frm.of1 (by rw[iD];exact Nat.lt_succ_of_lt h.lt) e2 e3 e4;exact⟨σ',b,off,s',cap',e1,hF.trans hk (fun _ _ h=>h.elim) (fun j _ h=>⟨by simp,h⟩),.inl ⟨by simp,rfl⟩,e5⟩
theorem Row.putEx{b off s cap esz:Nat}{xs:List Value}(h:Row σ b off s cap esz xs){i:Nat}{vs:List Value}(hi:i<=xs.length)(hk:i+vs.length<=cap*esz)(hv:∀x∈vs,one x=true):
  ∃o,∀τ:aC,σ.n<=τ.n->τ.get b=σ.get b->stC ⟨b,off+i,some s⟩ vs τ=some (.tuple #[],τ.put b o)/\Row (τ.put b o) b off s cap esz (xs.take i++vs++xs.drop (i+vs.length)):=by
 obtain⟨B,hg,hl,hh,he,hd,hc,hx⟩:=id h.blk;have h1:=h.len;refine⟨.blk {B with cells:=B.cells.take (off+i)++vs++B.cells.drop (off+i+vs.length),dirty:=s/64},fun τ hn hτ=>?_⟩;have e:τ.wrN ⟨b,off+i,some s⟩ vs=some (τ.put b (.blk {B with cells:=B.cells.take (off+i)++vs++B.cells.drop (off+i+vs.length),dirty:=s/64})):=by
  unfold aC.wrN;simp only[hτ,hg];have:(Nat.beq (s/64+1) B.his.length&&Nat.ble (off+i+vs.length) B.cells.length&&vs.all one)=true:=by
   simp only[Bool.and_eq_true,Nat.beq_eq,Nat.ble_eq,List.all_eq_true];exact⟨⟨hl.symm,by omega⟩,hv⟩
  rw[this,cond_true]
 obtain⟨σ1,e1,_,_,_,e5⟩:=(h.frame hn hτ).wrN hi hk hv;rw[e]at e1;cases e1;refine⟨?_,e5⟩;unfold Go.Pg.stC;rw[e]
theorem St.putEx{A:Nat}{cs:List Value}(h:St σ A cs){i:Nat}{v:Value}(hi:i<cs.length)(hv:one v=true):∃o,∀τ:aC,σ.n<=τ.n->τ.get A=σ.get A->Go.Pg.stC (aadd ⟨A,0,some 0⟩ i) [v] τ=some (.tuple #[],τ.put A o)/\St (τ.put A o) A (cs.set i v):=
 ⟨_,fun τ hn hτ=>by
  have h2:=h.frame hn hτ;have e:=h2.stC (off:=0+i) (v:=v) (by omega) hv;rw[Nat.zero_add]at e;exact⟨by rw[show aadd ⟨A,0,some 0⟩ i=⟨A,i,some 0⟩ by simp[aadd]];exact e,h2.put (by simp)⟩⟩
end
section
variable{σ σ':aC}{X S:Nat->Prop}{A:Nat}{T:TrA}{N:List NV}{D:List Dc}{s s':Slt}{m m':MS}{P:Program}{ov:Ov}
theorem Mov.fx(k:Mov σ σ' A s s'):∀j,j<σ.n->FX X A s' j->FX X A s j:=fun j hj h=>h.elim .inl fun h=>.inr (k.sub j hj h)
theorem VlP.mov{v:Vl}{q p:Option Addr}(h:VlP 7 σ (FX X A s) v q p)(k:Mov σ σ' A s s'):VlP 7 σ' (FX X A s') v q p:=h.step k.frm (fun _ _ h=>.inr h) k.fx
theorem EnR.mov{e:En}{p:Option Addr}(h:EnR 7 σ (FX X A s) e p)(k:Mov σ σ' A s s'):EnR 7 σ' (FX X A s') e p:=EnR_step k.frm (fun _ _ h=>.inr h) k.fx _ _ h
theorem VlR.mov{v:Vl}{cs:List Value}(h:VlR 7 σ (FX X A s) v cs)(k:Mov σ σ' A s s'):VlR 7 σ' (FX X A s') v cs:=gC k.frm (fun _ _ h=>.inr h) k.fx _ _ h
theorem WtR.mov{l:List Wt}{p:Option Addr}(h:WtR σ (FX X A s) l p)(k:Mov σ σ' A s s'):WtR σ' (FX X A s') l p:=lP k.frm (fun _ _ h=>.inr h) k.fx h
theorem LkR.mov{l:List (Int×Int)}{p:Option Addr}(h:LkR σ (FX X A s) l p)(k:Mov σ σ' A s s'):LkR σ' (FX X A s') l p:=gV k.frm (fun _ _ h=>.inr h) k.fx h
theorem VRow.mov{l:List Vl}{q:Option Addr}(h:aN σ (FX X A s) 7 (vlR 7 σ (FX X A s)) q l)(k:Mov σ σ' A s s'):aN σ' (FX X A s') 7 (vlR 7 σ' (FX X A s')) q l:=dJ k.frm (fun _ _ h=>.inr h) k.fx h
theorem natRow.mov{l:List Nat}{q:Option Addr}(h:aN σ (FX X A s) 1 gE q l)(k:Mov σ σ' A s s'):aN σ' (FX X A s') 1 gE q l:=aN.step k.frm (fun _ _ h=>.inr h) k.fx (fun _ _ h=>h) h
theorem Cz.mov{x:Addr}{n:Nat}{cs:List Value}(h:Cz σ (FX X A s) x n cs)(k:Mov σ σ' A s s'):Cz σ' (FX X A s') x n cs:=h.step k.frm (fun _ _ h=>.inr h) k.fx
theorem Mac.cl7(h:Mac σ X A T N D s m):∀cs∈s.css,cs.length=7:=by intro cs hc;obtain⟨i,hi,rfl⟩:=List.getElem_of_mem hc;exact(h.cel i hi (by rw[<-h.clen];exact hi)).len
theorem Mac.clf(h:Mac σ X A T N D s m):s.css.flatten.length=m.cells.length*7:=by rw[cZ h.cl7,h.clen]
theorem Mac.upw(h:Mac σ X A T N D s m)(k:Mov σ σ' A s s')(a5:St σ' A (fB T N D s' m'))(e1:s'.pi=s.pi)(e2:m'.inp=m.inp)(a1:SlE σ' s'.ro s'.po s'.co 1 (m'.out.map uO))(a0:SlE σ' s'.rc s'.pc s'.cc 7 s'.css.flatten)
  (a6:s'.css.length=m'.cells.length) (a2:∀i (h:i<s'.css.length) (h':i<m'.cells.length),VlR 7 σ (FX X A s) m'.cells[i] s'.css[i]) (a3:SlE σ' s'.rw_ s'.pw s'.cw 8 s'.ws) (a4:s'.ws.length=m'.nw*8)
  (hv:VlP 7 σ (FX X A s) m'.v s'.vq s'.vp) (he:EnR 7 σ (FX X A s) m'.env s'.pe) (hk:WtR σ (FX X A s) m'.k s'.pk) (hl:LkR σ (FX X A s) m'.calls s'.pl)
  (xo:s'.po≠none->¬X s'.ro/\s'.ro≠A) (xc:s'.pc≠none->¬X s'.rc/\s'.rc≠A/\(s'.po≠none->s'.rc≠s'.ro)) (xw:s'.pw≠none->¬X s'.rw_/\s'.rw_≠A/\(s'.po≠none->s'.rw_≠s'.ro)/\(s'.pc≠none->s'.rw_≠s'.rc)):Mac σ' X A T N D s' m' where
 st:=a5
 tree:=h.tree.step k.frm (fun _ _ h=>.inr h) k.fx
 inp:=by rw[e1,e2];exact h.inp.step k.frm (fun _ _ h=>.inr h) k.fx fun _ _ h=>h
 out:=a1
 cells:=a0
 clen:=a6
 cel:=fun i h1 h2=>(a2 i h1 h2).mov k
 wr:=a3
 wl:=a4
 v:=hv.mov k
 env:=he.mov k
 k:=hk.mov k
 calls:=hl.mov k
 xn:=fun j hj=>Nat.lt_of_lt_of_le (h.xn j hj) k.frm.n
 xA:=h.xA
 xo:=xo
 xc:=xc
 xw:=xw
theorem Mac.newW(h:Mac σ X A T N D s m){b' off sp cap':Nat}{ys:List Value}(hy:ys.length=8)(f:Frm σ σ' fun j=>j=A\/(s.pw≠none/\j=s.rw_))(hb:(s.pw≠none/\b'=s.rw_)\/σ.n<=b')(hR:Row σ' b' off sp cap' 8 (s.ws++ys))
  (a0:St σ' A (fB T N D {s with pw:=some ⟨b',off,some sp⟩,cw:=cap',rw_:=b',ws:=s.ws++ys} {m with nw:=m.nw+1})):
  Mac σ' X A T N D {s with pw:=some ⟨b',off,some sp⟩,cw:=cap',rw_:=b',ws:=s.ws++ys} {m with nw:=m.nw+1}/\Mov σ σ' A s {s with pw:=some ⟨b',off,some sp⟩,cw:=cap',rw_:=b',ws:=s.ws++ys}:=by
 have k:Mov σ σ' A s {s with pw:=some ⟨b',off,some sp⟩,cw:=cap',rw_:=b',ws:=s.ws++ys}:=by
  refine⟨f.mono fun j _ h=>h.elim .inl fun h=>.inr (.inr (.inr h)),?_⟩;rintro j hj (h1|h1|h1|⟨_,h1⟩)
  ·exact .inl h1
  ·exact .inr (.inl h1)
  ·exact .inr (.inr (.inl h1))
  ·have h1:j=b':=h1;rcases hb with⟨hp,e⟩|hb
   ·exact .inr (.inr (.inr ⟨hp,by rw[h1,e]⟩))
   ·omega
 refine⟨h.upw k a0 rfl rfl ?_ ?_ h.clen h.cel (.inr ⟨off,sp,rfl,hR⟩) ?_ h.v h.env h.k h.calls h.xo h.xc ?_,k⟩
 ·refine h.out.frm f fun hp hs=>?_;rcases hs with hs|⟨h1,h2⟩
  ·exact(h.xo hp).2 hs
  ·exact(h.xw h1).2.2.1 hp h2.symm
 ·refine h.cells.frm f fun hp hs=>?_;rcases hs with hs|⟨h1,h2⟩
  ·exact(h.xc hp).2.1 hs
  ·exact(h.xw h1).2.2.2 hp h2.symm
 ·show(s.ws++ys).length=(m.nw+1)*8;rw[List.length_append,hy,h.wl,Nat.add_mul]
 ·intro _;rcases hb with⟨hp,e⟩|hb
  ·rw[e];exact h.xw hp
  ·have h1:=h.st.1;refine⟨fun hx=>?_,fun e=>?_,fun hp e=>?_,fun hp e=>?_⟩
   ·have:b'<σ.n:=h.xn _ hx;omega
   ·have e:b'=A:=e;omega
   ·have e:b'=s.ro:=e;have:=h.out.lt hp;omega
   ·have e:b'=s.rc:=e;have:=h.cells.lt hp;omega
theorem Mac.newO(h:Mac σ X A T N D s m){b' off sp cap':Nat}{z:Int}(f:Frm σ σ' fun j=>j=A\/(s.po≠none/\j=s.ro))(hb:(s.po≠none/\b'=s.ro)\/σ.n<=b')(hR:Row σ' b' off sp cap' 1 (m.out.map uO++[uO z]))
  (a1:St σ' A (fB T N D {s with po:=some ⟨b',off,some sp⟩,co:=cap',ro:=b'} {m with out:=m.out++[z]})):
  Mac σ' X A T N D {s with po:=some ⟨b',off,some sp⟩,co:=cap',ro:=b'} {m with out:=m.out++[z]}/\Mov σ σ' A s {s with po:=some ⟨b',off,some sp⟩,co:=cap',ro:=b'}:=by
 have k:Mov σ σ' A s {s with po:=some ⟨b',off,some sp⟩,co:=cap',ro:=b'}:=by
  refine⟨f.mono fun j _ h=>h.elim .inl fun h=>.inr (.inl h),?_⟩;rintro j hj (h1|⟨_,h1⟩|h1|h1)
  ·exact .inl h1
  ·have h1:j=b':=h1;rcases hb with⟨hp,e⟩|hb
   ·exact .inr (.inl ⟨hp,by rw[h1,e]⟩)
   ·omega
  ·exact .inr (.inr (.inl h1))
  ·exact .inr (.inr (.inr h1))
 have h1:=h.st.1;refine⟨h.upw k a1 rfl rfl (.inr ⟨off,sp,rfl,?_⟩) ?_ h.clen h.cel ?_ h.wl h.v h.env h.k h.calls ?_ ?_ ?_,k⟩
 ·show Row σ' b' off sp cap' 1 ((m.out++[z]).map uO);rw[List.map_append];exact hR
 ·refine h.cells.frm f fun hp hs=>?_;rcases hs with hs|⟨h1,h2⟩
  ·exact(h.xc hp).2.1 hs
  ·exact(h.xc hp).2.2 h1 h2
 ·refine h.wr.frm f fun hp hs=>?_;rcases hs with hs|⟨h1,h2⟩
  ·exact(h.xw hp).2.1 hs
  ·exact(h.xw hp).2.2.1 h1 h2
 ·intro _;rcases hb with⟨hp,e⟩|hb
  ·rw[e];exact h.xo hp
  ·refine⟨fun hx=>?_,fun e=>?_⟩
   ·have:b'<σ.n:=h.xn _ hx;omega
   ·have e:b'=A:=e;omega
 ·intro hp;refine⟨(h.xc hp).1,(h.xc hp).2.1,fun _ e=>?_⟩;have e:s.rc=b':=e;rcases hb with⟨a0,e2⟩|hb
  ·exact(h.xc hp).2.2 a0 (e.trans e2)
  ·have:=h.cells.lt hp;omega
 ·intro hp;refine⟨(h.xw hp).1,(h.xw hp).2.1,fun _ e=>?_,(h.xw hp).2.2.2⟩;have e:s.rw_=b':=e;rcases hb with⟨a0,e2⟩|hb
  ·exact(h.xw hp).2.2.1 a0 (e.trans e2)
  ·have:=h.wr.lt hp;omega
theorem Mac.newC(h:Mac σ X A T N D s m){b' off sp cap':Nat}{css':List (List Value)}{cells':List Vl}(a3:css'.length=cells'.length)(a0:∀i (h:i<css'.length) (h':i<cells'.length),VlR 7 σ (FX X A s) cells'[i] css'[i])(f:Frm σ σ' fun j=>j=A\/(s.pc≠none/\j=s.rc))(hb:(s.pc≠none/\b'=s.rc)\/σ.n<=b')(hR:Row σ' b' off sp cap' 7 css'.flatten)
  (a1:St σ' A (fB T N D {s with pc:=some ⟨b',off,some sp⟩,cc:=cap',rc:=b',css:=css'} {m with cells:=cells'})):
  Mac σ' X A T N D {s with pc:=some ⟨b',off,some sp⟩,cc:=cap',rc:=b',css:=css'} {m with cells:=cells'}/\Mov σ σ' A s {s with pc:=some ⟨b',off,some sp⟩,cc:=cap',rc:=b',css:=css'}:=by
 have k:Mov σ σ' A s {s with pc:=some ⟨b',off,some sp⟩,cc:=cap',rc:=b',css:=css'}:=by
  refine⟨f.mono fun j _ h=>h.elim .inl fun h=>.inr (.inr (.inl h)),?_⟩;rintro j hj (h1|h1|⟨_,h1⟩|h1)
  ·exact .inl h1
  ·exact .inr (.inl h1)
  ·have h1:j=b':=h1;rcases hb with⟨hp,e⟩|hb
   ·exact .inr (.inr (.inl ⟨hp,by rw[h1,e]⟩))
   ·omega
  ·exact .inr (.inr (.inr h1))
 have h1:=h.st.1;refine⟨h.upw k a1 rfl rfl ?_ (.inr ⟨off,sp,rfl,hR⟩) a3 a0 ?_ h.wl h.v h.env h.k h.calls h.xo ?_ ?_,k⟩
 ·refine h.out.frm f fun hp hs=>?_;rcases hs with hs|⟨h1,h2⟩
  ·exact(h.xo hp).2 hs
  ·exact(h.xc h1).2.2 hp h2.symm
 ·refine h.wr.frm f fun hp hs=>?_;rcases hs with hs|⟨h1,h2⟩
  ·exact(h.xw hp).2.1 hs
  ·exact(h.xw hp).2.2.2 h1 h2
 ·intro _;rcases hb with⟨hp,e⟩|hb
  ·rw[e];exact h.xc hp
  ·refine⟨fun hx=>?_,fun e=>?_,fun hp e=>?_⟩
   ·have:b'<σ.n:=h.xn _ hx;omega
   ·have e:b'=A:=e;omega
   ·have e:b'=s.ro:=e;have:=h.out.lt hp;omega
 ·intro hp;refine⟨(h.xw hp).1,(h.xw hp).2.1,(h.xw hp).2.2.1,fun _ e=>?_⟩;have e:s.rw_=b':=e;rcases hb with⟨a2,e2⟩|hb
  ·exact(h.xw hp).2.2.2 a2 (e.trans e2)
  ·have:=h.wr.lt hp;omega
end
theorem SlV.emp{σ:aC}{Y:Nat->Prop}{b c:Nat}{p:Option Addr}{xs:List Value}(h:SlV σ b p c xs)(hb:p≠none->¬Y b):Emp σ Y p:=SlE.emp (esz:=1) h hb
theorem slV_nats{σ:aC}{Y:Nat->Prop}{b c:Nat}{p:Option Addr}{bl:List Nat}(h:SlV σ b p c (bl.map natW))(hb:p≠none->¬Y b):aN σ Y 1 gE p bl:=slE_nats h hb
section
variable{σ:aC}{N:List NV}{D:List Dc}{pn pd:Option Addr}{cn cd U V:Nat}
theorem vb(hU:U≠V)(b7:St σ U [.slice pn N.length cn,.slice pd D.length cd])(c7:St σ V [.slice none 0 0,.slice none 0 0])(hT:dL σ (· =V) pn N pd D)(hK:∀v∈N,v.kids.length<=1000000)(hN:N.length<=1000000){K:Ex->List Value->Pg}{Q:bW}
  (k:∀σ' p c rb css,Frm σ σ' (· =V)->St σ' V [.slice p N.length c,.slice none 0 0]->GR nvR 7 σ' (fun j=>j<σ.n) rb N css p c->Wp aG ovD (K (.exit 0) [.int .i64 ((N.length:Nat):Int)]) σ' Q):
  Wp aG ovD (.loop [.int .i64 0] (T10b0 ⟨U,0,some 0⟩ ⟨V,0,some 0⟩) K) σ Q:=by
 have f1:=b7.1;have d8:=c7.1;refine Wp.count N.length (fun i st σ'=>∃p c rb css,st=[.int .i64 ((i:Nat):Int)]/\Frm σ σ' (· =V)/\St σ' V [.slice p i c,.slice none 0 0]/\GR nvR 7 σ' (fun j=>j<σ.n) rb (N.take i) css p c)
  ⟨none,0,0,[],rfl,Frm.refl _ _,c7,.zero⟩ ?_ ?_
 ·rintro i st σ1 hi ⟨p,c,rb,css,rfl,a7,b1,a3⟩;have ei:aP ((i:Int)+1)=((i+1:Nat):Int):=by rw[aS (by omega)];omega
  have c5:=a7.st b7 hU;have d9:dL σ1 (· =V) pn N pd D:=hT.step (Y':=(· =V)) a7 (fun _ _ h=>h) fun _ _ h=>h;have f0:=a7.n;unfold T10b0;simp only[wpS];rw[aB c5 (v:=.slice pn N.length cn) rfl];simp only[wpS];rw[aA,if_pos (by simp;omega),aF,aB c5 (v:=.slice pn N.length cn) rfl];simp only[wpS];refine cX d9.nodes hi rfl fun cs c1=>?_;generalize hv:N[i]=v at c1;have e4:v.kids.length<=1000000:=hK v (by rw[<-hv];exact List.getElem_mem hi);obtain⟨q,kq,rfl,b3,b6⟩:=c1;simp only[wpS];refine aJ fun σ2 e3 e9 d0=>?_;generalize hX:σ1.n=X at d0;refine aZ d0 rfl rfl fun σ3 e2 e8 a0=>?_;have a1:Frm σ1 σ3 NoB:=e3.fresh e2 fun j hj h=>by omega
  have c4:=a1.stN b1;rw[aB c4 (v:=.slice p i c) rfl];simp only[wpS];rw[aB a0 (v:=.int .i64 v.x.k) rfl];simp only[wpS];rw[aB a0 (v:=.int .i64 v.x.n) rfl];simp only[wpS];rw[aB a0 (v:=.string (mkB v.x.nm)) rfl];simp only[wpS];rw[aB a0 (v:=.string (mkB v.x.pm)) rfl];simp only[wpS];rw[bC,aV,cM];simp only[wpS];have a4:Frm σ3 (σ3.newBlk [] 1) NoB:=Frm.new _ _ _ _;have d1:Row (σ3.newBlk [] 1) σ3.n 0 1 0 1 []:=Row.new σ3 1 [] 0 (by decide) rfl (by simp);generalize σ3.newBlk [] 1=σ4 at a4 d1 ⊢;have e7:=a4.n;have ckA:∀{τ:aC},Frm σ3 τ NoB->chks [((ld1 (aadd ⟨X,0,some 0⟩ 3)),.string (mkB v.x.pm)),((ld1 (aadd ⟨X,0,some 0⟩ 2)),.string (mkB v.x.nm)),((ld1 (aadd ⟨X,0,some 0⟩ 1)),.int .i64 v.x.n),((ld1 (aadd ⟨X,0,some 0⟩ 0)),.int .i64 v.x.k),((ld1 (aadd ⟨V,0,some 0⟩ 0)),.slice p i c)] τ=true:=fun f=>
   bF ((Kp.st a0 (i:=3) rfl).frm f) (bF ((Kp.st a0 (i:=2) rfl).frm f) (bF ((Kp.st a0 (i:=1) rfl).frm f) (bF ((Kp.st a0 (i:=0) rfl).frm f) (bF ((Kp.st c4 (i:=0) rfl).frm f) rfl))))
  rw[bC,aO];refine⟨ckA a4,?_⟩;rw[aB (a4.stN a0) (v:=.slice q v.kids.length kq) rfl,aO];refine⟨xY fun τ hτ=>by rw[List.mem_singleton.1 hτ];exact Kp.st a0 rfl,?_⟩;simp only[wpS];rw[bC];have b0:=a1.seq a4;have a8:=b3.later b0;have a9:Emp σ4 (· =V) q:=b6.step (Y':=(· =V)) b0 (fun _ _ h=>h.elim) fun _ _ h=>h;refine yG (b:=σ3.n) (xs:=[]) (ys:=v.kids.map natW) (.inr ⟨0,1,rfl,d1⟩) rfl (a8.src (fun _ _ h=>h) a9) (by simp) (by intro y hy;obtain⟨j,_,rfl⟩:=List.mem_map.1 hy;rfl) (by omega) (by omega) fun σ5 kb kp kc d4 d5 d2=>?_;have a5:Frm σ3 σ5 NoB:=a4.fresh d4 fun j hj h=>by omega
  have c9:=a5.stN a0;rw[bC,aO];refine⟨ckA a5,?_⟩;have a2:∀{o:Nat} {w:Value},[(.int .i64 v.x.k:Value),.int .i64 v.x.n,.string (mkB v.x.nm),.string (mkB v.x.pm),.slice q v.kids.length kq,.int .i64 v.x.fr,.int .i64 v.x.to][o]?=some w->past (ld1 (aadd ⟨X,0,some 0⟩ o)) w [σ4,σ3]=true:=fun h=>xY fun τ hτ=>by
   simp only[List.mem_cons,List.mem_nil_iff,or_false]at hτ;rcases hτ with rfl|rfl
   ·exact(Kp.st a0 h).frm a4
   ·exact Kp.st a0 h
  rw[aB c9 (v:=.int .i64 v.x.fr) rfl,aO];refine⟨a2 rfl,?_⟩;simp only[wpS];rw[aB c9 (v:=.int .i64 v.x.to) rfl,aO];refine⟨a2 rfl,?_⟩;simp only[wpS];rw[Nat.zero_add];have a6:=a1.seq a5;have c3:=a6.stN b1;have b2:=a3.frmN dG a6;have e6:=d4.n;have b5:kp≠none->σ3.n<=kb:=fun h=>by
   rcases d5 with h2|⟨_,h2⟩|h2
   ·exact absurd h2 h
   ·omega
   ·omega
  have d6:(N.take i).length=i:=by rw[List.length_take];omega
  refine qO (len:=i) b2.row (by rw[cZ b2.cl,b2.len,d6]) (by decide) (by decide) rfl (by intro y hy;simp at hy;rcases hy with rfl|rfl|rfl|rfl|rfl|rfl|rfl<;>rfl) (by omega) (by omega) (fun τ f=>bF ((Kp.st c3 (i:=0) rfl).frm f) rfl) fun σ6 rb6 off6 s6 c6 b8 b4 e0=>?_;have c0:kp≠none->¬(kb<σ.n\/p≠none/\kb=rb):=fun h h2=>by
   have h3:=b5 h;rcases h2 with h2|⟨h2,h4⟩
   ·omega
   ·have:=a3.lt h2;have:=a1.n;omega
  have e1:=b2.more dG (fun j h=>by omega) (b:=v) rfl ⟨kp,kc,rfl,slV_nats (by simpa using d2) c0,d2.emp c0⟩ b8 b4 e0;have d7:¬(p≠none/\V=rb):=fun h=>a3.hr h.1 (by show rb<σ.n;omega);refine aT (b8.st c3 d7) (by simp) rfl fun σ7 d3 e5 c8=>?_;simp only[List.set_cons_zero]at c8;simp only[wpS,T10k0,ei];have b9:Frm σ σ6 (· =V):=(a7.seq a6.no).trans b8 (fun _ _ h=>h) fun j hj h=>absurd hj (a3.hr h.1 |> fun h2=>by rw[h.2];exact h2);rw[List.take_succ_eq_append_getElem hi,hv];exact⟨_,_,rb6,_,trivial,b9.seq d3,c8,e1.frm dG d3 fun j _ h=>by rw[h];exact d8⟩
 ·rintro st σ1 ⟨p,c,rb,css,rfl,a7,b1,a3⟩;unfold T10b0;simp only[wpS];rw[aB (a7.st b7 hU) (v:=.slice pn N.length cn) rfl];simp only[wpS];rw[aA,if_neg (by simp)];simp only[wpS];rw[List.take_length]at a3;exact k σ1 p c rb css a7 b1 a3
end
theorem kB{σ:aC}{n0:Nat}{bs:List Nat}(hn:n0<=σ.n)(hf:eS σ)(hb:∀b∈bs,b≠σ.n):mH n0 σ bs=true:=by unfold mH;rw[hf σ.n (Nat.le_refl _)];simp only[noneB,Bool.and_true,Bool.and_eq_true,Nat.ble_eq,List.all_eq_true,Bool.not_eq_true'];refine⟨hn,fun b h=>?_⟩;rw[Bool.eq_false_iff];intro e;exact hb b h (Nat.eq_of_beq_eq_true e)
theorem vZ{k:Nat}(vs:List Value)(hv:vs.length=k):∀(css:List (List Value)) (i:Nat) (_:i<css.length),(∀cs∈css,cs.length=k)->css.flatten.take (i*k)++vs++css.flatten.drop (i*k+k)=(css.set i vs).flatten
 |cs::css,0,_,h=>by have hc:=h cs (by simp);rw[List.set_cons_zero,List.flatten_cons,List.flatten_cons,Nat.zero_mul,Nat.zero_add,List.take_zero,List.nil_append,List.drop_append_of_le_length (by omega),List.drop_of_length_le (by omega),List.nil_append]
 |cs::css,i+1,hi,h=>by have hc:=h cs (by simp);have ih:=vZ vs hv css i (by simpa using hi) (fun x hx=>h x (by simp[hx]));rw[List.set_cons_succ,List.flatten_cons,List.flatten_cons,<-ih,show(i+1)*k=cs.length+i*k by rw[hc,Nat.add_mul,Nat.one_mul,Nat.add_comm],List.take_append,List.take_of_length_le (by omega),Nat.add_sub_cancel_left,Nat.add_assoc,List.drop_append,List.drop_of_length_le (by omega),Nat.add_sub_cancel_left,List.nil_append,List.append_assoc,List.append_assoc,List.append_assoc]
section
variable{σ σ':aC}{X Y:Nat->Prop}{A:Nat}{T:TrA}{N:List NV}{D:List Dc}{s:Slt}{m:MS}{P:Program}{ov:Ov}
theorem VRow.frmN{l:List Vl}{q:Option Addr}(h:aN σ Y 7 (vlR 7 σ Y) q l)(f:Frm σ σ' NoB):aN σ' Y 7 (vlR 7 σ' Y) q l:=dJ (S:=NoB) f (fun _ _ h=>h.elim) (fun _ _ h=>h) h
theorem Cz.all{x:Addr}{n:Nat}{cs:List Value}(h:Cz σ Y x n cs):Go.Pg.ldN n x σ=some (.agg cs.toArray,σ):=by unfold Go.Pg.ldN;rw[h.2.1]
theorem Mac.cellsRow(h:Mac σ X A T N D s m):aN σ NoB 7 (vlR 7 σ (FX X A s)) s.pc m.cells:=by
 rcases h.cells with⟨hp,_,h0⟩|⟨off,sp,hp,hR⟩
 ·have h1:=h.clf;rw[h0]at h1;have:m.cells=[]:=List.eq_nil_of_length_eq_zero (by simp at h1;omega);rw[this];exact aN.nil
 ·rw[hp];exact aN.own hR (fun h=>h) h.clen h.cl7 h.cel
abbrev vz(v:Vl)(q:Option Addr)(c:Nat)(p:Option Addr):∀y∈vC v q c p,one y=true:=by
 intro y hy;unfold vC at hy;simp at hy;rcases hy with rfl|rfl|rfl|rfl|rfl|rfl|rfl<;>rfl
theorem wp_cell91(h:Mac σ X A T N D s m)(f9:eS σ){x:NV}{q:Option Addr}{k:Nat}{vals:List Vl}{vq:Option Addr}(vc:Nat)(hv:aN σ (FX X A s) 7 (vlR 7 σ (FX X A s)) vq vals)(h0:0<vals.length)(h1:x.x.k≠15->x.x.k≠16->1<vals.length)
  (hc:(vals.getD 0 cK).k=6->0<=(vals.getD 0 cK).at_/\(vals.getD 0 cK).at_<(m.cells.length:Int)) (hb:m.cells.length<=1000000000) (hw:m.nw<=1000000000):
  WpF aG ovD 91 [bI A,.agg (nvC x q k).toArray,.slice vq vals.length vc] σ (QM σ X A T N D s (zO m x vals)):=by
 refine WpF.of (T91_eq _ _ _ _ _ _ _ _ _ _ _ _ _) rfl ?_;rw[T91];refine aJ fun σ1 c3 f8 b8=>?_;generalize hB:σ.n=B at b8 f8;have b8:St σ1 B (nvC x q k):=b8;have a1:=h.frmN c3;have c9:=VRow.frmN hv c3;rw[aB b8 (i:=0) rfl];simp only[wpS];unfold zO;have e0:vals.getD 0 cK=vals[0]:=by simp[List.getD,h0]
 rw[e0]at hc ⊢;rw[aA];by_cases c1:x.x.k=15
 ·rw[if_pos (by simpa using c1),if_pos c1];rw[aB a1.st (i:=6) rfl];simp only[wpS];rw[aB a1.st (i:=5) rfl];simp only[wpS];obtain⟨xv,cs,rfl,a5,d1,b5⟩:=c9 0 h0;have hz:Cz σ1 (FX X A s) (aadd xv 0) 7 cs:=⟨a5,d1,VlR.len b5⟩;obtain⟨q0,k0,p0,rfl,e6⟩:=dM.1 b5;have b1:decide (0<((vals.length:Nat):Int))=true:=decide_eq_true (by omega);simp only[bP];rw[aO];refine⟨b1,?_⟩;rw[aV,hz.all];unfold vC;simp only[wpS];refine qO (len:=m.nw) a1.wr a1.wl (by decide) (by decide) rfl (by intro y hy;simp at hy;rcases hy with rfl|rfl|rfl|rfl|rfl|rfl|rfl|rfl<;>rfl) (by omega) (by omega) (fun τ f=>bF ((Kp.st a1.st (i:=6) rfl).frm f) rfl) fun σ2 b2 off2 sp2 cap2 c8 a7 d5=>?_;refine aT (i:=6) (c8.st a1.st fun hs=>(a1.xw hs.1).2.1 hs.2.symm) (by simp[fB]) rfl fun σ3 c0 f6 a4=>?_;have a0:Frm σ1 σ3 (fun j=>j=A\/(s.pw≠none/\j=s.rw_)):=c8.trans c0 (fun _ _ h=>.inr h) (fun _ _ h=>.inl h);have a6:¬b2=A:=by
   rcases a7 with⟨hp,e⟩|a7
   ·rw[e];exact(a1.xw hp).2.1
   ·have:=a1.st.1;omega
  obtain⟨s3,h3,d8⟩:∃s3,Mac σ3 X A T N D s3 {m with nw:=m.nw+1}/\Mov σ1 σ3 A s s3:=⟨_,a1.newW rfl a0 a7 (c0.row d5 a6) a4⟩;have d9:=hz.mov d8;have g6:=e6.mov d8;have b3:eS σ3:=a0.fr (c3.fr f9);obtain⟨H1,b',off,sp,cap',ea,e7,b7,d4⟩:=app_ex (byt:=80) (len:=m.cells.length) (ys:=zC) h3.cells h3.clf (by decide) (by decide) rfl (vz cK none 0 none) (by omega) (by omega);have f2:St H1 A (fB T N D s3 {m with nw:=m.nw+1}):=e7.st h3.st fun hs=>(h3.xc hs.1).2.1 hs.2.symm;have a3:¬b'=A:=by
   rcases b7 with⟨hp,e⟩|b7
   ·rw[e];exact(h3.xc hp).2.1
   ·have:=h3.st.1;omega
  have c5:s3.css.flatten.length=m.cells.length*7:=h3.clf;obtain⟨oR,c4⟩:=d4.putEx (i:=m.cells.length*7) (vs:=vC vals[0] q0 k0 p0) (by rw[List.length_append,c5];omega) (by have:=d4.len;rw[List.length_append,c5]at this;exact this) (vz _ _ _ _);obtain⟨oA,e3⟩:=f2.putEx (i:=5) (v:=.slice (some ⟨b',off,some sp⟩) (m.cells.length+1) cap') (by simp[fB]) rfl;have ecs:(s3.css.flatten++zC).take (m.cells.length*7)++vC vals[0] q0 k0 p0++(s3.css.flatten++zC).drop (m.cells.length*7+(vC vals[0] q0 k0 p0).length)=(s3.css++[vC vals[0] q0 k0 p0]).flatten:=by rw[List.take_left' c5,List.drop_of_length_le (by rw[List.length_append,c5];exact Nat.le_refl _),List.append_nil,List.flatten_append];simp
  rw[ecs]at c4;have eR1:Go.Pg.stC (aadd ⟨b',off,some sp⟩ (m.cells.length*7)) (vC vals[0] q0 k0 p0) H1=some (.tuple #[],H1.put b' oR):=(c4 H1 (Nat.le_refl _) rfl).1;have eA2:=e3 (H1.put b' oR) (Nat.le_refl _) (lR _ _ fun e=>a3 e.symm);have eA1:=(e3 H1 (Nat.le_refl _) rfl).1;have eR2:Go.Pg.stC (aadd ⟨b',off,some sp⟩ (m.cells.length*7)) (vC vals[0] q0 k0 p0) (H1.put A oA)=some (.tuple #[],(H1.put A oA).put b' oR):=(c4 (H1.put A oA) (Nat.le_refl _) (lR _ _ a3)).1;have fR:Frm H1 (H1.put b' oR) (· =b'):=Frm.put _ _ _ d4.lt;have fA:Frm (H1.put b' oR) ((H1.put b' oR).put A oA) (· =A):=Frm.put _ _ _ f2.1;have f4:Frm σ3 ((H1.put b' oR).put A oA) (fun j=>j=A\/(s3.pc≠none/\j=s3.rc)):=
   (e7.trans fR (U:=fun j=>s3.pc≠none/\j=s3.rc) (fun _ _ h=>h) fun j hj h=>by
    rcases b7 with⟨hp,e⟩|b7
    ·exact⟨hp,by rw[<-e];exact h⟩
    ·have h:j=b':=h;omega).trans fA (fun _ _ h=>.inr h) (fun _ _ h=>.inl h)
  have b6:s3.css.length=m.cells.length:=h3.clen;obtain⟨s4,h4,g8⟩:∃s4,Mac ((H1.put b' oR).put A oA) X A T N D s4 {m with nw:=m.nw+1,cells:=m.cells++[vals[0]]}/\Mov σ3 ((H1.put b' oR).put A oA) A s3 s4:=by
   refine⟨_,h3.newC (cells':=m.cells++[vals[0]]) (css':=s3.css++[vC vals[0] q0 k0 p0]) (by simp[b6]) ?_ f4 b7 (fA.row (c4 H1 (Nat.le_refl _) rfl).2 a3) ?_⟩
   ·intro i hi c7;by_cases hl:i<m.cells.length
    ·rw[List.getElem_append_left (show i<m.cells.length from hl),List.getElem_append_left (by omega)];exact h3.cel i _ _
    ·have:i=m.cells.length:=by simp at c7;omega
     subst this;have g1:(m.cells++[vals[0]])[m.cells.length]'c7=vals[0]:=by simp
     have g2:(s3.css++[vC vals[0] q0 k0 p0])[m.cells.length]'hi=vC vals[0] q0 k0 p0:=by simp[<-b6]
     rw[g1,g2];exact dM.2 ⟨q0,k0,p0,rfl,g6⟩
   ·have:=eA2.2;rw[show m.cells.length+1=(m.cells++[vals[0]]).length by simp]at this;exact this
  unfold vC at eR1 eR2;unfold zC at ea;rw[bC,aF];refine Wp.mono _ _ (fun e vs τ=>e=.normal/\τ=(H1.put A oA).put b' oR/\vs=[(.pointer (some (aadd ⟨A,0,some 0⟩ 5))),(.pointer (some ⟨A,0,some 0⟩)),(.pointer (some (aadd ⟨b',off,some sp⟩ (m.cells.length*7)))),(.slice (some ⟨b',off,some sp⟩) (m.cells.length+1) cap'),(.slice (some ⟨σ3.n,0,some 7⟩) 1 1),(.int .i64 ((m.cells.length:Nat):Int)),(.agg (vC vals[0] q0 k0 p0).toArray),(.pointer (some (aadd xv 0))),(.slice (some xv) vals.length vc),(.slice s3.pc m.cells.length s3.cc),(.pointer (some (aadd ⟨A,0,some 0⟩ 5))),(.pointer (some ⟨A,0,some 0⟩)),(.pointer (some ⟨A,0,some 0⟩))]) _ ?_ ?_
  ·rintro _ _ _ ⟨rfl,rfl,rfl⟩;rw[bC,aV];simp only;rw[aB h3.st (i:=5) rfl];simp only[wpS];rw[aO];refine⟨b1,?_⟩;rw[aV,d9.all];unfold vC;simp only[wpS];rw[bC,aO];refine⟨kB (Nat.le_refl _) b3 (fun _ h=>by cases h),?_⟩;rw[aV,cM];simp only[wpS];rw[bC,aV,ea];simp only[wpS];rw[aO];refine⟨decide_eq_true (by omega),?_⟩;rw[aV,eR1];simp only[wpS];rw[aV,eA2.1];simp only[wpS];rw[bC,aO];refine⟨by rw[put_comm H1 a3 oR oA,heapEq_same];exact uy _,?_⟩;rw[aB h4.st (i:=5) rfl];simp only[wpS];have e1:aP ((((m.cells++[vals[0]]).length:Nat):Int)-1)=((m.cells.length:Nat):Int):=by rw[List.length_append,List.length_singleton,aS (by omega)];omega
   rw[e1];have key:=eV h4 0 (v:=vt m.cells.length) (q:=none) (p:=none) (VlP.plain rfl rfl);unfold vC at key;rw[aE];refine WpF.mono key ?_;intro v' σ9 hq;obtain⟨rfl,_⟩:=id hq;simp only[wpS];exact⟨_,rfl,hq.up (((Mov.ofN c3).trans d8).trans g8)⟩
  ·rw[aB h3.st (i:=5) rfl];simp only[wpS];rw[aO];refine⟨b1,?_⟩;rw[aV,d9.all];unfold vC;simp only[wpS];rw[bC,aO];refine⟨kB (Nat.le_refl _) b3 (fun _ h=>by cases h),?_⟩;rw[aV,cM];simp only[wpS];rw[bC,aV,ea];simp only[wpS];rw[aO];refine⟨decide_eq_true (by omega),?_⟩;rw[aV,eA1];simp only[wpS];rw[aV,eR2];simp only[wpS];refine⟨?_,?_,?_⟩<;>first|trivial|rfl
 rw[if_neg (by simpa using c1),if_neg c1];obtain⟨xv,cs,rfl,a5,d1,b5⟩:=c9 0 h0;have hz:Cz σ1 (FX X A s) (aadd xv 0) 7 cs:=⟨a5,d1,VlR.len b5⟩;obtain⟨q0,k0,p0,rfl,e6⟩:=dM.1 b5;have b1:decide (0<((vals.length:Nat):Int))=true:=decide_eq_true (by omega);simp only[bP];rw[aO];refine⟨b1,?_⟩;rw[aV,hz.all];unfold vC;simp only[wpS];refine aJ fun σ2 c8 f7 e5=>?_;refine aZ e5 rfl rfl fun σ3 c0 f6 a4=>?_;generalize hE:σ1.n=E at e5 a4 c0 f7;have a0:Frm σ1 σ3 NoB:=c8.fresh c0 fun j hj h=>by omega
 have a4:St σ3 E (vC vals[0] q0 k0 p0):=a4;have h3:=a1.frmN a0;have a8:Mov σ σ3 A s s:=Mov.ofN (c3.seq a0);rw[aB a4 (i:=0) rfl];simp only[wpS];rw[aA];by_cases c6:vals[0].k=6
 case neg=>rw[if_pos (by simpa using c6),if_pos c6,aE];refine WpF.mono (gB h3) ?_;intro v' σ9 hq;obtain⟨rfl,_⟩:=id hq;simp only[wpS];exact⟨_,rfl,hq.up a8⟩
 rw[if_neg (by simp[c6]),if_neg (by simp[c6]),aB (a0.stN b8) (i:=0) rfl];simp only[wpS];rw[aA];obtain⟨z1,z2⟩:=hc c6;obtain⟨j,hj⟩:=Int.eq_ofNat_of_zero_le z1;have e4:j<m.cells.length:=by omega
 have ejn:vals[0].at_.toNat=j:=by rw[hj];try rfl
 rw[ejn];by_cases c16:x.x.k=16
 ·rw[if_pos (by simpa using c16),if_pos c16,aB h3.st (i:=5) rfl];simp only[wpS];rw[aB a4 (i:=6) rfl];simp only[wpS];rw[hj,show m.cells.getD j cK=m.cells[j] by simp[List.getD,e4]];refine cX h3.cellsRow e4 rfl fun cs g0=>?_;obtain⟨q1,k1,p1,rfl,d6⟩:=dM.1 g0;have key:=eV h3 k1 d6;unfold vC at key ⊢;simp only[wpS];rw[aE];refine WpF.mono key ?_;intro v' σ9 hq;obtain⟨rfl,_⟩:=id hq;simp only[wpS];exact⟨_,rfl,hq.up a8⟩
 ·rw[if_neg (by simpa using c16),if_neg c16];have f3:=h1 c1 c16;obtain⟨xv1,cs1,ex,a9,d0,b4⟩:=c9 1 f3;cases ex;have e2:Cz σ1 (FX X A s) (aadd xv 7) 7 cs1:=⟨a9,d0,VlR.len b4⟩;rw[show vals.getD 1 cK=vals[1] by simp[List.getD,f3]];obtain⟨q1,k1,p1,rfl,d6⟩:=dM.1 b4;have b0:decide (1<((vals.length:Nat):Int))=true:=decide_eq_true (by omega);rw[aB h3.st (i:=6) rfl];simp only[wpS];rw[aB a4 (i:=6) rfl];simp only[wpS];rw[aO];refine⟨b0,?_⟩;rw[aV,(e2.frm a0).all];unfold vC;simp only[wpS];refine qO (len:=m.nw) h3.wr h3.wl (by decide) (by decide) rfl (by intro y hy;simp at hy;rcases hy with rfl|rfl|rfl|rfl|rfl|rfl|rfl|rfl<;>rfl) (by omega) (by omega) (fun τ f=>bF ((Kp.st h3.st (i:=6) rfl).frm f) rfl) fun σ4 b2 off2 sp2 cap2 f1 a7 d5=>?_;refine aT (i:=6) (f1.st h3.st fun hs=>(h3.xw hs.1).2.1 hs.2.symm) (by simp[fB]) rfl fun σ5 f0 i1 g3=>?_;have b9:Frm σ3 σ5 (fun j=>j=A\/(s.pw≠none/\j=s.rw_)):=f1.trans f0 (fun _ _ h=>.inr h) (fun _ _ h=>.inl h);have a6:¬b2=A:=by
   rcases a7 with⟨hp,e⟩|a7
   ·rw[e];exact(h3.xw hp).2.1
   ·have:=h3.st.1;omega
  obtain⟨s5,h5,d7⟩:∃s5,Mac σ5 X A T N D s5 {m with nw:=m.nw+1}/\Mov σ3 σ5 A s s5:=⟨_,h3.newW rfl b9 a7 (f0.row d5 a6) g3⟩;have g9:=b9.st a4 (by
   rintro(e|⟨hp,e⟩)
   ·have:=a1.st.1;omega
   ·have:=a1.wr.lt hp;omega)
  have f5:=(e2.frm a0).mov d7;have g5:=(d6.frmN a0).mov d7;rw[aB h5.st (i:=5) rfl];simp only[wpS];rw[aB g9 (i:=6) rfl];simp only[wpS];rw[aO];refine⟨b0,?_⟩;rw[aV,f5.all];unfold vC;simp only[wpS];have d3:s5.css.length=m.cells.length:=h5.clen;have a2:s5.css.flatten.length=m.cells.length*7:=h5.clf;rcases h5.cells with⟨_,_,i0⟩|⟨off,sp,hp,hR⟩
  ·rw[i0]at a2;simp at a2;omega
  have g4:=hR.len;rw[a2]at g4;obtain⟨σ7,w1,w2,w3,w4,w5⟩:=hR.wrN (i:=j*7) (vs:=vC vals[1] q1 k1 p1) (by rw[a2];omega) (by show j*7+7<=_;omega) (vz _ _ _ _);have ew:Go.Pg.stC (aadd ⟨s5.rc,off,some sp⟩ (Int.toNat ((j:Nat):Int)*7)) (vC vals[1] q1 k1 p1) σ5=some (.tuple #[],σ7):=by unfold Go.Pg.stC;rw[show aadd ⟨s5.rc,off,some sp⟩ (Int.toNat ((j:Nat):Int)*7)=⟨s5.rc,off+j*7,some sp⟩ from rfl,w1]
  have e9:Frm σ5 σ7 (· =s5.rc):=Frm.of1 hR.lt w2 w3 w4;have d2:s5.pc≠none:=by rw[hp];simp
  obtain⟨s7,h7,g7⟩:∃s7,Mac σ7 X A T N D s7 {m with nw:=m.nw+1,cells:=m.cells.set j vals[1]}/\Mov σ5 σ7 A s5 s7:=by
   refine⟨_,h5.newC (b':=s5.rc) (off:=off) (sp:=sp) (cap':=s5.cc) (cells':=m.cells.set j vals[1]) (css':=s5.css.set j (vC vals[1] q1 k1 p1)) (by simp[d3]) ?_ (e9.mono fun _ _ h=>.inr ⟨d2,h⟩) (.inl ⟨d2,rfl⟩) ?_ ?_⟩
   ·intro i hi c7;rw[List.getElem_set,List.getElem_set];split
    ·exact dM.2 ⟨q1,k1,p1,rfl,g5⟩
    ·exact h5.cel i (by simpa using hi) (by simpa using c7)
   ·rw[<-vZ (k:=7) (vC vals[1] q1 k1 p1) rfl s5.css j (by omega) h5.cl7];exact w5
   ·have:=e9.st h5.st fun e=>(h5.xc d2).2.1 e.symm;have e:fB T N D {s5 with pc:=some ⟨s5.rc,off,some sp⟩,cc:=s5.cc,rc:=s5.rc,css:=s5.css.set j (vC vals[1] q1 k1 p1)} {m with nw:=m.nw+1,cells:=m.cells.set j vals[1]}=fB T N D s5 {m with nw:=m.nw+1}:=by unfold fB;simp only[List.length_set,<-hp]
    rw[e];exact this
  unfold vC at ew;rw[hj,hp];simp only[wpS];rw[aO];refine⟨by simp;omega,?_⟩;rw[aV,ew];simp only[wpS];rw[aE];refine vR fun σ8 e8=>?_;have h8:=h7.frmN e8;have key:=eV h8 0 (v:=pL) (q:=none) (p:=none) (VlP.plain rfl rfl);unfold vC at key ⊢;simp only[wpS];rw[aE];refine WpF.mono key ?_;intro v' σ9 hq;obtain⟨rfl,_⟩:=id hq;simp only[wpS];exact⟨_,rfl,hq.up (((a8.trans d7).trans g7).trans (Mov.ofN e8))⟩
end
theorem jR{σ:aC}{b:Nat}{o:Option dV}(h:σ.get b=o):pE [(b,o)] σ=true:=by unfold pE pE objEq;rw[h];simp
theorem op_plain{t:List UInt8}{a b:Int}{v:Vl}(h:opV t a b=some v):v.args=[]/\v.env=.nil:=by
 unfold opV at h
 repeat' split at h
 all_goals first|(cases h;exact⟨rfl,rfl⟩)|cases h
section
variable{σ σ':aC}{X Y:Nat->Prop}{A:Nat}{T:TrA}{N:List NV}{D:List Dc}{s:Slt}{m:MS}{P:Program}{ov:Ov}
theorem wp_done60(g:bZ N D)(h:Mac σ X A T N D s m)(ok:okM N m)(e3:eS σ)(i:Nat){x:NV}{q:Option Addr}(k:Nat){vals:List Vl}{vq:Option Addr}(vc:Nat)(hv:aN σ (FX X A s) 7 (vlR 7 σ (FX X A s)) vq vals)(e4:Emp σ (FX X A s) vq)(d9:lOK N m.cells.length vals)(h0:0<vals.length)
  (h1:x.x.k≠5->x.x.k≠15->x.x.k≠16->x.x.k≠17->x.x.k≠19->1<vals.length) (hb:m.cells.length<=1000000000) (hw:m.nw<=1000000000) (ho:m.out.length<=1000000000) (f0:m.calls.length<=1000000000):
  WpF aG ovD 60 [bI A,.int .i64 ((i:Nat):Int),.agg (nvC x q k).toArray,.slice vq vals.length vc] σ (QM σ X A T N D s (yS N m i x vals)):=by
 refine WpF.of (T60_eq _ _ _ _ _ _ _ _ _ _ _ _ _ _) rfl ?_;rw[T60];refine aJ fun σ1 a3 e2 a7=>?_;generalize hB:σ.n=B at a7 e2;have a7:St σ1 B (nvC x q k):=a7;have a0:=h.frmN a3;have b5:=VRow.frmN hv a3;have c0:Emp σ1 (FX X A s) vq:=e4.step (S:=NoB) a3 (fun _ _ h=>h.elim) fun _ _ h=>h;have b1:=a3.fr e3;rw[aB a7 (i:=0) rfl];simp only[wpS];unfold yS;have e0:vals.getD 0 cK=vals[0]:=by simp[List.getD,h0]
 have b0:vOK N m.cells.length vals[0]:=by have:=lH d9 0;rw[e0]at this;exact this
 have c6:=b5;obtain⟨xv,cs0,rfl,b9,d8,c9⟩:=b5 0 h0;have hz:Cz σ1 (FX X A s) (aadd xv 0) 7 cs0:=⟨b9,d8,VlR.len c9⟩;obtain⟨q0,k0,p0,rfl,d5⟩:=dM.1 c9;have a8:decide (0<((vals.length:Nat):Int))=true:=decide_eq_true (by omega);rw[aA];by_cases c7:x.x.k=7
 ·have b3:=h1 (by omega) (by omega) (by omega) (by omega) (by omega);obtain⟨xv1,cs1,ex,a1,a6,a2⟩:=b5 1 b3;cases ex;have b4:Cz σ1 (FX X A s) (aadd xv 7) 7 cs1:=⟨a1,a6,VlR.len a2⟩;obtain⟨q1,k1,p1,rfl,d4⟩:=dM.1 a2;have a4:decide (1<((vals.length:Nat):Int))=true:=decide_eq_true (by omega);rw[if_pos (by simpa using c7),if_pos c7,e0,show vals.getD 1 cK=vals[1] by simp[List.getD,b3]];simp only[bP];rw[aO];refine⟨a8,?_⟩;rw[aV,hz.all];have key:=wp_call88 a0 i k0 k1 d5 d4 (fun hk=>vOK_fun b0 hk) g (by omega);unfold vC at key ⊢;simp only[wpS];rw[aO];refine⟨a4,?_⟩;rw[aV,b4.all];unfold vC;simp only[wpS];rw[aE];refine WpF.mono key ?_;intro v' σ9 hq;obtain⟨rfl,_⟩:=id hq;simp only[wpS,T60k0,T60k1,T60k2,T60k3,T60k4,T60k5,T60k6];exact⟨_,rfl,hq.up (Mov.ofN a3)⟩
 rw[if_neg (by simpa using c7),if_neg c7,aF,aA];by_cases c5:x.x.k=5
 ·rw[if_pos (by simpa using c5),if_pos c5,aB a7 (i:=2) rfl];simp only[wpS];have key:=eV a0 vc (v:=vd x.x.nm vals) (q:=some xv) (p:=none) ⟨c6,c0,kT.2 rfl⟩;unfold vC at key;rw[aE];refine WpF.mono key ?_;intro v' σ9 hq;obtain⟨rfl,_⟩:=id hq;simp only[wpS,T60k0,T60k1,T60k2,T60k3,T60k4,T60k5,T60k6];exact⟨_,rfl,hq.up (Mov.ofN a3)⟩
 rw[if_neg (by simpa using c5),if_neg c5,aF,aA];by_cases c14:x.x.k=14
 ·have b3:=h1 (by omega) (by omega) (by omega) (by omega) (by omega);obtain⟨xv1,cs1,ex,a1,a6,a2⟩:=b5 1 b3;cases ex;have b4:Cz σ1 (FX X A s) (aadd xv 7) 7 cs1:=⟨a1,a6,VlR.len a2⟩;obtain⟨q1,k1,p1,rfl,d4⟩:=dM.1 a2;have a4:decide (1<((vals.length:Nat):Int))=true:=decide_eq_true (by omega);rw[if_pos (by simpa using c14),if_pos c14,e0,show vals.getD 1 cK=vals[1] by simp[List.getD,b3]];rw[bC,aB a7 (i:=2) rfl];simp only[wpS];rw[aO];refine⟨a8,?_⟩;rw[dI hz (i:=1) rfl];simp only[wpS];rw[aO];refine⟨a4,?_⟩;rw[dI b4 (i:=1) rfl];simp only[wpS];rw[bC,aO];refine⟨kB (Nat.le_refl _) b1 (fun _ h=>by cases h),?_⟩;refine aJ fun σ2 b7 e1 d3=>?_;generalize hC:σ1.n=C at d3 e1;rw[bC,aE];refine wp_op89 _ _ _ fun σ3 a9=>?_;have c8:=fun v (hv:opV x.x.nm vals[0].n vals[1].n=some v)=>op_plain hv;generalize opV x.x.nm vals[0].n vals[1].n=O at c8 ⊢;unfold vC;simp only[wpS];rw[bC,aO];refine⟨jR (a9.get C (by omega) fun h=>h),?_⟩;refine aZ (a9.stN d3) rfl rfl fun σ4 b6 e8 e5=>?_;have a5:Frm σ1 σ4 NoB:=(b7.seq a9).fresh b6 fun j hj h=>by omega
  have h4:=a0.frmN a5;have d7:=hz.frm a5;have b8:=b4.frm a5;have d6:Mov σ σ4 A s s:=Mov.ofN (a3.seq a5);rw[aF,aA];have stk:Wp aG ovD (T60k0 (some ⟨A,0,some 0⟩) ⟨C,0,some 0⟩ .normal [.bool true]) σ4 fun e vs σ'=>Wp aG ovD (T60k3 e vs) σ' fun e vs σ'=>Wp aG ovD (T60k4 e vs) σ' fun e vs σ'=>Wp aG ovD (T60k5 e vs) σ' fun e vs σ'=>Wp aG ovD (T60k6 e vs) σ' fun _ vs σ'=>∃v,vs=[v]/\QM σ X A T N D s m.stuck v σ':=by unfold T60k0;simp only[wpS];rw[aA,if_pos rfl,aE];have key:=gB h4;refine WpF.mono key ?_;intro v' σ9 hq;obtain⟨rfl,_⟩:=id hq;simp only[wpS,T60k0,T60k1,T60k2,T60k3,T60k4,T60k5,T60k6];exact⟨_,rfl,hq.up (d6)⟩
  cases O with
  |none=>rw[if_neg (by simp)];simp only[wpS];exact stk
  |some v=>
   obtain⟨g1,g2⟩:=c8 v rfl;rw[if_pos (by rfl),aO];refine⟨a8,?_⟩;rw[dI d7 (i:=0) rfl];simp only[wpS];rw[aA];by_cases d0:vals[0].k=1
   case neg=>rw[if_neg (by simpa using d0),if_neg fun h=>d0 h.1];simp only[wpS];exact stk
   rw[if_pos (by simp[d0]),aO];refine⟨a4,?_⟩;rw[dI b8 (i:=0) rfl];simp only[wpS];by_cases d1:vals[1].k=1
   case neg=>rw[if_neg fun h=>d1 h.2,show(vals[1].k !=1)=true by simpa using d1];exact stk
   rw[if_pos ⟨d0,d1⟩,show(vals[1].k !=1)=false by simp[d1]];unfold T60k0;simp only[wpS];rw[aA,if_neg (by simp),aL e5 7 rfl];simp only[wpS];have key:=eV h4 0 (v:=v) (q:=none) (p:=none) (VlP.plain g1 g2);unfold vC at key;rw[aE];refine WpF.mono key ?_;intro v' σ9 hq;obtain⟨rfl,_⟩:=id hq;simp only[wpS,T60k0,T60k1,T60k2,T60k3,T60k4,T60k5,T60k6];exact⟨_,rfl,hq.up (d6)⟩
 rw[if_neg (by simpa using c14),if_neg c14,aF,aA];by_cases c17:x.x.k=17
 ·rw[if_pos (by simpa using c17),if_pos c17,e0];simp only[bP];rw[aO];refine⟨a8,?_⟩;rw[dI hz (i:=0) rfl];simp only[wpS];rw[aA];by_cases d0:vals[0].k=1
  case neg=>rw[if_pos (by simpa using d0),if_neg d0,aE];have key:=gB a0;refine WpF.mono key ?_;intro v' σ9 hq;obtain⟨rfl,_⟩:=id hq;simp only[wpS,T60k0,T60k1,T60k2,T60k3,T60k4,T60k5,T60k6];exact⟨_,rfl,hq.up (Mov.ofN a3)⟩
  rw[if_neg (by simp[d0]),if_pos d0,aB a0.st (i:=4) rfl];simp only[wpS];rw[aO];refine⟨a8,?_⟩;rw[dI hz (i:=1) rfl];simp only[wpS];refine qO (len:=m.out.length) a0.out (by simp) (by decide) (by decide) rfl (by intro y hy;simp at hy;subst hy;rfl) (by omega) (by omega) (fun τ f=>bF ((Kp.st a0.st (i:=4) rfl).frm f) rfl) fun σ2 b2 off2 sp2 cap2 b7 c3 e6=>?_;refine aT (i:=4) (b7.st a0.st fun hs=>(a0.xo hs.1).2 hs.2.symm) (by simp[fB]) rfl fun σ3 a9 e9 d2=>?_;have c4:Frm σ1 σ3 (fun j=>j=A\/(s.po≠none/\j=s.ro)):=b7.trans a9 (fun _ _ h=>.inr h) (fun _ _ h=>.inl h);have c1:¬b2=A:=by
   rcases c3 with⟨hp,e⟩|c3
   ·rw[e];exact(a0.xo hp).2
   ·have:=a0.st.1;omega
  obtain⟨s3,h3,e7⟩:∃s3,Mac σ3 X A T N D s3 {m with out:=m.out++[vals[0].n]}/\Mov σ1 σ3 A s s3:=⟨_,a0.newO c4 c3 (a9.row e6 c1) (by rw[show m.out.length+1=(m.out++[vals[0].n]).length by simp]at d2;exact d2)⟩;rw[aE];refine vR fun σ4 b6=>?_;have h4:=h3.frmN b6;have key:=eV h4 0 (v:=pL) (q:=none) (p:=none) (VlP.plain rfl rfl);unfold vC at key ⊢;simp only[wpS];rw[aE];refine WpF.mono key ?_;intro v' σ9 hq;obtain⟨rfl,_⟩:=id hq;simp only[wpS,T60k0,T60k1,T60k2,T60k3,T60k4,T60k5,T60k6];exact⟨_,rfl,hq.up (((Mov.ofN a3).trans e7).trans (Mov.ofN b6))⟩
 rw[if_neg (by simpa using c17),if_neg c17,aF,aA];by_cases c19:x.x.k=19
 ·rw[if_pos (by simpa using c19),if_pos c19,e0];simp only[bP];rw[aO];refine⟨a8,?_⟩;rw[aV,hz.all];have key:=wp_raise90 g a0 ok k0 d5;unfold vC at key ⊢;simp only[wpS];rw[aE];refine WpF.mono key ?_;intro v' σ9 hq;obtain⟨rfl,_⟩:=id hq;simp only[wpS,T60k0,T60k1,T60k2,T60k3,T60k4,T60k5,T60k6];exact⟨_,rfl,hq.up (Mov.ofN a3)⟩
 rw[if_neg (by simpa using c19),if_neg c19,aL a7 7 rfl];have key:=wp_cell91 a0 b1 (x:=x) (q:=q) (k:=k) vc c6 h0 (fun a b=>h1 c5 a b c17 c19) (by rw[e0];exact fun hk=>yf b0 hk) hb hw;unfold nvC at key ⊢;simp only[wpS];rw[aE];refine WpF.mono key ?_;intro v' σ9 hq;obtain⟨rfl,_⟩:=id hq;simp only[wpS,T60k0,T60k1,T60k2,T60k3,T60k4,T60k5,T60k6];exact⟨_,rfl,hq.up (Mov.ofN a3)⟩
end
section
variable{σ σ':aC}{X Y:Nat->Prop}{A:Nat}{T:TrA}{N:List NV}{D:List Dc}{s:Slt}{m:MS}{P:Program}{ov:Ov}
theorem one7{cs:List Value}{v:Vl}(h:VlR 7 σ Y v cs):∀y∈cs,one y=true:=by obtain⟨q,c,p,rfl,_⟩:=dM.1 h;exact vz v q c p
theorem VRow.whole{β:Type}{w:Nat}{R:List Value->β->Prop}{a:Addr}{l:List β}(h:aN σ Y w R (some a) l)(he:Emp σ Y (some a)):∃css:List (List Value),css.length=l.length/\σ.rdN a (l.length*w)=some css.flatten/\∀i (h1:i<css.length) (h2:i<l.length),R css[i] l[i]:=by
 have:∀m,m<=l.length->∃css:List (List Value),css.length=m/\σ.rdN a (m*w)=some css.flatten/\∀i (h1:i<css.length) (h2:i<l.length),R css[i] l[i]:=by
  intro m;induction m with
  |zero=>exact fun _=>⟨[],rfl,by simpa using (he a rfl).2,fun i h=>by cases h⟩
  |succ m ih=>
   intro hm;obtain⟨css,h1,h2,h3⟩:=ih (by omega);obtain⟨x,cs,hx,_,h4,h5⟩:=h m hm;cases hx;refine⟨css++[cs],by simp[h1],?_,fun i hi a0=>?_⟩
   ·rw[Nat.add_mul,Nat.one_mul,rdN_join h2 h4,List.flatten_append];simp
   ·by_cases hl:i<m
    ·have g:(css++[cs])[i]=css[i]'(by omega):=List.getElem_append_left (by omega);rw[g];exact h3 i _ _
    ·have:i=m:=by simp at hi;omega
     subst this;have g:(css++[cs])[i]=cs:=by simp[<-h1]
     rw[g];exact h5
 exact this _ (Nat.le_refl _)
theorem flat7{css:List (List Value)}{l:List Vl}(hl:css.length=l.length)(h:∀i (h1:i<css.length) (h2:i<l.length),VlR 7 σ Y l[i] css[i]):(∀cs∈css,cs.length=7)/\(∀y∈css.flatten,one y=true):=by
 refine⟨fun cs hc=>?_,fun y hy=>?_⟩
 ·obtain⟨i,hi,rfl⟩:=List.getElem_of_mem hc;exact(h i hi (by omega)).len
 ·obtain⟨cs,hc,hy⟩:=List.mem_flatten.1 hy;obtain⟨i,hi,rfl⟩:=List.getElem_of_mem hc;exact one7 (h i hi (by omega)) y hy
theorem wb{p:Option Addr}{l:List Vl}{c:Nat}(h:aN σ Y 7 (vlR 7 σ Y) p l)(he:Emp σ Y p)(hl:l.length<=1000000000){Q:Value->aC->Prop}
  (hQ:∀(σ':aC) (p':Option Addr) (c':Nat) (css:List (List Value)),Frm σ σ' NoB->SlE σ' σ.n p' c' 7 css.flatten->css.length=l.length->(∀i (h1:i<css.length) (h2:i<l.length),VlR 7 σ Y l[i] css[i])->Q (.slice p' l.length c') σ'):WpF aG ovD 36 [.slice p l.length c] σ Q:=by
 refine WpF.of (T36_eq _ _ _) rfl ?_;rw[T36,aA];cases p with
 |none=>
  rw[if_pos (by rfl)];have a0:l=[]:=by
   cases l with
   |nil=>rfl
   |cons v l=>obtain⟨x,cs,hx,_⟩:=h 0 (by simp);cases hx
  subst a0;simp only[wpS];exact⟨_,rfl,hQ σ none 0 [] (Frm.refl _ _) (.inl ⟨rfl,rfl,rfl⟩) rfl fun i h=>by cases h⟩
 |some a=>
  rw[if_neg (by simp),aV,cM];simp only[wpS];obtain⟨css,h1,h2,h3⟩:=VRow.whole h he;obtain⟨g1,g2⟩:=flat7 h1 h3;have hF:=Frm.new σ [] 7 NoB;have hN:=Row.new σ 7 [] 0 (by decide) rfl (fun _ h=>by cases h);have h4:(σ.newBlk [] 7).rdN a (l.length*7)=some css.flatten:=by
   by_cases h0:l.length=0
   ·obtain⟨e1,e2⟩:=he.step (S:=NoB) hF (fun _ _ h=>h.elim) (fun _ _ h=>h) a rfl;have:css=[]:=List.eq_nil_of_length_eq_zero (by omega);rw[h0,this,Nat.zero_mul];exact e2
   ·obtain⟨x,cs,hx,hv,_⟩:=h 0 (by omega);cases hx;have:=gX (k:=0) (n:=l.length*7) hF hv fun _ _ h=>h.elim;rw[show aadd a 0=a from rfl]at this;rw[this];exact h2
  rw[aV,gY h4];by_cases h0:l.length=0
  ·have hc:css=[]:=List.eq_nil_of_length_eq_zero (by omega);subst hc;rw[h0,List.flatten_nil,fV (Nat.le_refl _)];simp only[wpS];have:=hQ (σ.newBlk [] 7) (some ⟨σ.n,0,some 7⟩) 0 [] hF (.inr ⟨0,7,rfl,hN⟩) h1 h3;rw[h0]at this;exact⟨_,rfl,this⟩
  ·obtain⟨σ1,s1,c1,e1,e2,e3,e4,e5⟩:=hN.append (byt:=80) (len:=0) (n:=l.length) (ys:=css.flatten) rfl (by rw[cZ g1,h1]) (by decide) (by omega) g2 (by omega) (by omega);rw[e1];simp only[wpS];have a1:Frm σ σ1 NoB:=hF.fresh (Frm.of1 (by rw[iD];omega) e2 e3 e4) fun j hj h=>by omega
   have:=hQ σ1 (some ⟨σ.n,0,some s1⟩) c1 css a1 (.inr ⟨0,s1,rfl,e5⟩) h1 h3;rw[Nat.zero_add];exact⟨_,rfl,this⟩
theorem SlE.len{b c esz n:Nat}{p:Option Addr}{xs:List Value}(h:SlE σ b p c esz xs)(hx:xs.length=n*esz)(h0:1<=esz):n<=c:=by
 rcases h with⟨_,_,h1⟩|⟨off,s,_,hR⟩
 ·rw[h1]at hx;simp only[List.length_nil]at hx;rcases Nat.mul_eq_zero.1 hx.symm with h|h<;>omega
 ·have:=hR.len;rw[hx]at this;exact Nat.le_of_mul_le_mul_right this h0
theorem app_ex2{b cap len byt esz c2:Nat}{p:Option Addr}{a2:Addr}{xs ys:List Value}(h:SlE σ b p cap esz xs)(hs:σ.rdN a2 (1*esz)=some ys)(a0:xs.length=len*esz)(h0:1<=esz)(he:esz<64)(hy:ys.length=esz)(a1:∀y∈ys,one y=true)
  (hb:2*(len+1)*byt<=281474976710656) (a4:len+1<=4611686018427387904):
  ∃σ' b' off s cap',apS esz byt p len cap (some a2) 1 c2 σ=some (.slice (some ⟨b',off,some s⟩) (len+1) cap',σ')/\Frm σ σ' (fun j=>p≠none/\j=b)/\((p≠none/\b'=b)\/σ.n<=b')/\Row σ' b' off s cap' esz (xs++ys):=by
 rw[gY hs];rcases h with⟨rfl,rfl,rfl⟩|⟨off,s,rfl,h⟩
 ·have a3:len=0:=by
   simp only[List.length_nil]at a0;rcases Nat.mul_eq_zero.1 a0.symm with h|h
   ·exact h
   ·omega
  subst a3;exact⟨_,_,_,_,_,lX he (by decide) (by omega) a1 (by simpa using hb) (by decide),Frm.new _ _ _ _,.inr (Nat.le_refl _),Row.new σ esz ys 1 he (by omega) a1⟩
 ·obtain⟨σ',s',cap',e1,e2,e3,e4,e5⟩:=h.append (byt:=byt) (len:=len) (n:=1) (ys:=ys) a0 (by omega) h0 (by decide) a1 hb a4;exact⟨σ',b,off,s',cap',e1,(Frm.of1 h.lt e2 e3 e4).mono fun j _ h=>⟨by simp,h⟩,.inl ⟨by simp,rfl⟩,e5⟩
end
section
variable{σ σ':aC}{X Y:Nat->Prop}{A:Nat}{T:TrA}{N:List NV}{D:List Dc}{s:Slt}{m:MS}{P:Program}{ov:Ov}
theorem bZ.two(g:bZ N D){i:Nat}(hi:i<N.length)(hp:¬20<N[i].x.k)(h0:0<N[i].kids.length)(h5:N[i].x.k≠5)(h6:N[i].x.k≠6)(a4:N[i].x.k≠11)(a3:N[i].x.k≠15)(a2:N[i].x.k≠16)(a1:N[i].x.k≠17)(a0:N[i].x.k≠19):2<=N[i].kids.length:=by
 have hs:=(g.node i hi).shape;unfold bT at hs;simp only[Bool.and_eq_true,decide_eq_true_eq]at hs;have h1:=hs.1.1.1.1.1;have:N[i].x.k=1\/N[i].x.k=2\/N[i].x.k=3\/N[i].x.k=4\/N[i].x.k=18\/N[i].x.k=7\/N[i].x.k=8\/N[i].x.k=9\/N[i].x.k=10\/N[i].x.k=12\/N[i].x.k=13\/N[i].x.k=14\/N[i].x.k=20:=by omega
 rcases this with h|h|h|h|h|h|h|h|h|h|h|h|h
 ·have:=g.kidsOf hi 1 0 h rfl;omega
 ·have:=g.kidsOf hi 2 0 h rfl;omega
 ·have:=g.kidsOf hi 3 0 h rfl;omega
 ·have:=g.kidsOf hi 4 0 h rfl;omega
 ·have:=g.kidsOf hi 18 0 h rfl;omega
 ·have:=g.kidsOf hi 7 2 h rfl;omega
 ·have:=g.kidsOf hi 8 2 h rfl;omega
 ·have:=g.kidsOf hi 9 2 h rfl;omega
 ·have:=g.kidsOf hi 10 3 h rfl;omega
 ·have:=g.kidsOf hi 12 2 h rfl;omega
 ·have:=g.kidsOf hi 13 2 h rfl;omega
 ·have:=g.kidsOf hi 14 2 h rfl;omega
 ·have:=g.kidsOf hi 20 2 h rfl;omega
structure Few(m:MS):Prop where
 cells:m.cells.length<=1000000000
 nw:m.nw<=1000000000
 out:m.out.length<=1000000000
 calls:m.calls.length<=1000000000
 read:m.read<=m.inp.length
 inp:m.inp.length<=1000000
theorem eU(g:bZ N D)(h:Mac σ X A T N D s m)(ok:okM N m)(k1:eS σ)(few:Few m){v:Vl}{vq vp:Option Addr}(vc:Nat)(hv:VlP 7 σ (FX X A s) v vq vp)(i6:vOK N m.cells.length v):
  WpF aG ovD 39 [bI A,.agg (vC v vq vc vp).toArray] σ (QM σ X A T N D s (eO N m v)):=by
 refine WpF.of (T39_eq _ _ _ _ _ _ _ _ _ _) rfl ?_;rw[T39];refine aJ fun σ1 c6 j4 b5=>?_;generalize hB:σ.n=B at b5 j4;have b5:St σ1 B (vC v vq vc vp):=b5;have h1:=h.frmN c6;have f2:=hv.frmN c6;simp only[wpS];rw[aB h1.st (i:=21) rfl];simp only[wpS];rw[aA];have hA:¬B=A:=fun e=>by have:=h.st.1;omega
 have d0:WtR σ1 (FX X A s) m.k s.pk:=h1.k;unfold eO;cases hk:m.k with
 |nil=>rw[hk]at d0;have e2:s.pk=none:=d0;rw[if_pos (by rw[e2];rfl),aL b5 7 rfl];unfold vC;simp only[wpS];refine aT (i:=9) h1.st (by simp[fB]) rfl fun σ2 b3 j3 d1=>?_;rw[bC,aO];refine⟨cQ ((b3.st b5 hA).ldAll 7 rfl) rfl,?_⟩;refine yH (i:=12) d1 (by simp[fB]) rfl fun σ3 a6 b7 e4=>?_;simp only[wpS];have hF:=b3.seq a6;refine⟨_,rfl,rfl,{s with vq:=vq,vc:=vc,vp:=vp},?_,(Mov.ofN c6).trans (Mov.ofA hF rfl)⟩;exact h1.upd hF e4 (by constructor<;>rfl) f2 h1.env e2 h1.calls
 |cons w r=>
  rw[hk]at d0;obtain⟨x,pe,q,c,pc,pu,e2,i2,i1,i0,g9,g8,g7,f0⟩:=d0;have e9:Cz σ1 (FX X A s) x 5 [.int .i64 (atI w.at_),.pointer pe,.slice q w.vals.length c,.pointer pc,.pointer pu]:=⟨i2,i1,rfl⟩;have f1:=ok.k w (by rw[hk];simp);rw[e2,if_neg (by simp)];simp only[wpS];rw[dI e9 (i:=4) rfl];simp only[wpS];refine aT (i:=21) h1.st (by simp[fB]) rfl fun σ2 b3 j3 d1=>?_;obtain⟨s2,h2,b1⟩:∃s2,Mac σ2 X A T N D s2 {m with k:=r}/\Mov σ1 σ2 A s s2:=⟨{s with pk:=pu},h1.upd b3 d1 (by constructor<;>rfl) h1.v h1.env f0 h1.calls,Mov.ofA b3 rfl⟩;have c1:Mov σ σ2 A s s2:=(Mov.ofN c6).trans b1;have d4:=b3.st b5 hA;have c7:Cz σ2 (FX X A s2) x 5 [.int .i64 (atI w.at_),.pointer pe,.slice q w.vals.length c,.pointer pc,.pointer pu]:=e9.mov b1;have d7:VlP 7 σ2 (FX X A s2) v vq vp:=f2.mov b1;have k5:EnR 7 σ2 (FX X A s2) w.env pe:=i0.mov b1;have j0:aN σ2 (FX X A s2) 7 (vlR 7 σ2 (FX X A s2)) q w.vals:=VRow.mov g9 b1;have j5:Emp σ2 (FX X A s2) q:=g8.step b1.frm (fun _ _ h=>.inr h) b1.fx;have f5:LkR σ2 (FX X A s2) w.calls pc:=g7.mov b1;have i4:WtR σ2 (FX X A s2) r pu:=f0.mov b1;clear d1;rw[dI c7 (i:=0) rfl];simp only[wpS];rw[aA];cases ha:w.at_ with
  |none=>rw[if_pos (by simp[atI]),dI c7 (i:=3) rfl];simp only[wpS];refine aT (i:=22) h2.st (by simp[fB]) rfl fun σ3 a6 b7 e4=>?_;obtain⟨s3,h3,g4⟩:∃s3,Mac σ3 X A T N D s3 {m with k:=r,calls:=w.calls}/\Mov σ2 σ3 A s2 s3:=⟨{s2 with pl:=pc},h2.upd a6 e4 (by constructor<;>rfl) h2.v h2.env h2.k f5,Mov.ofA a6 rfl⟩;have i8:=d7.mov g4;rw[aL (a6.st d4 hA) 7 rfl];have key:=eV h3 vc i8;unfold vC at key ⊢;simp only[wpS];rw[aE];refine WpF.mono key ?_;intro v' σ9 hq;obtain⟨rfl,_⟩:=id hq;simp only[wpS];exact⟨_,rfl,hq.up (c1.trans g4)⟩
  |some i=>
   rw[if_neg (by rw[decide_eq_true_eq];show ¬((i:Nat):Int)<0;omega)];obtain⟨a9,d9,j6,f4⟩:=f1.2.2 i ha;have l7:w.vals.length<=1000000:=by have:=h.tree.kl _ (List.getElem_mem a9);omega
   have b8:eS σ2:=b3.fr (c6.fr k1);rw[bC,dI c7 (i:=2) rfl];simp only[wpS];rw[aL d4 7 rfl];have i3:VlR 7 σ2 (FX X A s2) v (vC v vq vc vp):=dM.2 ⟨vq,vc,vp,rfl,d7⟩;unfold vC;simp only[wpS];rw[bC,aO];refine⟨kB (Nat.le_refl _) b8 (fun _ h=>by cases h),?_⟩;rw[aV,cM];simp only[wpS];have a6:=Frm.new σ2 (vC v vq vc vp) 7 NoB;have b9:=Row.new σ2 7 (vC v vq vc vp) 1 (by decide) rfl (vz v vq vc vp);have b7:=iD σ2 (vC v vq vc vp) 7;unfold vC at a6 b9 b7;generalize σ2.newBlk _ 7=σ3 at a6 b9 b7 ⊢;generalize hC:σ2.n=C at b9 b7 ⊢;rw[bC,aE];refine wb (Y:=FX X A s2) (VRow.frmN j0 a6) (j5.step (S:=NoB) a6 (fun _ _ h=>h.elim) fun _ _ h=>h) (by omega) fun σ4 p4 c4 css c3 g3 c9 b2=>?_;have e8:=a6.seq c3;simp only[wpS];rw[bC,aO];refine⟨cQ ((e8.stN d4).ldAll 7 rfl) rfl,?_⟩;rw[bC,aO];refine⟨jR (c3.get C (by omega) fun h=>h),?_⟩;obtain⟨g1,g2⟩:=flat7 c9 b2;have f8:=c3.rowN b9;have b6:σ4.rdN ⟨C,0,some 7⟩ (1*7)=some (vC v vq vc vp):=by have:=f8.rdN (i:=0) (k:=1*7) (Nat.le_refl _);exact this
   obtain⟨σ5,b',off,sp,cap',ea,g5,f6,e5⟩:=app_ex2 (byt:=80) (c2:=1) (len:=w.vals.length) g3 b6 (by rw[cZ g1,c9]) (by decide) (by decide) rfl (vz v vq vc vp) (by omega) (by omega);have c5:Frm σ3 σ5 NoB:=c3.fresh g5 fun j hj h=>by omega
   have a1:=a6.seq c5;have k9:σ2.n<=b':=by
    rcases f6 with⟨_,e⟩|e
    ·omega
    ·have:=c3.n;omega
   have f7:∀τ:aC,¬FX X A s2 b':=fun _ hX=>by have:=h2.fn _ hX;omega
   have l1:aN σ5 (FX X A s2) 7 (vlR 7 σ5 (FX X A s2)) (some ⟨b',off,some sp⟩) (w.vals++[v]):=by
    refine aN.own (css:=css++[vC v vq vc vp]) (by rw[List.flatten_append];simpa using e5) (f7 σ5) (by simp[c9]) (fun cs hc=>?_) fun j hj k0=>?_
    ·rcases List.mem_append.1 hc with hc|hc
     ·exact g1 _ hc
     ·rw[List.mem_singleton.1 hc];try rfl
    ·by_cases hl:j<w.vals.length
     ·have e1:(css++[vC v vq vc vp])[j]=css[j]'(by omega):=List.getElem_append_left (by omega);have e2:(w.vals++[v])[j]=w.vals[j]:=List.getElem_append_left hl;rw[e1,e2];exact gC (S:=NoB) c5 (fun _ _ h=>h.elim) (fun _ _ h=>h) _ _ (b2 j _ hl)
     ·have:j=w.vals.length:=by simp at k0;omega
      subst this;have e1:(css++[vC v vq vc vp])[w.vals.length]=vC v vq vc vp:=by simp[<-c9]
      have e2:(w.vals++[v])[w.vals.length]=v:=by simp
      rw[e1,e2];exact gC (S:=NoB) a1 (fun _ _ h=>h.elim) (fun _ _ h=>h) _ _ i3
   have l5:Emp σ5 (FX X A s2) (some ⟨b',off,some sp⟩):=e5.emp (f7 σ5);rw[aV,ea];simp only[wpS];have h5:=h2.frmN a1;have d5:=c7.frm a1;have l6:=a1.stN d4;have i7:=d7.frmN a1;have k4:=k5.frmN a1;have k7:LkR σ5 (FX X A s2) w.calls pc:=gV (S:=NoB) a1 (fun _ _ h=>h.elim) (fun _ _ h=>h) f5;have e6:Mov σ σ5 A s s2:=c1.trans (Mov.ofN a1);have e3:=a1.fr b8;clear e5 ea f6 g5 g3 f8 b9 b6 b2;rw[bS,aB h5.st (i:=0) rfl];simp only[wpS];rw[dI d5 (i:=0) rfl];have j7:Kp σ5 (aadd x 0) (.int .i64 ((i:Nat):Int)):=d5.kp (i:=0) (by rw[ha];rfl);rw[ha];unfold atI;simp only[wpS];refine kC h5.tree.tree.nodes a9 rfl fun xn cs a7 f3=>?_;unfold vV;rw[jI a9];have k8:=fun hk=>g.kidsOf a9 8 2 hk rfl;have k10:=fun hk=>g.kidsOf a9 10 3 hk rfl;have k11:=fun hk=>g.matchOdd a9 hk;have k12:=fun hk=>g.kidsOf a9 12 2 hk rfl;have k2:=fun a b c d e f=>g.two a9 d9 (by omega) a f4 b c d e f;have kN:=fun j hj=>(g.kid (i:=i) (j:=j) a9 hj).2;have kl:=h.tree.kl _ (List.getElem_mem a9);generalize N[i]=nv at a7 f3 j6 f4 k8 k10 k11 k12 k2 kN kl ⊢;obtain⟨xq,xk,rfl,d8,_⟩:=a7;simp only[wpS];refine aJ fun σ6 d2 j2 f9=>?_;generalize hE:σ5.n=E at f9 j2;rw[bC,aO];refine⟨cQ (f3 σ6 d2) (bF (j7.frm d2) (bF ((Kp.st h5.st (i:=0) rfl).frm d2) rfl)),?_⟩;refine aZ f9 rfl rfl fun σ7 l3 l9 a5=>?_;have a0:Frm σ5 σ7 NoB:=d2.fresh l3 fun j hj h=>by omega
   have a5:St σ7 E (nvC nv xq xk):=a5;have h7:=h5.frmN a0;have a8:=d5.frm a0;have d3:=a0.stN l6;have d6:=i7.frmN a0;have b4:=k4.frmN a0;have k6:LkR σ7 (FX X A s2) w.calls pc:=gV (S:=NoB) a0 (fun _ _ h=>h.elim) (fun _ _ h=>h) k7;have g0:=VRow.frmN l1 a0;have g6:Emp σ7 (FX X A s2) (some ⟨b',off,some sp⟩):=l5.step (S:=NoB) a0 (fun _ _ h=>h.elim) fun _ _ h=>h;have a3:Mov σ σ7 A s s2:=e6.trans (Mov.ofN a0);have e0:=a0.fr e3;have a2:=d8.later a0;rw[aB a5 (i:=0) rfl];simp only[wpS];rw[aA];by_cases c8:nv.x.k=8
   ·have kk:=k8 c8;rw[if_pos (by simpa using c8),if_pos c8,aB a5 (i:=4) rfl];simp only[wpS];refine iT a2 (i:=1) (o:=0) rfl (by omega) rfl (by decide) rfl fun y cs a7=>?_;unfold gE at a7;subst a7;refine⟨_,rfl,fun j8=>?_⟩;simp only[wpS];rw[aB a5 (i:=2) rfl];simp only[wpS];rw[aL d3 7 rfl];unfold vC;simp only[wpS];rw[dI a8 (i:=1) rfl];simp only[wpS];refine aJ fun σ8 a4 j1 c0=>?_;rw[bC,aO];refine⟨bF (j8.frm a4) (bF ((Kp.st a5 (i:=4) rfl).frm a4) rfl),?_⟩;have h8:=h7.frmN a4;have nX8:¬FX X A s2 σ7.n:=fun hX=>by have:=h7.fn _ hX;omega
    have k3:EnR 7 σ8 (FX X A s2) (.cons nv.x.nm v w.env) (some ⟨σ7.n,0,some 0⟩):=iF (cs:=vC v vq vc vp) (pu:=pe) c0 nX8 (dM.2 ⟨_,_,_,rfl,d6.frmN a4⟩) (b4.frmN a4);have ek:fQ nv 1=nv.kids[1]:=by unfold fQ;simp[List.getD,show 1<nv.kids.length by omega]
    rw[aE,ek];have key:=fJ (i:=nv.kids[1]) h8 k3;refine WpF.mono key ?_;intro v' σ9 hq;obtain⟨rfl,_⟩:=id hq;simp only[wpS,T39k0];exact⟨_,rfl,hq.up (a3.trans (Mov.ofN a4))⟩
   rw[if_neg (by simpa using c8),if_neg c8,aA];by_cases c10:nv.x.k=10
   ·rw[if_pos (by simpa using c10),if_pos c10,aL a5 7 rfl];have key:=wp_branch58 (k:=xk) h7 a2 (k10 c10) a8 b4 v vq vp vc;unfold nvC vC at*;simp only[wpS];rw[aL d3 7 rfl];simp only[wpS];rw[aE];refine WpF.mono key ?_;intro v' σ9 hq;obtain⟨rfl,_⟩:=id hq;simp only[wpS,T39k0];exact⟨_,rfl,hq.up (a3)⟩
   rw[if_neg (by simpa using c10),if_neg c10,aA];by_cases c11:nv.x.k=11
   ·rw[if_pos (by simpa using c11),if_pos c11,aL a5 7 rfl];have key:=wp_match59 (k:=xk) g h7 a2 (k11 c11).1 kl kN a8 b4 vc d6;unfold nvC vC at*;simp only[wpS];rw[aL d3 7 rfl];simp only[wpS];rw[aE];refine WpF.mono key ?_;intro v' σ9 hq;obtain⟨rfl,_⟩:=id hq;simp only[wpS,T39k0];exact⟨_,rfl,hq.up (a3)⟩
   rw[if_neg (by simpa using c11),if_neg c11,aA];by_cases c12:nv.x.k=12
   ·have kk:=k12 c12;rw[if_pos (by simpa using c12),if_pos c12,aB a5 (i:=4) rfl];simp only[wpS];refine jH a2 (i:=1) (o:=0) rfl (by omega) rfl (by decide) rfl fun cs a7=>?_;unfold gE at a7;subst a7;refine⟨_,rfl,?_⟩;simp only[wpS];rw[dI a8 (i:=1) rfl];simp only[wpS];have ek:fQ nv 1=nv.kids[1]:=by unfold fQ;simp[List.getD,show 1<nv.kids.length by omega]
    rw[aE,ek];have key:=fJ (i:=nv.kids[1]) h7 b4;refine WpF.mono key ?_;intro v' σ9 hq;obtain⟨rfl,_⟩:=id hq;simp only[wpS,T39k0];exact⟨_,rfl,hq.up (a3)⟩
   rw[if_neg (by simpa using c12),if_neg c12,aA];by_cases c20:nv.x.k=20
   ·rw[if_pos (by simpa using c20),if_pos c20,aL d3 7 rfl];have key:=eV h7 vc d6;unfold vC at*;simp only[wpS];rw[aE];refine WpF.mono key ?_;intro v' σ9 hq;obtain⟨rfl,_⟩:=id hq;simp only[wpS,T39k0];exact⟨_,rfl,hq.up (a3)⟩
   rw[if_neg (by simpa using c20),if_neg c20];simp only[wpS,T39k0];rw[aB a5 (i:=4) rfl];simp only[wpS];rw[aA];have elen:(w.vals++[v]).length=w.vals.length+1:=by simp
   by_cases cl:w.vals.length+1<nv.kids.length
   ·rw[if_pos (by simp;omega),if_pos cl,dI a8 (i:=0) rfl];simp only[wpS];rw[dI a8 (i:=1) rfl];simp only[wpS];rw[dI a8 (i:=3) rfl];simp only[wpS];rw[dI a8 (i:=4) rfl];simp only[wpS];rw[ha];refine aJ fun σ8 a4 j1 c0=>?_;have c0:St σ8 σ7.n [.int .i64 (atI (some i)),.pointer pe,.slice (some ⟨b',off,some sp⟩) (w.vals++[v]).length cap',.pointer pc,.pointer pu]:=by rw[elen];exact c0
    have h8:=h7.frmN a4;have nX8:¬FX X A s2 σ7.n:=fun hX=>by have:=h7.fn _ hX;omega
    have i9:WtR σ8 (FX X A s2) r pu:=lP (S:=NoB) ((a1.seq a0).seq a4) (fun _ _ h=>h.elim) (fun _ _ h=>h) i4;have j9:WtR σ8 (FX X A s2) (⟨some i,w.env,w.vals++[v],w.calls⟩::r) (some ⟨σ7.n,0,some 0⟩):=WtR_new (w:=⟨some i,w.env,w.vals++[v],w.calls⟩) c0 nX8 (b4.frmN a4) (VRow.frmN g0 a4) (g6.step (S:=NoB) a4 (fun _ _ h=>h.elim) fun _ _ h=>h) (gV (S:=NoB) a4 (fun _ _ h=>h.elim) (fun _ _ h=>h) k6) i9;refine aT (i:=21) h8.st (by simp[fB]) rfl fun σ9 e7 l8 l0=>?_;obtain⟨s9,h9,l2⟩:∃s9,Mac σ9 X A T N D s9 {m with k:=⟨some i,w.env,w.vals++[v],w.calls⟩::r}/\Mov σ8 σ9 A s2 s9:=⟨{s2 with pk:=some ⟨σ7.n,0,some 0⟩},h8.upd e7 l0 (by constructor<;>rfl) h8.v h8.env j9 h8.calls,Mov.ofA e7 rfl⟩;have b0:Mov σ7 σ9 A s2 s9:=(Mov.ofN a4).trans l2;have l4:¬E=A:=fun e=>by have:=h5.st.1;omega
    rw[aB (e7.st (a4.stN a5) l4) (i:=4) rfl];simp only[wpS];refine jH (natRow.mov a2 b0) (i:=w.vals.length+1) (o:=0) rfl (by omega) rfl (by decide) rfl fun cs a7=>?_;unfold gE at a7;subst a7;refine⟨_,rfl,?_⟩;simp only[wpS];rw[dI (a8.mov b0) (i:=1) rfl];simp only[wpS];have ek:fQ nv (w.vals.length+1)=nv.kids[w.vals.length+1]:=by unfold fQ;simp[List.getD,show w.vals.length+1<nv.kids.length by omega]
    rw[aE,ek];have key:=fJ (i:=nv.kids[w.vals.length+1]) h9 (b4.mov b0);refine WpF.mono key ?_;intro v' σ10 hq;obtain⟨rfl,_⟩:=id hq;simp only[wpS,T39k0];exact⟨_,rfl,hq.up (a3.trans b0)⟩
   ·rw[if_neg (by simp;omega),if_neg cl,dI a8 (i:=0) rfl];simp only[wpS];rw[ha,aL a5 7 rfl];have okr:okM N {m with k:=r}:=⟨ok.at_,ok.env,ok.v,ok.cells,fun w' i5=>ok.k w' (by rw[hk];simp[i5])⟩;have key:=wp_done60 g h7 okr e0 i (x:=nv) (q:=xq) xk (vals:=w.vals++[v]) (vq:=some ⟨b',off,some sp⟩) cap' g0 g6 (qN f1.2.1 (rG i6)) (by rw[elen];omega) (fun a b c d e=>by have:=k2 a c11 b c d e;rw[elen];omega) few.cells few.nw few.out few.calls;rw[elen]at key;unfold nvC at key ⊢;unfold atI;simp only[wpS];rw[aE];refine WpF.mono key ?_;intro v' σ10 hq;obtain⟨rfl,_⟩:=id hq;simp only[wpS,T39k0];exact⟨_,rfl,hq.up (a3)⟩
end
section
variable{σ σ':aC}{X Y:Nat->Prop}{A:Nat}{T:TrA}{N:List NV}{D:List Dc}{s:Slt}{m:MS}{P:Program}{ov:Ov}
theorem wp_begin40(g:bZ N D)(h:Mac σ X A T N D s m)(ok:okM N m)(d6:eS σ)(few:Few m):WpF aG ovD 40 [bI A] σ (QM σ X A T N D s (sW N m)):=by
 refine WpF.of (T40_eq _) rfl ?_;rw[T40];simp only[wpS];rw[bS,aB h.st (i:=0) rfl];simp only[wpS];rw[aB h.st (i:=19) rfl];simp only[wpS];obtain⟨b4,d0⟩:=ok.at_;refine kC h.tree.tree.nodes b4 rfl fun xn cs a9 c7=>?_;unfold sW;rw[jI b4];have k9:=fun hk=>g.kidsOf b4 9 2 hk rfl;have f6:N[m.at_].x.k=6->wj N ((m.at_:Nat):Int):=fun hk=>⟨_,rfl,b4,.inl hk⟩;generalize N[m.at_]=nv at a9 c7 k9 f6 ⊢;obtain⟨xq,xk,rfl,b7,_⟩:=a9;simp only[wpS];refine aJ fun σ1 b6 d3 c8=>?_;generalize hE:σ.n=E at c8 d3;rw[bC,aO];refine⟨cQ (c7 σ1 b6) (bF ((Kp.st h.st (i:=19) rfl).frm b6) (bF ((Kp.st h.st (i:=0) rfl).frm b6) rfl)),?_⟩;refine aZ c8 rfl rfl fun σ2 e1 e3 a4=>?_;have hF:Frm σ σ2 NoB:=b6.fresh e1 fun j hj h=>by omega
 have a4:St σ2 E (nvC nv xq xk):=a4;have h2:=h.frmN hF;have a8:=b7.later hF;have a1:=hF.fr d6;have a5:Mov σ σ2 A s s:=Mov.ofN hF;rw[aB a4 (i:=0) rfl];simp only[wpS];rw[aA];by_cases c1:nv.x.k=1
 ·rw[if_pos (by simpa using c1),if_pos c1,aB a4 (i:=1) rfl];simp only[wpS];rw[aE];refine pQ _ fun σ3 a0=>?_;have key:=eU g (h2.frmN a0) ok (a0.fr a1) few 0 (v:=xV nv.x.n) (vq:=none) (vp:=none) (VlP.plain rfl rfl) vG;unfold vC at key ⊢;simp only[wpS];rw[aE];refine WpF.mono key ?_;intro v' σ9 hq;obtain⟨rfl,_⟩:=id hq;simp only[wpS,T40k0,T40k1,T40k2,T40k3,T40k4,T40k5,T40k6,T40k7];exact⟨_,rfl,hq.up (a5.trans (Mov.ofN a0))⟩
 rw[if_neg (by simpa using c1),if_neg c1,aF,aA];by_cases c2:nv.x.k=2
 ·rw[if_pos (by simpa using c2),if_pos c2,aB a4 (i:=1) rfl];simp only[wpS];have key:=eU g h2 ok a1 few 0 (v:=boolV nv.x.n) (vq:=none) (vp:=none) (VlP.plain rfl rfl) yJ;unfold vC at key;rw[aE];refine WpF.mono key ?_;intro v' σ9 hq;obtain⟨rfl,_⟩:=id hq;simp only[wpS,T40k0,T40k1,T40k2,T40k3,T40k4,T40k5,T40k6,T40k7];exact⟨_,rfl,hq.up (a5)⟩
 rw[if_neg (by simpa using c2),if_neg c2,aF,aA];by_cases c3:nv.x.k=3
 ·rw[if_pos (by simpa using c3),if_pos c3,aE];refine vR fun σ3 a0=>?_;have key:=eU g (h2.frmN a0) ok (a0.fr a1) few 0 (v:=pL) (vq:=none) (vp:=none) (VlP.plain rfl rfl) nW;unfold vC at key ⊢;simp only[wpS];rw[aE];refine WpF.mono key ?_;intro v' σ9 hq;obtain⟨rfl,_⟩:=id hq;simp only[wpS,T40k0,T40k1,T40k2,T40k3,T40k4,T40k5,T40k6,T40k7];exact⟨_,rfl,hq.up (a5.trans (Mov.ofN a0))⟩
 rw[if_neg (by simpa using c3),if_neg c3,aF,aA];by_cases c4:nv.x.k=4
 ·rw[if_pos (by simpa using c4),if_pos c4,bC];rw[aB h2.st (i:=20) rfl];simp only[wpS];rw[aB a4 (i:=2) rfl];simp only[wpS];rw[bC,aO];refine⟨kB (Nat.le_refl _) a1 (fun _ h=>by cases h),?_⟩;refine aJ fun σ3 a0 b3 b0=>?_;generalize hC:σ2.n=C at b0 b3;rw[bC,aE];have d8:EnR 7 σ3 (fun j=>FX X A s j\/j=C) m.env s.pe:=EnR_step (S:=NoB) a0 (fun _ _ h=>h.elim) (fun j hj h=>h.elim id fun h=>by omega) _ _ h2.env;refine wp_find63 d8 nv.x.nm (fun d1 σ4 a2=>?_) fun v b1 q c p σ4 a2 hP=>?_
  ·rw[d1];simp only[wpS];rw[bC,aO];refine⟨jR (a2.get C (by omega) fun h=>h),?_⟩;refine aZ (a2.stN b0) rfl rfl fun σ5 a6 c5 b5=>?_;have a3:Frm σ2 σ5 NoB:=(a0.seq a2).fresh a6 fun j hj h=>by omega
   rw[aA,if_pos (by rfl),aE];have key:=gB (h2.frmN a3);refine WpF.mono key ?_;intro v' σ9 hq;obtain⟨rfl,_⟩:=id hq;simp only[wpS,T40k0,T40k1,T40k2,T40k3,T40k4,T40k5,T40k6,T40k7];exact⟨_,rfl,hq.up (a5.trans (Mov.ofN a3))⟩
  ·rw[b1];unfold vC;simp only[wpS];rw[bC,aO];refine⟨jR (a2.get C (by omega) fun h=>h),?_⟩;refine aZ (a2.stN b0) rfl rfl fun σ5 a6 c5 b5=>?_;have a3:Frm σ2 σ5 NoB:=(a0.seq a2).fresh a6 fun j hj h=>by omega
   have d9:VlP 7 σ5 (FX X A s) v q p:=hP.step a6 (fun _ _ h=>.inr h) fun _ _ h=>.inl h;rw[aA,if_neg (by simp),aL b5 7 rfl];simp only[wpS];have key:=eU g (h2.frmN a3) ok (a3.fr a1) few c (v:=v) (vq:=q) (vp:=p) d9 (find_ok ok.env b1);unfold vC at key;rw[aE];refine WpF.mono key ?_;intro v' σ9 hq;obtain⟨rfl,_⟩:=id hq;simp only[wpS,T40k0,T40k1,T40k2,T40k3,T40k4,T40k5,T40k6,T40k7];exact⟨_,rfl,hq.up (a5.trans (Mov.ofN a3))⟩
 rw[if_neg (by simpa using c4),if_neg c4,aF,aA];by_cases c6:nv.x.k=6
 ·rw[if_pos (by simpa using c6),if_pos c6,aB h2.st (i:=19) rfl];simp only[wpS];rw[aB h2.st (i:=20) rfl];simp only[wpS];have key:=eU g h2 ok a1 few 0 (v:=zt m.at_ m.env) (vq:=none) (vp:=s.pe) ⟨aN.nil,Emp.none,h2.env⟩ (yQ (f6 c6) ok.env);unfold vC at key;rw[aE];refine WpF.mono key ?_;intro v' σ9 hq;obtain⟨rfl,_⟩:=id hq;simp only[wpS,T40k0,T40k1,T40k2,T40k3,T40k4,T40k5,T40k6,T40k7];exact⟨_,rfl,hq.up (a5)⟩
 rw[if_neg (by simpa using c6),if_neg c6,aF,aA];by_cases c9:nv.x.k=9
 ·have kk:=k9 c9;rw[if_pos (by simpa using c9),if_pos c9,aB h2.st (i:=19) rfl];simp only[wpS];rw[aB h2.st (i:=20) rfl];simp only[wpS];refine aJ fun σ3 a0 b3 b0=>?_;generalize hC:σ2.n=C at b0 b3;rw[bC,aO];refine⟨bF ((Kp.st h2.st (i:=20) rfl).frm a0) (bF ((Kp.st h2.st (i:=19) rfl).frm a0) rfl),?_⟩;refine aZ b0 rfl rfl fun σ4 a2 d2 b8=>?_;have a7:Frm σ2 σ4 NoB:=a0.fresh a2 fun j hj h=>by omega
  have h4:=h2.frmN a7;have b9:=a7.stN a4;rw[aB b9 (i:=4) rfl];simp only[wpS];refine iT (a8.later a7) (i:=1) (o:=0) rfl (by omega) rfl (by decide) rfl fun y cs a9=>?_;unfold gE at a9;subst a9;refine⟨_,rfl,fun d4=>?_⟩;simp only[wpS];rw[aB b9 (i:=2) rfl];simp only[wpS];rw[aL b8 7 rfl];simp only[wpS];rw[aB h4.st (i:=20) rfl];simp only[wpS];refine aJ fun σ5 a6 c5 b5=>?_;rw[bC,aO];refine⟨bF (d4.frm a6) (bF ((Kp.st b9 (i:=4) rfl).frm a6) rfl),?_⟩;have h5:=h4.frmN a6;have nX5:¬FX X A s σ4.n:=fun hX=>by have:=h4.fn _ hX;omega
  have d7:EnR 7 σ5 (FX X A s) (.cons nv.x.nm (zt m.at_ m.env) m.env) (some ⟨σ4.n,0,some 0⟩):=iF (cs:=vC (zt m.at_ m.env) none 0 s.pe) (pu:=s.pe) b5 nX5 (dM.2 ⟨_,_,_,rfl,aN.nil,Emp.none,h5.env⟩) h5.env;have ek:fQ nv 1=nv.kids[1]:=by unfold fQ;simp[List.getD,show 1<nv.kids.length by omega]
  rw[aE,ek];have key:=fJ (i:=nv.kids[1]) h5 d7;refine WpF.mono key ?_;intro v' σ9 hq;obtain⟨rfl,_⟩:=id hq;simp only[wpS,T40k0,T40k1,T40k2,T40k3,T40k4,T40k5,T40k6,T40k7];exact⟨_,rfl,hq.up ((a5.trans (Mov.ofN a7)).trans (Mov.ofN a6))⟩
 rw[if_neg (by simpa using c9),if_neg c9,aF,aA];by_cases c18:nv.x.k=18
 ·rw[if_pos (by simpa using c18),if_pos c18,aE];have key:=wp_input65 h2 few.read few.inp;refine WpF.mono key ?_;intro v' σ9 hq;obtain⟨rfl,_⟩:=id hq;simp only[wpS,T40k0,T40k1,T40k2,T40k3,T40k4,T40k5,T40k6,T40k7];exact⟨_,rfl,hq.up (a5)⟩
 rw[if_neg (by simpa using c18),if_neg c18,aB a4 (i:=4) rfl];simp only[wpS];rw[aA];by_cases c0:nv.kids=[]
 ·rw[if_pos (by simp[c0]),if_pos c0,aB a4 (i:=2) rfl];simp only[wpS];have key:=eU g h2 ok a1 few 0 (v:=vd nv.x.nm []) (vq:=none) (vp:=none) (VlP.plain rfl rfl) (yZ eM);unfold vC at key;rw[aE];refine WpF.mono key ?_;intro v' σ9 hq;obtain⟨rfl,_⟩:=id hq;simp only[wpS,T40k0,T40k1,T40k2,T40k3,T40k4,T40k5,T40k6,T40k7];exact⟨_,rfl,hq.up (a5)⟩
 ·have hl:0<nv.kids.length:=List.length_pos_iff.2 c0;rw[if_neg (by simp;omega),if_neg c0,aB h2.st (i:=19) rfl];simp only[wpS];rw[aB h2.st (i:=20) rfl];simp only[wpS];rw[aB h2.st (i:=22) rfl];simp only[wpS];rw[aB h2.st (i:=21) rfl];simp only[wpS];refine aJ fun σ3 a0 b3 b0=>?_;have h3:=h2.frmN a0;have nX3:¬FX X A s σ2.n:=fun hX=>by have:=h2.fn _ hX;omega
  have d5:WtR σ3 (FX X A s) (⟨some m.at_,m.env,[],m.calls⟩::m.k) (some ⟨σ2.n,0,some 0⟩):=WtR_new (w:=⟨some m.at_,m.env,[],m.calls⟩) b0 nX3 h3.env aN.nil Emp.none h3.calls h3.k;refine aT (i:=21) h3.st (by simp[fB]) rfl fun σ4 a2 d2 b8=>?_;obtain⟨s4,h4,e0⟩:∃s4,Mac σ4 X A T N D s4 {m with k:=⟨some m.at_,m.env,[],m.calls⟩::m.k}/\Mov σ3 σ4 A s s4:=⟨{s with pk:=some ⟨σ2.n,0,some 0⟩},h3.upd a2 b8 (by constructor<;>rfl) h3.v h3.env d5 h3.calls,Mov.ofA a2 rfl⟩;have b2:Mov σ2 σ4 A s s4:=(Mov.ofN a0).trans e0;have e2:¬E=A:=fun e=>by have:=h.st.1;omega
  rw[aB (a2.st (a0.stN a4) e2) (i:=4) rfl];simp only[wpS];refine jH (natRow.mov a8 b2) (i:=0) (o:=0) rfl hl rfl (by decide) rfl fun cs a9=>?_;unfold gE at a9;subst a9;refine⟨_,rfl,?_⟩;simp only[wpS];rw[aB h4.st (i:=20) rfl];simp only[wpS];have ek:fQ nv 0=nv.kids[0]:=by unfold fQ;simp[List.getD,hl]
  rw[aE,ek];have key:=fJ (i:=nv.kids[0]) h4 h4.env;refine WpF.mono key ?_;intro v' σ9 hq;obtain⟨rfl,_⟩:=id hq;simp only[wpS,T40k0,T40k1,T40k2,T40k3,T40k4,T40k5,T40k6,T40k7];exact⟨_,rfl,hq.up (a5.trans b2)⟩
end
section
variable{N:List NV}{D:List Dc}{m:MS}
theorem gH(h:m.over≠0):∀n,cF N n m=(m,0)
 |0=>rfl
 |n+1=>by rw[cF,if_neg h]
theorem iY(h:m.over=0)(n:Nat):cF N (n+1) m=((cF N n (kR N m)).1,(cF N n (kR N m)).2+1):=by rw[cF,if_pos h]
theorem pM:∀(a b:Nat) (m:MS),cF N (a+b) m=((cF N b (cF N a m).1).1,(cF N a m).2+(cF N b (cF N a m).1).2)
 |0,b,m=>by rw[Nat.zero_add];simp[cF]
 |a+1,b,m=>by
  by_cases h:m.over=0
  ·rw[show a+1+b=(a+b)+1 by omega,iY h,iY h,pM a b (kR N m)];simp only;rw[Prod.mk.injEq];exact⟨rfl,by omega⟩
  ·rw[gH h,gH h];simp only;rw[gH h];simp
theorem runM_le:∀(n:Nat) (m:MS),(cF N n m).2<=n
 |0,_=>Nat.le_refl _
 |n+1,m=>by
  by_cases h:m.over=0
  ·rw[iY h];have:=runM_le n (kR N m);simp only;omega
  ·rw[gH h];exact Nat.zero_le _
theorem sO:∀(n k:Nat) (m:MS),k<=(cF N n m).2->(cF N k m).2=k
 |_,0,_,_=>rfl
 |0,k+1,_,h=>by cases h
 |n+1,k+1,m,h=>by
  by_cases h0:m.over=0
  ·rw[iY h0]at h ⊢;simp only at h ⊢;rw[sO n k _ (by omega)]
  ·rw[gH h0]at h;cases h
theorem qP{P:MS->Prop}(hs:∀m,m.over=0->P m->P (kR N m)):∀(n:Nat) (m:MS),P m->P (cF N n m).1
 |0,_,h=>h
 |n+1,m,h=>by
  by_cases h0:m.over=0
  ·rw[iY h0];exact qP hs n _ (hs m h0 h)
  ·rw[gH h0];exact h
theorem runM_ok(g:bZ N D)(n:Nat)(h:okM N m):okM N (cF N n m).1:=qP (fun _ _ h=>step_ok g h) n m h
theorem yq(n:Nat)(h:bndM m):bndM (cF N n m).1:=qP (fun _ _ h=>step_bnd h) n m h
theorem oH:∀(n:Nat) (m:MS),(cF N n m).1.steps=m.steps+(cF N n m).2
 |0,_=>rfl
 |n+1,m=>by
  by_cases h0:m.over=0
  ·rw[iY h0];simp only;rw[oH n,(wo m).steps];show m.steps+1+_=_;omega
  ·rw[gH h0];try rfl
structure Mono1(m m':MS):Prop where
 out:m.out <+: m'.out
 read:m.read<=m'.read
 cells:m.cells.length<=m'.cells.length
 inp:m'.inp=m.inp
theorem qu(n:Nat)(m:MS):Mono1 m (cF N n m).1:=
 qP (P:=fun x=>Mono1 m x) (fun x _ h=>by
  have e:=wo (N:=N) x;exact⟨h.out.trans e.out,Nat.le_trans h.read e.read,Nat.le_trans h.cells e.cells,e.inp.trans h.inp⟩) n m ⟨List.prefix_refl _,Nat.le_refl _,Nat.le_refl _,rfl⟩
end
section
variable{σ σ':aC}{X Y:Nat->Prop}{A:Nat}{T:TrA}{N:List NV}{D:List Dc}{s:Slt}{m:MS}{P:Program}{ov:Ov}
theorem wp_Step27(g:bZ N D)(h:Mac σ X A T N D s m)(ok:okM N m)(a2:eS σ)(few:Few m)(a6:m.steps<=1000000000)(a7:m.stops<=1000000000):
  WpF aG ovD 27 [bI A] σ fun v σ'=>∃s',v=.bool (decide (m.over=0))/\Mac σ' X A T N D s' (if m.over=0 then kR N m else m)/\Mov σ σ' A s s':=by
 refine WpF.of (T27_eq _) rfl ?_;rw[T27];simp only[wpS];rw[aB h.st (i:=9) rfl];simp only[wpS];rw[aA];by_cases h0:m.over=0
 case neg=>rw[if_pos (by simpa using h0),if_neg h0,decide_eq_false h0];simp only[wpS];exact⟨_,rfl,s,rfl,h,Mov.refl⟩
 rw[if_neg (by simp[h0]),if_pos h0,decide_eq_true h0,aB h.st (i:=7) rfl];simp only[wpS];have e1:aP (((m.steps:Nat):Int)+1)=((m.steps+1:Nat):Int):=by rw[aS (by omega)];omega
 rw[e1];refine aT (i:=7) h.st (by simp[fB]) rfl fun σ1 a0 a9 a5=>?_;have h1:Mac σ1 X A T N D s {m with steps:=m.steps+1}:=h.upd a0 a5 (by constructor<;>rfl) h.v h.env h.k h.calls;have a3:Mov σ σ1 A s s:=Mov.ofA a0 rfl;have hh:qg N {m with steps:=m.steps+1}=qg N m:=rfl;rw[aE,WpF.eq (ev_here37 h1 ok.at_.1),hh];simp only[wpS];have fin:∀τ,Mac τ X A T N D s (iV N m)->Mov σ τ A s s->eS τ->Wp aG ovD (T27k1 (some ⟨A,0,some 0⟩) .normal []) τ fun _ vs σ'=>∃v,vs=[v]/\∃s',v=.bool true/\Mac σ' X A T N D s' (kR N m)/\Mov σ σ' A s s':=by
  intro τ hτ hM hf;have okt:okM N (iV N m):=tick_ok ok;have fewt:Few (iV N m):=⟨few.cells,few.nw,few.out,few.calls,few.read,few.inp⟩;unfold T27k1;simp only[wpS];rw[aB hτ.st (i:=11) rfl];simp only[wpS];rw[aA];have hb:(iV N m).back=m.back:=rfl;unfold kR;by_cases c:m.back=true
  ·rw[if_pos (by rw[hb];exact c),if_pos c,aV,show aadd ⟨A,0,some 0⟩ 12=⟨A,12,some 0⟩ from rfl,hτ.st.ldN (off:=12) (k:=7) (by simp[fB])];have key:=eU g hτ okt hf fewt s.vc hτ.v okt.v;have ev:(((fB T N D s (iV N m)).drop 12).take 7)=vC (iV N m).v s.vq s.vc s.vp:=rfl;rw[ev];unfold vC at key ⊢;simp only[wpS];rw[aE];refine WpF.mono key ?_;rintro v' σ9 ⟨rfl,s9,k1,k2⟩;simp only[wpS,T27k0];exact⟨_,rfl,s9,rfl,k1,hM.trans k2⟩
  ·rw[if_neg (by rw[hb];exact c),if_neg c,aE];refine WpF.mono (wp_begin40 g hτ okt hf fewt) ?_;rintro v' σ9 ⟨rfl,s9,k1,k2⟩;simp only[wpS,T27k0];exact⟨_,rfl,s9,rfl,k1,hM.trans k2⟩
 rw[aA];by_cases c:qg N m=true
 ·rw[if_pos c,aB h1.st (i:=8) rfl];simp only[wpS];have e2:aP (((m.stops:Nat):Int)+1)=((m.stops+1:Nat):Int):=by rw[aS (by omega)];omega
  rw[e2];refine aT (i:=8) h1.st (by simp[fB]) rfl fun σ2 a1 a8 a4=>?_;simp only[wpS];have et:iV N m={m with steps:=m.steps+1,stops:=m.stops+1}:=by unfold iV;rw[if_pos c]
  refine fin σ2 ?_ (a3.trans (Mov.ofA a1 rfl)) (a1.fr (a0.fr a2));rw[et];exact h1.upd a1 a4 (by constructor<;>rfl) h1.v h1.env h1.k h1.calls
 ·rw[if_neg c];simp only[wpS];have et:iV N m={m with steps:=m.steps+1}:=by unfold iV;rw[if_neg c]
  refine fin σ1 ?_ a3 (a0.fr a2);rw[et];exact h1
theorem Few.of(b:bndM m)(hs:m.steps<=1000000000)(hi:m.inp.length<=1000000):Few m:=by obtain⟨b1,b2,b3,b4,b5,b6,b7⟩:=b;exact⟨by omega,by omega,by omega,by omega,b7,hi⟩
theorem runM_one{i:Nat}(hi:(cF N i m).2=i)(h0:(cF N i m).1.over=0):(cF N (i+1) m).1=kR N (cF N i m).1/\(cF N (i+1) m).2=i+1:=by rw[pM i 1 m,iY h0];exact⟨rfl,by simp only[hi];rfl⟩
theorem runM_end{i n:Nat}(a0:i<=n)(hi:(cF N i m).2=i)(h0:(cF N i m).1.over≠0):(cF N n m).1=(cF N i m).1/\(cF N n m).2=i:=by rw[show n=i+(n-i) by omega,pM i (n-i) m,gH h0];exact⟨rfl,by simp only[hi];rfl⟩
theorem wp_Run13(g:bZ N D)(h:Mac σ X A T N D s m)(ok:okM N m)(a5:eS σ)(b:bndM m)(a2:m.inp.length<=1000000)(a6:m.steps<=100000000)(n:Int)(hn:n<=100000000):
  WpF aG ovD 13 [bI A,.int .i64 n] σ fun v σ'=>∃s',v=.int .i64 (((cF N n.toNat m).2:Nat):Int)/\Mac σ' X A T N D s' (cF N n.toNat m).1/\Mov σ σ' A s s':=by
 refine WpF.of (T13_eq _ _) rfl ?_;rw[T13];refine Wp.loop (fun k st σ'=>∃(i:Nat) (s':Slt),st=[.int .i64 ((i:Nat):Int)]/\i+k=n.toNat/\(cF N i m).2=i/\Mac σ' X A T N D s' (cF N i m).1/\Mov σ σ' A s s') n.toNat ⟨0,s,rfl,by omega,rfl,h,Mov.refl⟩ ?_;rintro k st σ1 ⟨i,s1,rfl,a8,hi,h1,a1⟩;unfold T13b0;simp only[wpS];rw[aA];by_cases a7:((i:Nat):Int)<n
 case neg=>
  have e:i=n.toNat:=by omega
  rw[if_neg (by simp;omega)];simp only[wpS,T13k1];rw[aA,if_neg (by simp)];simp only[wpS,T13k2];rw[<-e,hi];exact⟨_,rfl,s1,rfl,h1,a1⟩
 rw[if_pos (by simp;omega),aE];have bi:=yq (N:=N) i b;have a4:=oH (N:=N) i m;rw[hi]at a4;have a0:=(qu (N:=N) i m).inp;refine WpF.mono (wp_Step27 g h1 (runM_ok g i ok) (a1.frm.fr a5) (Few.of bi (by omega) (by rw[a0];exact a2)) (by omega) (by have:=bi.stops;omega)) ?_;rintro v' σ2 ⟨s2,rfl,h2,a3⟩;simp only[wpS,T13k1];rw[aA];by_cases h0:(cF N i m).1.over=0
 ·rw[if_pos (by simpa using h0)];rw[if_pos h0]at h2;obtain⟨r1,r2⟩:=runM_one hi h0;have e1:aP (((i:Nat):Int)+1)=((i+1:Nat):Int):=by rw[aS (by omega)];omega
  simp only[wpS,T13k0];rw[e1];exact⟨k-1,by omega,i+1,s2,rfl,by omega,r2,by rw[r1];exact h2,a1.trans a3⟩
 ·rw[if_neg (by simpa using h0)];rw[if_neg h0]at h2;obtain⟨r1,r2⟩:=runM_end (n:=n.toNat) (by omega) hi h0;simp only[wpS,T13k2];rw[r1,r2];exact⟨_,rfl,s2,rfl,h2,a1.trans a3⟩
end
section
variable{σ σ':aC}{X Y:Nat->Prop}{A:Nat}{T:TrA}{N:List NV}{D:List Dc}{s:Slt}{m:MS}{P:Program}{ov:Ov}
theorem SlE.row9{b c:Nat}{p:Option Addr}{l:List Int}(h:SlE σ b p c 1 (l.map uO))(hb:p≠none->¬Y b):aN σ Y 1 oU p l:=by
 rcases h with⟨rfl,_,h0⟩|⟨off,s,rfl,hR⟩
 ·have:l=[]:=by simpa using h0
  rw[this];exact aN.nil
 ·intro i hi;refine⟨_,[uO l[i]],rfl,.inr ⟨hR.lt,hb (by simp)⟩,?_,rfl⟩;have:=hR.rdN (i:=i*1) (k:=1) (by rw[List.length_map];omega);rw[show aadd ⟨b,off,some s⟩ (i*1)=⟨b,off+i*1,some s⟩ from rfl,this,Nat.mul_one,List.drop_eq_getElem_cons (by simpa using hi),List.take_succ_cons,List.take_zero,List.getElem_map]
theorem aN.rdI9{p:Option Addr}{l:List Int}(h:aN σ Y 1 oU p l):RdI σ .i64 p l:=by intro i hi;obtain⟨x,cs,rfl,_,h2,h3⟩:=h i hi;refine⟨x,rfl,?_⟩;unfold oU at h3;subst h3;unfold ld1;rw[h2];simp[List.getD,hi]
theorem yw{p:Option Addr}{l:List Int}{c:Nat}(h:aN σ Y 1 oU p l)(he:Emp σ Y p)(hl:l.length<=1000000000){Q:Value->aC->Prop}
  (hQ:∀(σ':aC) (b:Nat) (p':Option Addr) (c':Nat),Frm σ σ' NoB->SlE σ' b p' c' 1 (l.map uO)->(p'≠none->σ.n<=b)->Q (.slice p' l.length c') σ'):WpF aG ovD 34 [.slice p l.length c] σ Q:=by
 refine WpF.of (T34_eq _ _ _) rfl ?_;rw[T34,aA];cases p with
 |none=>
  rw[if_pos (by rfl)];have a0:l=[]:=by
   cases l with
   |nil=>rfl
   |cons v l=>obtain⟨x,cs,hx,_⟩:=h 0 (by simp);cases hx
  subst a0;simp only[wpS];exact⟨_,rfl,hQ σ 0 none 0 (Frm.refl _ _) (.inl ⟨rfl,rfl,rfl⟩) (fun h=>absurd rfl h)⟩
 |some a=>
  rw[if_neg (by simp),aV,cM];simp only[wpS];have hF:=Frm.new σ [] 1 NoB;have hN:=Row.new σ 1 [] 0 (by decide) rfl (fun _ h=>by cases h);have h1:aN (σ.newBlk [] 1) Y 1 oU (some a) l:=aN.step (S:=NoB) hF (fun _ _ h=>h.elim) (fun _ _ h=>h) (fun _ _ h=>h) h;have a1:Emp (σ.newBlk [] 1) Y (some a):=he.step (S:=NoB) hF (fun _ _ h=>h.elim) fun _ _ h=>h;have h2:=aN.src (f:=uO) (fun cs t h=>h) h1 a1;refine yG (xs:=[]) (ys:=l.map uO) (b:=σ.n) (.inr ⟨0,1,rfl,hN⟩) rfl h2 (by simp) (by intro y hy;obtain⟨z,_,rfl⟩:=List.mem_map.1 hy;rfl) (by omega) (by omega) fun σ2 b2 p2 c2 a4 a2 a3=>?_;simp only[wpS];rw[Nat.zero_add];refine⟨_,rfl,hQ σ2 b2 p2 c2 (hF.fresh a4 fun j hj h=>by omega) a3 fun hp=>?_⟩;rcases a2 with h|⟨_,h⟩|h
  ·exact absurd h hp
  ·omega
  ·rw[iD]at h;omega
theorem Mac.outRow(h:Mac σ X A T N D s m):aN σ NoB 1 oU s.po m.out:=h.out.row9 fun _ h=>h
theorem wp_Out14(h:Mac σ X A T N D s m)(hl:m.out.length<=1000000000){Q:Value->aC->Prop}
  (hQ:∀(σ':aC) (b:Nat) (p':Option Addr) (c':Nat),Frm σ σ' NoB->SlE σ' b p' c' 1 (m.out.map uO)->(p'≠none->σ.n<=b)->Q (.slice p' m.out.length c') σ'):WpF aG ovD 14 [bI A] σ Q:=by
 refine WpF.of (T14_eq _) rfl ?_;rw[T14];simp only[wpS];rw[aB h.st (i:=4) rfl];simp only[wpS];rw[aE];refine yw h.outRow (h.out.emp fun _ h=>h) hl fun σ' b p' c' h1 h2 h3=>?_;simp only[wpS];exact⟨_,rfl,hQ σ' b p' c' h1 h2 h3⟩
theorem ui(h:Mac σ X A T N D s m):EvF aG ovD 16 [bI A] σ (.int .i64 m.over) σ:=by refine EvF.of (T16_eq _) rfl ?_;rw[T16];simp only[wpS];rw[aB h.st (i:=9) rfl];simp only[wpS];exact⟨trivial,trivial⟩
theorem qp(h:Mac σ X A T N D s m):EvF aG ovD 20 [bI A] σ (.int .i64 ((m.read:Nat):Int)) σ:=by refine EvF.of (T20_eq _) rfl ?_;rw[T20];simp only[wpS];rw[aB h.st (i:=3) rfl];simp only[wpS];exact⟨trivial,trivial⟩
theorem zJ(h:Mac σ X A T N D s m):EvF aG ovD 22 [bI A] σ (.int .i64 ((m.steps:Nat):Int)) σ:=by refine EvF.of (T22_eq _) rfl ?_;rw[T22];simp only[wpS];rw[aB h.st (i:=7) rfl];simp only[wpS];exact⟨trivial,trivial⟩
theorem zX(h:Mac σ X A T N D s m)(hl:m.cells.length<=1000000000){Q:Value->aC->Prop}(hQ:∀(σ':aC) (p':Option Addr) (c':Nat),Frm σ σ' NoB->Q (.slice p' m.cells.length c') σ'):WpF aG ovD 23 [bI A] σ Q:=by refine WpF.of (T23_eq _) rfl ?_;rw[T23];simp only[wpS];rw[aB h.st (i:=5) rfl];simp only[wpS];rw[aE];have hr:aN σ NoB 7 (vlR 7 σ NoB) s.pc m.cells:=aN.step (S:=NoB) (Frm.refl _ _) (fun _ _ h=>h) (fun _ _ h=>h) (fun _ _ h=>gC (S:=NoB) (Y':=NoB) (Frm.refl _ _) (fun _ _ h=>h.elim) (fun _ _ h=>h.elim) _ _ h) h.cellsRow;refine wb hr (h.cells.emp fun _ h=>h) hl fun σ' p' c' css h1 _ _ _=>?_;simp only[wpS];exact⟨_,rfl,hQ σ' p' c' h1⟩
theorem wX{p:Option Addr}{l:List Int}{c:Nat}(h:RdI σ .i64 p l)(hl:l.length<=9223372036854775807):EvF aG ovD 11 [.slice p l.length c] σ (.bool (inpB l)) σ:=by
 refine EvF.of (T11_eq _ _ _) rfl ?_;rw[T11];refine Wp.count l.length (fun j st σ'=>σ'=σ/\∃b,st=[.int .i64 ((j:Nat):Int),.bool b]/\∀x∈l.take j,w63 x=x) ⟨rfl,_,rfl,by simp⟩ ?_ ?_
 ·rintro j st σ' hj ⟨rfl,b,rfl,a0⟩;have ej:aP ((j:Int)+1)=((j+1:Nat):Int):=by rw[aS (by omega)];omega
  have hg:l.getD ((j:Nat):Int).toNat 0=l[j]:=by simp[List.getD,hj]
  unfold T11b0;simp only[wpS];rw[aA,if_pos (by simp;omega),aF];obtain⟨x,hx,a2⟩:=h j hj;subst hx;rw[wp_rdI h (by omega) (by omega),hg,bC,aE,WpF.eq (vj _)];simp only[wpS];rw[aO];refine⟨by simp;omega,?_⟩;have a1:ld1 (aadd x (Int.toNat ((j:Nat):Int)*1)) σ'=some (.int .i64 l[j],σ'):=by
   rw[Int.toNat_natCast,a2];simp[List.getD,hj]
  rw[aV,a1];simp only;rw[aO];refine⟨past_ok a1,?_⟩;simp only[wpS];rw[aA];by_cases hw:w63 l[j]=l[j]
  ·rw[if_neg (by simp[hw])];simp only[wpS,T11k0,ej];refine⟨trivial,b,rfl,fun y hy=>?_⟩;rw[List.take_succ_eq_append_getElem hj]at hy;rcases List.mem_append.1 hy with hy|hy
   ·exact a0 y hy
   ·rw[List.mem_singleton.1 hy];exact hw
  ·rw[if_pos (by simpa using hw)];simp only[wpS,T11k0,T11k1];refine⟨?_,trivial⟩;unfold inpB;rw[decide_eq_false fun h=>hw (h _ (List.getElem_mem hj))];try rfl
 ·rintro st σ' ⟨rfl,b,rfl,a0⟩;unfold T11b0;simp only[wpS];rw[aA,if_neg (by simp)];simp only[wpS,T11k1];refine⟨?_,trivial⟩;unfold inpB;rw[List.take_length]at a0;rw[decide_eq_true a0];simp;omega
theorem ev_outs15{p p':Option Addr}{l l':List Int}{c c':Nat}(h:RdI σ .i64 p l)(h':RdI σ .i64 p' l')(hl:l.length<=4611686018427387904):EvF aG ovD 15 [.slice p l.length c,.slice p' l'.length c'] σ (.bool (decide (l=l'))) σ:=by
 refine EvF.of (T15_eq _ _ _ _ _ _) rfl ?_;rw[T15,aA];by_cases a1:l.length=l'.length
 case neg=>rw[if_pos (by simp;omega),decide_eq_false fun h=>a1 (by rw[h])];simp only[wpS];exact⟨trivial,trivial⟩
 rw[if_neg (by simp[a1])];refine Wp.count l.length (fun j st σ'=>σ'=σ/\∃b,st=[.int .i64 ((j:Nat):Int),.bool b]/\l.take j=l'.take j) ⟨rfl,_,rfl,by simp⟩ ?_ ?_
 ·rintro j st σ' hj ⟨rfl,b,rfl,a0⟩;have ej:aP ((j:Int)+1)=((j+1:Nat):Int):=by rw[aS (by omega)];omega
  have a2:j<l'.length:=by omega
  have hg:l.getD ((j:Nat):Int).toNat 0=l[j]:=by simp[List.getD,hj]
  have a3:l'.getD ((j:Nat):Int).toNat 0=l'[j]:=by simp[List.getD,a2]
  unfold T15b0;simp only[wpS];rw[aA,if_pos (by simp;omega),aF,wp_rdI h (by omega) (by omega),hg,wp_rdI h' (by omega) (by omega),a3,aA];by_cases hw:l[j]=l'[j]
  ·rw[if_neg (by simp[hw])];simp only[wpS,T15k0,ej];refine⟨trivial,b,rfl,?_⟩;rw[List.take_succ_eq_append_getElem hj,List.take_succ_eq_append_getElem a2,a0,hw]
  ·rw[if_pos (by simpa using hw)];simp only[wpS,T15k0,T15k1];refine⟨?_,trivial⟩;rw[decide_eq_false fun h=>hw (by simp[h])]
 ·rintro st σ' ⟨rfl,b,rfl,a0⟩;unfold T15b0;simp only[wpS];rw[aA,if_neg (by simp)];simp only[wpS,T15k1];refine⟨?_,trivial⟩;rw[List.take_length,List.take_of_length_le (by omega)]at a0;rw[decide_eq_true a0]
end
section
variable{σ σ':aC}{X Y Z:Nat->Prop}{A:Nat}{T:TrA}{N:List NV}{D:List Dc}{s:Slt}{m:MS}{P:Program}{ov:Ov}
theorem ev_new30(n:Int):EvF aG ovD 30 [.int .i64 n] σ (.bool (w63 n !=n)) σ:=by refine EvF.of (T30_eq _) rfl ?_;rw[T30,aE,WpF.eq (vx n)];simp only[wpS];exact⟨trivial,trivial⟩
theorem ev_index52{p:Option Addr}{l:List Int}{c:Nat}(h:RdI σ .i64 p l)(hl:l.length<=1000000000)(hw:∀x∈l,w63 x=x):EvF aG ovD 52 [.slice p l.length c,.func (.func 30) #[] #[]] σ (.int .i64 (-1)) σ:=by
 refine EvF.of (T52_eq _ _ _ _) rfl ?_;rw[T52];refine Wp.count l.length (fun j st σ'=>σ'=σ/\∃z:Int,st=[.int .i64 ((j:Nat):Int),.int .i64 z]) ⟨rfl,_,rfl⟩ ?_ ?_
 ·rintro j st σ' hj ⟨rfl,z,rfl⟩;have ej:aP ((j:Int)+1)=((j+1:Nat):Int):=by rw[aS (by omega)];omega
  have hg:l.getD ((j:Nat):Int).toNat 0=l[j]:=by simp[List.getD,hj]
  unfold T52b0;simp only[wpS];rw[aA,if_pos (by simp;omega),aF,wp_rdI h (by omega) (by omega),hg];unfold oM;simp only[List.nil_append,List.append_nil];rw[aE,WpF.eq (ev_new30 _)];simp only[wpS];rw[aA,if_neg (by simp[hw _ (List.getElem_mem hj)])];simp only[wpS,T52k0,ej];exact⟨trivial,z,rfl⟩
 ·rintro st σ' ⟨rfl,z,rfl⟩;unfold T52b0;simp only[wpS];rw[aA,if_neg (by simp)];simp only[wpS,T52k1];exact⟨trivial,trivial⟩
theorem zz{p:Option Addr}{l:List Int}{c:Nat}(h:RdI σ .i64 p l)(hl:l.length<=1000000000)(hw:∀x∈l,w63 x=x):EvF aG ovD 33 [.slice p l.length c,.func (.func 30) #[] #[]] σ (.bool false) σ:=by refine EvF.of (T33_eq _ _ _ _) rfl ?_;rw[T33,aE,WpF.eq (ev_index52 h hl hw)];simp only[wpS];exact⟨rfl,trivial⟩
theorem wp_New12{pn pd:Option Addr}{cn cd:Nat}(g:bZ N D)(hT:gT σ Y pn N pd D){p:Option Addr}{l:List Int}{c:Nat}(b2:aN σ Z 1 oU p l)(he:Emp σ Z p)(hw:∀x∈l,w63 x=x)(hl:l.length<=200){Q:Value->aC->Prop}
  (hQ:∀(σ':aC) (A:Nat) (s:Slt),Frm σ σ' NoB->σ.n<=A->(∀X:Nat->Prop,(∀j,X j->j<σ.n/\Y j)->Mac σ' X A ⟨pn,cn,pd,cd⟩ N D s (mJ l))->(∀j,Ft A s j->j=A)->Q (.tuple #[bI A,.int .i64 0]) σ'):WpF aG ovD 12 [trV pn N.length cn pd D.length cd,.slice p l.length c] σ Q:=by
 refine WpF.of (T12_eq _ _ _ _ _ _ _ _ _) rfl ?_;rw[T12];refine aJ fun σ1 a9 b1 a4=>?_;generalize hB:σ.n=B at a4 b1;rw[aF,aL a4 2 rfl];simp only[wpS];rw[aE];refine WpF.mono (wp_Good21 g (hT.frm a9)) ?_;rintro _ σ2 ⟨rfl,a5⟩;have a0:=a9.seq a5;have a3:aN σ2 Z 1 oU p l:=aN.step (S:=NoB) a0 (fun _ _ h=>h.elim) (fun _ _ h=>h) (fun _ _ h=>h) b2;have b3:Emp σ2 Z p:=he.step (S:=NoB) a0 (fun _ _ h=>h.elim) fun _ _ h=>h;simp only[wpS];rw[aA,if_pos (by rfl),aA,if_pos (by simp;omega),aE,WpF.eq (zz a3.rdI9 (by omega) hw)];simp only[wpS,T12k0];rw[aA,if_neg (by simp),aL (a5.stN a4) 2 rfl];simp only[wpS];rw[aE];refine yw a3 b3 (by omega) fun σ3 b p' c' a8 b0 b4=>?_;simp only[wpS];rw[bC,aO];refine⟨cQ ((a8.stN (a5.stN a4)).ldAll 2 rfl) rfl,?_⟩;refine aJ fun σ4 a7 b6 b5=>?_;simp only[wpS];have a2:=a0.seq a8;have a1:=a2.seq a7;refine⟨_,rfl,hQ σ4 σ3.n ⟨p',c',none,0,0,none,0,0,[],none,0,0,[],none,0,none,none,none,none⟩ a1 a2.n (fun X hX=>?_) (fun j hj=>?_)⟩
 ·have a6:∀j,FX X σ3.n ⟨p',c',none,0,0,none,0,0,[],none,0,0,[],none,0,none,none,none,none⟩ j->X j\/j=σ3.n:=by
   rintro j (h|h|⟨h,_⟩|⟨h,_⟩|⟨h,_⟩)
   ·exact .inl h
   ·exact .inr h
   ·exact absurd rfl h
   ·exact absurd rfl h
   ·exact absurd rfl h
  have b7:=a2.n;refine⟨b5,?_,?_,.inl ⟨rfl,rfl,rfl⟩,.inl ⟨rfl,rfl,rfl⟩,rfl,(fun i h=>by cases h),.inl ⟨rfl,rfl,rfl⟩,rfl,VlP.plain rfl rfl,kT.2 rfl,rfl,rfl,fun j hj=>Nat.lt_of_lt_of_le (hX j hj).1 a1.n,fun h=>by have:=(hX _ h).1;omega,(fun h=>absurd rfl h),(fun h=>absurd rfl h),fun h=>absurd rfl h⟩
  ·refine hT.step (S:=NoB) a1 (fun _ _ h=>h.elim) fun j hj h=>?_;rcases a6 j h with h|h
   ·exact(hX j h).2
   ·omega
  ·refine aN.step (S:=NoB) (Y:=FX X σ3.n ⟨p',c',none,0,0,none,0,0,[],none,0,0,[],none,0,none,none,none,none⟩) a7 (fun _ _ h=>h.elim) (fun _ _ h=>h) (fun _ _ h=>h) (b0.row9 fun hp h=>?_);have h1:=b4 hp;have h2:=b0.lt hp;have h3:=a0.n;rcases a6 _ h with h|h
   ·have:=(hX _ h).1;omega
   ·omega
 ·rcases hj with h|⟨h,_⟩|⟨h,_⟩|⟨h,_⟩
  ·exact h
  ·exact absurd rfl h
  ·exact absurd rfl h
  ·exact absurd rfl h
theorem Mac.frmW(h:Mac σ X A T N D s m)(f:Frm σ σ' NoB):Mac σ' (fun j=>X j\/(σ.n<=j/\j<σ'.n)) A T N D s m:=by
 have hY:∀j,j<σ.n->NoB j->FX X A s j:=fun _ _ h=>h.elim;have hI:∀j,j<σ.n->FX (fun j=>X j\/(σ.n<=j/\j<σ'.n)) A s j->FX X A s j:=fun j hj h=>by
  rcases h with(h|h)|h
  ·exact .inl h
  ·omega
  ·exact .inr h
 have hn:∀b,b<σ.n->¬X b->¬(X b\/(σ.n<=b/\b<σ'.n)):=fun b hb hx h=>by
  rcases h with h|h
  ·exact hx h
  ·omega
 exact⟨f.stN h.st,h.tree.step f hY hI,h.inp.step f hY hI fun _ _ h=>h,h.out.frm f fun _ h=>h,h.cells.frm f fun _ h=>h,h.clen,fun i h1 h2=>gC f hY hI _ _ (h.cel i h1 h2),h.wr.frm f fun _ h=>h,h.wl,h.v.step f hY hI,EnR_step f hY hI _ _ h.env,lP f hY hI h.k,gV f hY hI h.calls,
  fun j hj=>hj.elim (fun h2=>Nat.lt_of_lt_of_le (h.xn j h2) f.n) fun h=>h.2,hn _ h.st.1 h.xA,fun hp=>⟨hn _ (h.out.lt hp) (h.xo hp).1,(h.xo hp).2⟩,fun hp=>⟨hn _ (h.cells.lt hp) (h.xc hp).1,(h.xc hp).2⟩,fun hp=>⟨hn _ (h.wr.lt hp) (h.xw hp).1,(h.xw hp).2⟩⟩
theorem wy(l:List Int):bndM (mJ l):=⟨Nat.le_refl _,Nat.le_refl _,Nat.le_refl _,Nat.le_refl _,Nat.le_refl _,(fun _ h=>by cases h),Nat.zero_le _⟩
end
theorem slV_strs2{σ:aC}{Y:Nat->Prop}{b c:Nat}{p:Option Addr}{l:List (List UInt8)}(h:SlV σ b p c (l.map dA))(hb:p≠none->¬Y b):aN σ Y 1 (rJ σ Y) p l:=by
 rcases h with⟨rfl,_,h0⟩|⟨off,s,rfl,hR⟩
 ·have:l=[]:=by simpa using h0
  rw[this];exact aN.nil
 ·exact aN.own (css:=l.map fun t=>[dA t]) (by
   have e:(l.map fun t=>[dA t]).flatten=l.map dA:=by
    clear hR;induction l with
    |nil=>rfl
    |cons t r ih=>rw[List.map_cons,List.flatten_cons,List.map_cons,<-ih];try rfl
   rw[e];exact hR) (hb (by simp)) (by simp) (by intro cs a0;obtain⟨t,_,rfl⟩:=List.mem_map.1 a0;rfl) (fun i h1 h2=>by simp[rJ])
section
variable{σ:aC}{N:List NV}{D:List Dc}{pn pd:Option Addr}{cn cd U V W:Nat}{Y:Nat->Prop}
theorem wp_made_cons{j:Nat}(hj:j<D.length)(hU:U≠W)(b9:St σ U [.slice pn N.length cn,.slice pd D.length cd]){nm:List UInt8}(c9:St σ W [.string (mkB nm),.slice none 0 0])(c7:Y W)(hT:aN σ Y 2 (dcR σ Y) pd D)(hC:D[j].cons.length<=1000000)(hA:∀c∈D[j].cons,c.args.length<=1000000){K:Ex->List Value->Pg}{Q:bW}
  (k:∀σ' p c rb css,Frm σ σ' (· =W)->St σ' W [.string (mkB nm),.slice p D[j].cons.length c]->GR cnR 2 σ' (fun j=>j<σ.n) rb D[j].cons css p c->Wp aG ovD (K (.exit 4) [.int .i64 ((D[j].cons.length:Nat):Int)]) σ' Q):
  Wp aG ovD (.loop [.int .i64 0] (T10b1 ⟨U,0,some 0⟩ ((j:Nat):Int) ⟨W,0,some 0⟩) K) σ Q:=by
 have e9:=b9.1;have e0:=c9.1;have c8:∀{τ:aC},Frm σ τ (· =W)->aN τ Y 2 (dcR τ Y) pd D:=fun f=>aN.step f (fun j _ h=>by rw[h];exact c7) (fun _ _ h=>h) (fun _ _ h=>cW _ _ _ _ _ _ _ f (fun j _ h=>by rw[h];exact c7) (fun _ _ h=>h) h) hT;refine Wp.count D[j].cons.length (fun i st σ'=>∃p c rb css,st=[.int .i64 ((i:Nat):Int)]/\Frm σ σ' (· =W)/\St σ' W [.string (mkB nm),.slice p i c]/\GR cnR 2 σ' (fun j=>j<σ.n) rb (D[j].cons.take i) css p c)
  ⟨none,0,0,[],rfl,Frm.refl _ _,c9,.zero⟩ ?_ ?_
 ·rintro i st σ1 hi ⟨p,c,rb,css,rfl,a2,b2,a3⟩;have ei:aP ((i:Int)+1)=((i+1:Nat):Int):=by rw[aS (by omega)];omega
  have e1:=a2.st b9 hU;obtain⟨x,cs,hx,b8,d6⟩:=Kp.ofRow (c8 a2) hj;obtain⟨q,kq,rfl,b4⟩:=b8;have a5:=d6 1 _ (by decide) rfl;obtain⟨x2,cs2,d5,b1,a8⟩:=Kp.ofRow b4 hi;generalize hv:D[j].cons[i]=v at b1;have e4:v.args.length<=1000000:=hA v (by rw[<-hv];exact List.getElem_mem hi);obtain⟨q2,kq2,rfl,a7,b0⟩:=b1;have c5:=a8 0 _ (by decide) rfl;have c4:=a8 1 _ (by decide) rfl;have e8:=a2.n;have a4:Kp σ1 (aadd ⟨U,0,some 0⟩ 1) (.slice pd D.length cd):=Kp.st e1 rfl;have b7:Kp σ1 (aadd ⟨W,0,some 0⟩ 1) (.slice p i c):=Kp.st b2 rfl;rw[hx]at a4;rw[d5]at a5;have gj:(decide (0<=((j:Nat):Int))&&decide (((j:Nat):Int)<((D.length:Nat):Int)))=true:=by simp;omega
  have gi:(decide (0<=((i:Nat):Int))&&decide (((i:Nat):Int)<((D[j].cons.length:Nat):Int)))=true:=by simp;omega
  unfold T10b1;simp only[wpS];rw[oS a4];simp only[wpS];rw[aO];refine⟨gj,?_⟩;rw[Int.toNat_natCast,oS a5];simp only[wpS];rw[aA,if_pos (by simp;omega),aF,oS b7];simp only[wpS];rw[oS a4];simp only[wpS];rw[aO];refine⟨gj,?_⟩;rw[oS a5];simp only[wpS];rw[aO];refine⟨gi,?_⟩;rw[Int.toNat_natCast,oS c5];simp only[wpS];rw[bC,aV,cM];simp only[wpS];have a1:Frm σ1 (σ1.newBlk [] 1) NoB:=Frm.new _ _ _ _;have d1:Row (σ1.newBlk [] 1) σ1.n 0 1 0 1 []:=Row.new σ1 1 [] 0 (by decide) rfl (by simp);generalize σ1.newBlk [] 1=σ4 at a1 d1 ⊢;have e7:=a1.n;have ckA:∀{τ:aC},Frm σ1 τ NoB->chks [((ld1 (aadd (aadd x2 (i*2)) 0)),.string (mkB v.nm)),((ld1 (aadd (aadd x (j*2)) 1)),.slice (some x2) D[j].cons.length kq),((ld1 (aadd ⟨U,0,some 0⟩ 1)),.slice (some x) D.length cd),((ld1 (aadd ⟨W,0,some 0⟩ 1)),.slice p i c)] τ=true:=fun f=>
   bF (c5.frm f) (bF (a5.frm f) (bF (a4.frm f) (bF (b7.frm f) rfl)))
  rw[bC,aO];refine⟨ckA a1,?_⟩;have pst:∀{a:Addr} {w:Value},Kp σ1 a w->past (ld1 a) w [σ1]=true:=fun h=>xY fun τ hτ=>by rw[List.mem_singleton.1 hτ];exact h
  rw[oS (a4.frm a1),aO];refine⟨pst a4,?_⟩;simp only[wpS];rw[aO];refine⟨gj,?_⟩;rw[oS (a5.frm a1),aO];refine⟨pst a5,?_⟩;simp only[wpS];rw[aO];refine⟨gi,?_⟩;rw[oS (c4.frm a1),aO];refine⟨pst c4,?_⟩;simp only[wpS];have a6:aN σ4 Y 1 (rJ σ1 Y) q2 v.args:=a7.later a1;have a9:Emp σ4 Y q2:=b0.step (Y':=Y) a1 (fun _ _ h=>h.elim) fun _ _ h=>h;refine yG (b:=σ1.n) (xs:=[]) (ys:=v.args.map dA) (.inr ⟨0,1,rfl,d1⟩) rfl (a6.src (fun _ _ h=>h) a9) (by simp) (by intro y hy;obtain⟨j,_,rfl⟩:=List.mem_map.1 hy;rfl) (by omega) (by omega) fun σ5 kb kp kc d4 d7 d2=>?_;have a0:Frm σ1 σ5 NoB:=a1.fresh d4 fun j hj h=>by omega
  rw[bC,aO];refine⟨ckA a0,?_⟩;rw[Nat.zero_add];have b3:=a3.frmN eB a0;have e6:=d4.n;have b6:kp≠none->σ1.n<=kb:=fun h=>by
   rcases d7 with h2|⟨_,h2⟩|h2
   ·exact absurd h2 h
   ·omega
   ·omega
  have d8:(D[j].cons.take i).length=i:=by rw[List.length_take];omega
  refine qO (len:=i) b3.row (by rw[cZ b3.cl,b3.len,d8]) (by decide) (by decide) rfl (by intro y hy;simp at hy;rcases hy with rfl|rfl<;>rfl) (by omega) (by omega) (fun τ f=>bF ((b7.frm a0).frm f) rfl) fun σ6 rb6 off6 s6 c6 c0 b5 e2=>?_;have c3:kp≠none->¬(kb<σ.n\/p≠none/\kb=rb):=fun h h2=>by
   have h3:=b6 h;rcases h2 with h2|⟨h2,h4⟩
   ·omega
   ·have:=a3.lt h2;omega
  have e3:=b3.more eB (fun j h=>by omega) (b:=v) rfl ⟨kp,kc,rfl,slV_strs2 (by simpa using d2) c3,d2.emp c3⟩ c0 b5 e2;have d9:¬(p≠none/\W=rb):=fun h=>a3.hr h.1 (by show rb<σ.n;omega);refine aT (c0.st (a0.stN b2) d9) (by simp) rfl fun σ7 d3 e5 d0=>?_;simp only[List.set_cons_succ,List.set_cons_zero]at d0;simp only[wpS,T10k1,ei];have c1:Frm σ σ6 (· =W):=(a2.seq a0.no).trans c0 (fun _ _ h=>h) fun j hj h=>absurd hj (a3.hr h.1 |> fun h2=>by rw[h.2];exact h2);rw[List.take_succ_eq_append_getElem hi,hv];exact⟨_,_,rb6,_,trivial,c1.seq d3,d0,e3.frm eB d3 fun j _ h=>by rw[h];exact e0⟩
 ·rintro st σ1 ⟨p,c,rb,css,rfl,a2,b2,a3⟩;unfold T10b1;simp only[wpS];rw[aB (a2.st b9 hU) (v:=.slice pd D.length cd) rfl];simp only[wpS];refine cR (c8 a2) hj rfl (o:=1) (by decide) fun cs b8=>?_;obtain⟨q,kq,rfl,_⟩:=b8;refine⟨_,rfl,?_⟩;simp only[wpS];rw[aA,if_neg (by simp)];simp only[wpS];rw[List.take_length]at a3;exact k σ1 p c rb css a2 b2 a3
theorem vf(hU:U≠V)(a6:St σ U [.slice pn N.length cn,.slice pd D.length cd]){v0:Value}(b5:St σ V [v0,.slice none 0 0])(hT:aN σ (· =V) 2 (dcR σ (· =V)) pd D)(hD:D.length<=1000000)(hC:∀d∈D,d.cons.length<=1000000)(hA:∀d∈D,∀c∈d.cons,c.args.length<=1000000){K:Ex->List Value->Pg}{Q:bW}
  (k:∀σ' p c rb css,Frm σ σ' (· =V)->St σ' V [v0,.slice p D.length c]->GR dcR 2 σ' (fun j=>j<σ.n) rb D css p c->Wp aG ovD (K (.exit 2) [.int .i64 ((D.length:Nat):Int)]) σ' Q):
  Wp aG ovD (.loop [.int .i64 0] (T10b2 ⟨U,0,some 0⟩ ⟨V,0,some 0⟩) K) σ Q:=by
 have e2:=a6.1;have c6:=b5.1;have d1:∀{τ:aC},Frm σ τ (· =V)->aN τ (· =V) 2 (dcR τ (· =V)) pd D:=fun f=>aN.step f (fun _ _ h=>h) (fun _ _ h=>h) (fun _ _ h=>cW _ _ _ _ _ _ _ f (fun _ _ h=>h) (fun _ _ h=>h) h) hT;refine Wp.count D.length (fun i st σ'=>∃p c rb css,st=[.int .i64 ((i:Nat):Int)]/\Frm σ σ' (· =V)/\St σ' V [v0,.slice p i c]/\GR dcR 2 σ' (fun j=>j<σ.n) rb (D.take i) css p c)
  ⟨none,0,0,[],rfl,Frm.refl _ _,b5,.zero⟩ ?_ ?_
 ·rintro i st σ1 hi ⟨p,c,rb,css,rfl,a2,a8,a1⟩;have ei:aP ((i:Int)+1)=((i+1:Nat):Int):=by rw[aS (by omega)];omega
  have a5:=a2.st a6 hU;have e1:=a2.n;have b4:=d1 a2;unfold T10b2;simp only[wpS];rw[aB a5 (v:=.slice pd D.length cd) rfl];simp only[wpS];rw[aA,if_pos (by simp;omega),aF,aB a5 (v:=.slice pd D.length cd) rfl];simp only[wpS];refine cR b4 hi rfl (o:=0) (by decide) fun cs c1=>?_;obtain⟨q,kq,rfl,_⟩:=c1;refine⟨_,rfl,?_⟩;simp only[wpS];refine aJ fun σ2 d7 e0 b6=>?_;generalize hW:σ1.n=W at b6;refine aZ b6 rfl rfl fun σ3 d6 d9 d3=>?_;have a0:Frm σ1 σ3 NoB:=d7.fresh d6 fun j hj h=>by omega
  have c9:=a0.stN a5;have d0:aN σ3 (fun j=>j=V\/j=W) 2 (dcR σ3 (fun j=>j=V\/j=W)) pd D:=by
   have hy:∀j,j<σ1.n->(j=V\/j=W)->j=V:=fun j h1 h2=>by omega
   exact aN.step a0 (fun _ _ h=>h.elim) hy (fun _ _ h=>cW _ _ _ _ _ _ _ a0 (fun _ _ h=>h.elim) hy h) b4
  have c7:V≠W:=by omega
  refine wp_made_cons hi (by omega) c9 d3 (.inr rfl) d0 (hC _ (List.getElem_mem hi)) (hA _ (List.getElem_mem hi)) fun σ4 p4 c4 rb4 css4 b0 d2 d5=>?_;simp only[wpS,T10k2];have c8:=a0.stN a8;have b3:=b0.st c8 c7;rw[aB b3 (v:=.slice p i c) rfl];simp only[wpS];rw[aL d2 2 rfl];simp only[wpS];have a4:Frm σ1 σ4 NoB:=a0.fresh b0 fun j hj h=>by omega
  have a9:=a1.frmN cW a4;have c0:=a0.n;have hb:dcR σ4 (fun j=>j<σ.n\/p≠none/\j=rb) [.string (mkB D[i].nm),.slice p4 D[i].cons.length c4] D[i]:=by
   refine cW σ4 σ4 NoB (fun j=>j<σ3.n) _ _ _ (Frm.refl _ _) (fun _ _ h=>h.elim) ?_ ⟨p4,c4,rfl,d5.close eB (by decide)⟩;rintro j _ (h|⟨h1,h2⟩)
   ·omega
   ·have:=a1.lt h1;omega
  have b2:(D.take i).length=i:=by rw[List.length_take];omega
  have a3:=yE (P:=aG) (ov:=ovD) (byt:=40) (Q:=fun e vs σ'=>Wp aG ovD (T10k3 ((i:Nat):Int) e vs) σ' fun e st' σ'=>match e with
    |.normal=>∃p c rb css,st'=[.int .i64 ((i+1:Nat):Int)]/\Frm σ σ' (· =V)/\St σ' V [v0,.slice p (i+1) c]/\GR dcR 2 σ' (fun j=>j<σ.n) rb (D.take (i+1)) css p c
    |e=>Wp aG ovD (K e st') σ' Q) cW (fun j h=>by have:=b0.n;omega) a9 (by decide) (by decide) rfl (by intro y hy;simp at hy;rcases hy with rfl|rfl<;>rfl) hb (by omega) (by decide)
    (g:=fun p' n' c'=>.act (stC (aadd ⟨V,0,some 0⟩ 1) [.slice p' n' c']) fun v=>bM v fun l=>aH l (.ret .normal [])) fun σ5 rb5 p5 c5 b8 b9 d4=>by
   have c3:¬(p≠none/\V=rb):=fun h=>a1.hr h.1 (by show rb<σ.n;omega);refine aT (b8.st b3 c3) (by simp) rfl fun σ6 b7 d8 a7=>?_;simp only[List.set_cons_succ,List.set_cons_zero]at a7;simp only[wpS,T10k3,ei];rw[b2]at a7;have b1:Frm σ σ5 (· =V):=(a2.seq a4.no).trans b8 (fun _ _ h=>h) fun j hj h=>absurd hj (a1.hr h.1 |> fun h2=>by rw[h.2];exact h2);rw[List.take_succ_eq_append_getElem hi];exact⟨_,_,rb5,_,trivial,b1.seq b7,a7,d4.frm cW b7 fun j _ h=>by rw[h];exact c6⟩
  rw[b2]at a3;exact a3
 ·rintro st σ1 ⟨p,c,rb,css,rfl,a2,a8,a1⟩;unfold T10b2;simp only[wpS];rw[aB (a2.st a6 hU) (v:=.slice pd D.length cd) rfl];simp only[wpS];rw[aA,if_neg (by simp)];simp only[wpS];rw[List.take_length]at a1;exact k σ1 p c rb css a2 a8 a1
end
section
variable{σ:aC}
theorem wp_made12(S:List UInt8){Q:Value->aC->Prop}
  (b9:1500<S.length\/zj S=none->∀pn cn pd cd σ',Frm σ σ' NoB->Q (.tuple #[trV pn 0 cn pd 0 cd,.bool false]) σ')
  (b0:∀N D,S.length<=1500->zj S=some (N,D)->∀pn cn pd cd σ',Frm σ σ' NoB->dL σ' (fun j=>j<σ.n) pn N pd D->(∀v∈N,v.kids.length<=1000000)->D.length<=1000000->(∀d∈D,d.cons.length<=1000000)->(∀d∈D,∀c∈d.cons,c.args.length<=1000000)->(cV D).length<=100000000->Q (.tuple #[trV pn N.length cn pd D.length cd,.bool true]) σ'):
  WpF aG ovD 10 [.string (mkB S)] σ Q:=by
 refine WpF.of (T10_eq _) rfl ?_;rw[T10];refine aJ fun σ1 c9 f8 b3=>?_;generalize hA:σ.n=A at b3;rw[aA];have f1:=cC S;by_cases f0:1500<S.length
 ·rw[if_pos (by simp;omega)];refine aZ b3 rfl rfl fun σ2 a0 d1 b2=>?_;rw[aL b2 2 rfl];simp only[wpS];exact⟨_,rfl,b9 (.inl f0) _ _ _ _ σ2 (c9.fresh a0 fun j hj h=>by omega)⟩
 rw[if_neg (by simp;omega),aE];have core:∀(N:List NV) (D:List Dc) (pn pd:Option Addr) (cn cd:Nat) (e a:Int) (σ2:aC),Frm σ1 σ2 NoB->dL σ2 (fun j=>j<σ1.n) pn N pd D->(∀v∈N,v.kids.length<=1000000)->N.length<=1000000->D.length<=1000000->(∀d∈D,d.cons.length<=1000000)->(∀d∈D,∀c∈d.cons,c.args.length<=1000000)->
   (∀pn' cn' pd' cd' σ',Frm σ σ' NoB->dL σ' (fun j=>j<A) pn' N pd' D->Q (.tuple #[trV pn' N.length cn' pd' D.length cd',.bool (e==0)]) σ')->
   Wp aG ovD (bM (.tuple #[trV pn N.length cn pd D.length cd,.int .i64 e,.int .i64 a]) fun l8=>aU l8 fun v9 l10=>asAgg v9 fun l11=>aU l11 fun v12 l13=>aI v12 fun p14 n15 n16=>aU l13 fun v17 l18=>aI v17 fun p19 n20 n21=>aH l18 (aU l10 fun v22 l23=>asInt .i64 v22 fun i24=>aU l23 fun v25 l26=>asInt .i64 v25 fun i27=>aH l26 (.act (newC [(.slice none 0 0),(.slice none 0 0)]) fun v28=>aR v28 fun p29=>aD p29 fun a30=>.act (stC a30 [(.slice p14 n15 n16),(.slice p19 n20 n21)]) fun v31=>bM v31 fun l32=>aH l32 (.act (newC [(.slice none 0 0),(.slice none 0 0)]) fun v33=>aR v33 fun p34=>aD p34 fun a35=>.act (stC a35 [(.slice none 0 0),(.slice none 0 0)]) fun v36=>bM v36 fun l37=>aH l37 (.loop [(.int .i64 0)] (T10b0 a30 a35) (T10k5 a30 a35 ⟨A,0,some 0⟩ i24)))))) σ2 fun _ vs σ'=>∃v,vs=[v]/\Q v σ':=by
  intro N D pn pd cn cd e a σ2 a0 d6 hK hN hD hC a9 hq;simp only[wpS];have b2:=a0.stN b3;have d1:=a0.n;refine aJ fun σ3 e7 f7 c5=>?_;generalize hU:σ2.n=U at c5;refine aZ c5 rfl rfl fun σ4 e6 f6 e1=>?_;have a3:Frm σ2 σ4 NoB:=e7.fresh e6 fun j hj h=>by omega
  refine aJ fun σ5 e5 f5 c4=>?_;generalize hV:σ4.n=V at c4;refine aZ c4 rfl rfl fun σ6 e4 f4 c3=>?_;have a7:Frm σ4 σ6 NoB:=e5.fresh e4 fun j hj h=>by omega
  have c0:=a7.stN e1;have a2:=a3.seq a7;have c1:dL σ6 (· =V) pn N pd D:=d6.step (S:=NoB) a2 (fun _ _ h=>h.elim) fun j hj h=>by omega
  have b1:U≠V:=by omega
  have a4:Frm σ σ6 NoB:=(c9.seq a0).seq a2;have a5:=a2.stN b2;refine vb b1 c0 c3 c1 hK hN fun σ7 p7 c7 rb7 css7 a8 e0 e3=>?_;simp only[wpS,T10k5];have d4:=a8.st c0 b1;have d5:aN σ7 (· =V) 2 (dcR σ7 (· =V)) pd D:=(c1.step (Y':=(· =V)) a8 (fun _ _ h=>h) fun _ _ h=>h).decls;refine vf b1 d4 e0 d5 hD hC a9 fun σ8 p8 c8 rb8 css8 c6 d9 e2=>?_;simp only[wpS,T10k4];rw[aL d9 2 rfl];simp only[wpS];have a6:=a8.seq c6;have b8:Frm σ σ8 NoB:=a4.fresh a6 fun j hj h=>by have:=a4.n;have:=a3.n;omega
  have e9:A≠V:=by have:=a3.n;omega
  refine aZ (a6.st a5 e9) rfl rfl fun σ9 b6 f2 d8=>?_;rw[aL d8 2 rfl];simp only[wpS];have b7:Frm σ σ9 NoB:=b8.fresh b6 fun j hj h=>by omega
  have d0:=a4.n;have f3:=a8.n;have e8:A<σ6.n:=by have:=a5.1;exact this
  have d3:V<σ6.n:=c3.1;refine⟨_,rfl,hq _ _ _ _ σ9 b7 ⟨?_,?_⟩⟩
  ·have b5:=e3.frm dG c6 fun j _ h=>by rw[h];exact d3
   have b4:=b5.frm dG b6 fun j _ h=>by rw[h];exact e8
   have a1:=GR.step (S:=NoB) (Y':=fun j=>j<A) dG b4 (Frm.refl _ _) (fun _ _ h=>h.elim) fun j _ h=>by show j<σ6.n;omega
   exact a1.close dG (by decide)
  ·have b4:=e2.frm cW b6 fun j _ h=>by rw[h];show A<σ7.n;omega
   have a1:=GR.step (S:=NoB) (Y':=fun j=>j<A) cW b4 (Frm.refl _ _) (fun _ _ h=>h.elim) fun j _ h=>by show j<σ7.n;omega
   exact a1.close cW (by decide)
 refine yY S ?_ ?_
 ·intro hd e a σ2 a0 he;refine core [] [] none none 0 0 e a σ2 a0 ⟨aN.nil,aN.nil⟩ (by simp) (by simp) (by simp) (by simp) (by simp) fun pn' cn' pd' cd' σ' hF _=>?_;have:(e==0)=false:=by simpa using he
  rw[this];exact b9 (.inr (hd.resolve_right (by omega))) _ _ _ _ σ' hF
 ·intro N D hd pn cn pd cd σ2 a0 hT hK hD hC a9 d2;have hg:=vX hd;refine core N D pn pd cn cd 0 0 σ2 a0 hT hK (Nat.le_trans hg.most (by decide)) hD hC a9 fun pn' cn' pd' cd' σ' hF d7=>?_;have h:=b0 N D (by omega) hd pn' cn' pd' cd' σ' hF (by rw[hA];exact d7) hK hD hC a9 d2;exact h
end
def Tri.bnd:Tri->Nat
 |.nil=>0
 |.node _ l r=>max 1 (max (2*l.bnd) (bif Nat.beq r.bnd 0 then 0 else 2*r.bnd+1))
theorem Tri.bnd_ok:∀(t:Tri) (j:Nat),t.bnd<=j->t.get j=none
 |.nil,j,_=>by cases j<;>rfl
 |.node v l r,j,h=>by
  unfold Tri.bnd at h;cases j with
  |zero=>omega
  |succ m=>
   unfold Tri.get;simp only;cases hm:Nat.beq (m%2) 0 with
   |true=>have:m%2=0:=Nat.eq_of_beq_eq_true hm;exact Tri.bnd_ok l _ (by omega)
   |false=>
    have a0:m%2≠0:=fun e=>by rw[e]at hm;cases hm
    refine Tri.bnd_ok r _ ?_;cases hr:Nat.beq r.bnd 0 with
    |true=>have:=Nat.eq_of_beq_eq_true hr;omega
    |false=>rw[hr]at h;simp only[cond_false]at h;omega
def goodR:Option (Value×aC)->Bool
 |some (.bool b,σ)=>b&&Nat.ble σ.mem.bnd σ.n
 |_=>false
def oldR(old:Addr->Option Value):Option (Value×aC)->Addr->Option Value
 |some (_,σ)=>σ.old
 |none=>old
theorem WpF.tabQ{P:Program}{ov:Ov}{tab:Tab}(ht:lK P tab){f:FuncId}{args:List Value}{old:Addr->Option Value}(n:Nat)(h:goodR (kS ov tab n f args (jP old))=true)(ho:oldR old (kS ov tab n f args (jP old))=old):
  WpF P ov f args (jP old) fun v σ'=>v=.bool true/\σ'.old=old/\eS σ':=by
 cases hx:kS ov tab n f args (jP old)with
 |none=>rw[hx]at h;cases h
 |some r=>
  obtain⟨v,σ'⟩:=r;rw[hx]at h ho;refine⟨v,σ',EvF.tab ht n hx,?_⟩;unfold goodR at h;split at h
  ·rename_i a0;simp only[Option.some.injEq,Prod.mk.injEq]at a0;obtain⟨rfl,rfl⟩:=a0;simp only[Bool.and_eq_true,Nat.ble_eq]at h;exact⟨by rw[h.1],ho,fun j hj=>Tri.bnd_ok _ _ (Nat.le_trans h.2 hj)⟩
  ·cases h
theorem awake8(old:Addr->Option Value):WpF aG ovD 9 [] (jP old) fun v σ'=>v=.bool true/\σ'.old=old/\eS σ':=
 WpF.tabQ TAB_ok 1000000 (by kernel_rfl) (by kernel_rfl)
theorem vr_spot{B n c:Nat}{v:Value}{p:Option Addr}(h:VR ql B (.slice p n c) v):∀q,p=some q->q.spot=none:=by
 intro q hq;cases h with
 |sliceNil=>cases hq
 |sliceZero _ _ hl=>
  cases hq;cases hs:q.spot with
  |none=>rfl
  |some v=>obtain⟨i,hi⟩:=hl v hs;cases hi
 |sliceOld=>cases hq;assumption
 |sliceNew h=>cases h
section
variable{σ σ':aC}{X Y Z:Nat->Prop}{A:Nat}{T:TrA}{N:List NV}{D:List Dc}{s:Slt}{m:MS}
theorem row_in{old:Addr->Option Value}(ho:σ.old=old){p:Option Addr}{l:List Int}(h:RdR old 1 (.int .i64) p l)(hs:∀q,p=some q->q.spot=none):aN σ Y 1 oU p l:=by
 intro i hi;obtain⟨x,hx,h1⟩:=h i hi;refine⟨x,[.int .i64 l[i]],hx,.inl (hs x hx),?_,rfl⟩;have:=(rdN_cl (σ:=σ) ho (a:=aadd x (i*1)) (vs:=[.int .i64 l[i]]) (by simp) fun j v hv=>by
  have hj:=(List.getElem?_eq_some_iff.1 hv).1;have hj:j=0:=by simpa using hj
  subst hj;simp at hv;subst hv;exact h1).2
 exact this
theorem emp_in{p:Option Addr}(hs:∀q,p=some q->q.spot=none):Emp σ Y p:=by intro a ha;have h:=hs a ha;refine⟨.inl h,?_⟩;obtain⟨b,o,s⟩:=a;simp only at h;subst h;rfl
theorem yj{p:Option Addr}(h:Emp σ Y p)(f:Frm σ σ' NoB):Emp σ' Y p:=h.step (S:=NoB) f (fun _ _ h=>h.elim) fun _ _ h=>h
theorem vS{p:Option Addr}{l:List Int}(h:aN σ Y 1 oU p l)(f:Frm σ σ' NoB):aN σ' Y 1 oU p l:=aN.step (S:=NoB) f (fun _ _ h=>h.elim) (fun _ _ h=>h) (fun _ _ h=>h) h
theorem ua{l:List Int}(h:inpB l=true):(∀x∈l,w63 x=x)/\l.length<=20:=by unfold inpB at h;simpa using h
end
section
variable{β:Type}{R:aC->(Nat->Prop)->List Value->β->Prop}{σ σ':aC}{Y:Nat->Prop}{P:Program}{ov:Ov}
def Wide(R:aC->(Nat->Prop)->List Value->β->Prop)(k:Nat):Prop:=∀σ Y cs x,R σ Y cs x->cs.length=k/\∀y∈cs,one y=true
theorem wp_cpG(hM:mI R){k b s byt c ln:Nat}{p:Option Addr}{l:List β}(hR:Wide R k)(hk:1<=k)(hN:Row σ b 0 s 0 k [])(hb:¬Y b)(h:aN σ (fun j=>Y j\/j=b) k (R σ fun j=>Y j\/j=b) p l)(he:Emp σ (fun j=>Y j\/j=b) p)(hl:l.length<=1000000)(a1:byt<=1000)(a0:ln=l.length){g:Option Addr->Nat->Nat->Pg}{Q:bW}
  (K:∀σ' p' c' css,Frm σ σ' (· =b)->GR R k σ' Y b l css (some p') c'->Wp P ov (g (some p') ln c') σ' Q):
  Wp P ov (.act (apS k byt (some ⟨b,0,some s⟩) 0 0 p ln c) fun v=>aI v g) σ Q:=by
 subst a0;have a2:2*(0+l.length)*byt<=281474976710656:=Nat.le_trans (Nat.mul_le_mul (Nat.mul_le_mul (Nat.le_refl 2) (by omega:0+l.length<=1000000)) a1) (by decide);have fin:∀(τ:aC) (s' c':Nat) (css:List (List Value)),Frm σ τ (· =b)->Row τ b 0 s' c' k css.flatten->css.length=l.length->(∀i (h1:i<css.length) (h2:i<l.length),R σ (fun j=>Y j\/j=b) css[i] l[i])->Wp P ov (g (some ⟨b,0,some s'⟩) l.length c') τ Q:=by
  intro τ s' c' css hF hr h1 h3;refine K τ _ c' css hF ⟨.inr ⟨0,s',rfl,hr⟩,fun _=>hb,h1,fun cs hc=>?_,fun i g1 g2=>hM _ _ _ _ _ _ _ hF (fun _ _ h=>.inr h) (fun _ _ h=>h.elim .inl fun h=>.inr h.2) (h3 i g1 g2)⟩;obtain⟨i,hi,rfl⟩:=List.getElem_of_mem hc;exact(hR _ _ _ _ (h3 i hi (by omega))).1
 by_cases h0:l.length=0
 ·obtain rfl:l=[]:=List.eq_nil_of_length_eq_zero h0;have e:apS k byt (some ⟨b,0,some s⟩) 0 0 p ([]:List β).length c σ=some (.slice (some ⟨b,0,some s⟩) 0 0,σ):=by
   cases p with
   |none=>rw[zV];exact fV (Nat.le_refl _)
   |some a=>rw[gY (ys:=[]) (by simpa using (he a rfl).2)];exact fV (Nat.le_refl _)
  rw[aV,e];simp only[bO];exact fin σ s 0 [] (Frm.refl _ _) hN rfl fun i h=>by cases h
 ·cases p with
  |none=>obtain⟨x,cs,hx,_⟩:=h 0 (by omega);cases hx
  |some a=>
   obtain⟨css,h1,h2,h3⟩:=VRow.whole h he;have hc:∀cs∈css,cs.length=k/\∀y∈cs,one y=true:=fun cs hc=>by obtain⟨i,hi,rfl⟩:=List.getElem_of_mem hc;exact hR _ _ _ _ (h3 i hi (by omega))
   obtain⟨σ1,s1,c1,e1,e2,e3,e4,e5⟩:=hN.append (byt:=byt) (len:=0) (n:=l.length) (ys:=css.flatten) (by simp) (by rw[cZ fun cs h=>(hc cs h).1,h1]) hk (by omega) (fun y hy=>by obtain⟨cs,h4,h5⟩:=List.mem_flatten.1 hy;exact(hc cs h4).2 y h5) a2 (by omega);rw[aV,gY h2,e1];simp only[bO,Nat.zero_add];exact fin σ1 s1 c1 css (Frm.of1 hN.lt e2 e3 e4) e5 h1 h3
theorem uS(hM:mI R){k b s byt c n0 ln:Nat}{p:Option Addr}{l:List β}(hR:Wide R k)(hk:1<=k)(a8:k<64)(hY:∀j,Y j->j<σ.n)(hN:Row σ b 0 s 0 k [])(hb:¬Y b)(h:aN σ (fun j=>Y j\/j=b) k (R σ fun j=>Y j\/j=b) p l)(he:Emp σ (fun j=>Y j\/j=b) p)(hl:l.length<=1000000)(a9:byt<=1000)(b6:eS σ)(b4:n0<=σ.n){ys:List Value}{x:β}(hx:R σ (fun j=>Y j\/j=b) ys x){ck:List (Act×Value)}(b7:∀τ,Frm σ τ (· =b)->chks ck τ=true)(b5:ln=l.length){g:Option Addr->Nat->Nat->Pg}{Q:bW}
  (K:∀σ' rb p' c' css,Frm σ σ' (· =b)->GR R k σ' Y rb (l++[x]) css (some p') c'->Wp P ov (g (some p') (ln+1) c') σ' Q):
  Wp P ov (.get fun h1=>grd (mH n0 h1 [b]) (.act (tU k 1 ys) fun v=>aI v fun p2 n2 c2=>.get fun h2=>.act (apS k byt (some ⟨b,0,some s⟩) 0 0 p ln c) fun v=>aI v fun p3 n3 c3=>.get fun h3=>grd (chks ck h3) (.get fun h4=>grd (pE [(h1.n,(h2.get h1.n))] h4) (.act (apS k byt p3 n3 c3 p2 n2 c2) fun v=>aI v g)))) σ Q:=by
 subst b5;have c4:=hN.lt;obtain⟨a5,a6⟩:=hR _ _ _ _ hx;rw[bC,aO];refine⟨kB b4 b6 (fun j h=>by rw[List.mem_singleton.1 h];omega),?_⟩;have a1:Frm σ (σ.newBlk ys k) NoB:=Frm.new _ _ _ _;have b0:=a1.rowN hN;have a3:Row (σ.newBlk ys k) σ.n 0 k 1 k ys:=Row.new σ k ys 1 a8 (by omega) a6;rw[aV,cM];simp only[bO];generalize σ.newBlk ys k=σ1 at a1 b0 a3 ⊢;have c1:=a1.n;rw[bC];refine wp_cpG (Y:=Y) hM hR hk b0 hb (aN.step (S:=NoB) (Y':=fun j=>Y j\/j=b) a1 (fun _ _ h=>h.elim) (fun _ _ h=>h) (fun _ _ h=>hM _ _ _ _ _ _ _ a1 (fun _ _ h=>h.elim) (fun _ _ h=>h) h) h) (he.step (S:=NoB) (Y':=fun j=>Y j\/j=b) a1 (fun _ _ h=>h.elim) fun _ _ h=>h) hl a9 rfl fun σ2 p2 c2 css a4 a2=>?_;have a0:Frm σ σ2 (· =b):=a1.no.seq a4;have a7:¬σ.n=b:=by omega
 rw[bC,aO];refine⟨b7 _ a0,?_⟩;rw[bC,aO];refine⟨jR (a4.get _ a3.lt a7),?_⟩;have b9:=a4.row a3 a7;have b8:2*(l.length+1)*byt<=281474976710656:=Nat.le_trans (Nat.mul_le_mul (Nat.mul_le_mul (Nat.le_refl 2) (Nat.succ_le_succ hl)) a9) (by decide);have hs:σ2.rdN ⟨σ.n,0,some k⟩ (1*k)=some ys:=by have:=b9.rdN (i:=0) (k:=1*k) (by omega);rw[List.drop_zero,List.take_of_length_le (by omega)]at this;exact this
 obtain⟨σ3,rb,off,s3,c3,e1,b1,b3,c0⟩:=app_ex2 (byt:=byt) (c2:=1) a2.row hs (by rw[cZ a2.cl,a2.len]) hk a8 a5 a6 b8 (by omega);rw[aV,e1];simp only[bO];have b2:R σ2 (fun j=>Y j\/some p2≠none/\j=b) ys x:=hM _ _ _ _ _ _ _ a0 (fun _ _ h=>.inr h) (fun _ _ h=>h.elim .inl fun h=>.inr h.2) hx;exact K σ3 rb _ c3 _ (a0.seq (b1.mono fun _ _ h=>h.2)) (a2.more hM (fun j hj=>Nat.lt_of_lt_of_le (hY j hj) a0.n) a5 b2 b1 b3 c0)
theorem tQ{k:Nat}(hk:k<64)(a0:eS σ){F:aC->aC->Option Addr->Nat->Nat->aC->Pg}{Q:bW}(K:∀σ',Frm σ σ' NoB->σ'.n=σ.n+1->Row σ' σ.n 0 k 0 k []->Wp P ov (F σ σ (some ⟨σ.n,0,some k⟩) 0 0 σ') σ' Q):
  Wp P ov (.get fun h1=>.get fun h2=>grd (mH h1.n h2 []) (.act (tU k 0 []) fun v=>aI v fun p n c=>.get fun h3=>F h1 h2 p n c h3)) σ Q:=by
 rw[bC,bC,aO];refine⟨kB (Nat.le_refl _) a0 (fun _ h=>by cases h),?_⟩;rw[aV,cM];simp only[bO];rw[bC];exact K _ (Frm.new _ _ _ _) rfl (Row.new σ k [] 0 hk (by simp) (fun _ h=>by cases h))
theorem mI.wider(hM:mI R){b:Nat}{cs:List Value}{x:β}(h:R σ Y cs x)(f:Frm σ σ' NoB)(hb:σ.n<=b):R σ' (fun j=>Y j\/j=b) cs x:=hM σ σ' NoB Y _ cs x f (fun _ _ h=>h.elim) (fun j hj h=>h.elim id fun h=>by omega) h
theorem aN.wider(hM:mI R){k b:Nat}{p:Option Addr}{l:List β}(h:aN σ Y k (R σ Y) p l)(f:Frm σ σ' NoB)(hb:σ.n<=b):aN σ' (fun j=>Y j\/j=b) k (R σ' fun j=>Y j\/j=b) p l:=
 aN.step (S:=NoB) f (fun _ _ h=>h.elim) (fun j hj h=>h.elim id fun h=>by omega) (fun _ _ h=>hM.wider h f hb) h
theorem Emp.wider{b:Nat}{p:Option Addr}(h:Emp σ Y p)(f:Frm σ σ' NoB)(hb:σ.n<=b):Emp σ' (fun j=>Y j\/j=b) p:=h.step (S:=NoB) f (fun _ _ h=>h.elim) fun j hj h=>h.elim id fun h=>by omega
end
def vD(v:Vl)(q:Option Addr)(c:Nat)(p:Option Addr)(k:Int):List Value:=[.int .i64 v.k,.int .i64 v.n,.string (mkB v.nm),.slice q v.args.length c,.int .i64 v.node,.pointer p,.int .i64 v.at_,.int .i64 k]
structure DW where
 at_:Int
 vals:List Vl
 env:En
 calls:Int
 call:Bool
 try_:Bool
def dwC(w:DW)(q:Option Addr)(c:Nat)(p:Option Addr):List Value:=[.int .i64 w.at_,.slice q w.vals.length c,.pointer p,.int .i64 w.calls,.bool w.call,.bool w.try_]
def dwR(σ:aC)(Y:Nat->Prop)(cs:List Value)(w:DW):Prop:=∃q c p,cs=dwC w q c p/\aN σ Y 8 (vlR 8 σ Y) q w.vals/\Emp σ Y q/\EnR 8 σ Y w.env p
def dlR(_:aC)(_:Nat->Prop)(cs:List Value)(_:Unit):Prop:=∃a b:Int,cs=[.int .i64 a,.int .i64 b]
def diR(_:aC)(_:Nat->Prop)(cs:List Value)(z:Int):Prop:=cs=[.int .i64 z]
theorem rK{σ:aC}{Y:Nat->Prop}{v:Vl}{cs:List Value}:VlR 8 σ Y v cs↔∃q c p k,cs=vD v q c p k/\VlP 8 σ Y v q p:=by
 rw[VlR_of];constructor
 ·rintro⟨q,c,p,z,rfl,h0,h2⟩;obtain⟨k,rfl⟩:=List.length_eq_one_iff.1 (by omega:z.length=1);exact⟨q,c,p,k,rfl,h2⟩
 ·rintro⟨q,c,p,k,rfl,h2⟩;exact⟨q,c,p,[k],rfl,rfl,h2⟩
theorem wide_v:Wide (vlR 8) 8:=by intro σ Y cs v h;obtain⟨q,c,p,k,rfl,_⟩:=rK.1 h;exact⟨rfl,by intro y hy;simp[vD]at hy;rcases hy with rfl|rfl|rfl|rfl|rfl|rfl|rfl|rfl<;>rfl⟩
theorem wide_w:Wide dwR 6:=by rintro σ Y cs w ⟨q,c,p,rfl,_⟩;exact⟨rfl,by intro y hy;simp[dwC]at hy;rcases hy with rfl|rfl|rfl|rfl|rfl|rfl<;>rfl⟩
theorem wide_l:Wide dlR 2:=by rintro σ Y cs w ⟨a,b,rfl⟩;exact⟨rfl,by intro y hy;simp at hy;rcases hy with rfl|rfl<;>rfl⟩
theorem wide_i:Wide diR 1:=by rintro σ Y cs w rfl;exact⟨rfl,by intro y hy;simp at hy;subst hy;rfl⟩
theorem jF:mI dwR:=by rintro σ σ' S Y Y' cs w f hS hY ⟨q,c,p,h1,h2,h3,h4⟩;exact⟨q,c,p,h1,dJ f hS hY h2,h3.step f hS hY,EnR_step f hS hY _ _ h4⟩
theorem zP:mI dlR:=fun _ _ _ _ _ _ _ _ _ _ h=>h
theorem xg:mI diR:=fun _ _ _ _ _ _ _ _ _ _ h=>h
theorem aN.init{β:Type}{σ:aC}{Y:Nat->Prop}{c:Nat}{R:List Value->β->Prop}{p:Option Addr}{l r:List β}(h:aN σ Y c R p (l++r)):aN σ Y c R p l:=by intro i hi;obtain⟨x,cs,h1,h2,h3,h4⟩:=h i (by simp;omega);rw[List.getElem_append_left hi]at h4;exact⟨x,cs,h1,h2,h3,h4⟩
structure DS where
 inp:List Int
 read:Int
 out:List Int
 cells:List Vl
 over:Int
 fv:Vl
 err:Int
 steps:Int
 big:Bool
 at_:Nat
 env:En
 back:Bool
 v:Vl
 k:List DW
 nc:List Unit
 pi:Option Addr
 ci:Nat
 po:Option Addr
 co:Nat
 pc:Option Addr
 cc:Nat
 fq:Option Addr
 fc:Nat
 fp:Option Addr
 fk:Int
 pe:Option Addr
 vq:Option Addr
 vc:Nat
 vp:Option Addr
 vk:Int
 pw:Option Addr
 cw:Nat
 pl:Option Addr
 cl:Nat
def dmC(T:TrA)(N:List NV)(D:List Dc)(m:DS):List Value:=
 [.slice T.pn N.length T.cn,.slice T.pd D.length T.cd,.slice m.pi m.inp.length m.ci,.int .i64 m.read,.slice m.po m.out.length m.co,.slice m.pc m.cells.length m.cc,.int .i64 m.over,
  .int .i64 m.fv.k,.int .i64 m.fv.n,.string (mkB m.fv.nm),.slice m.fq m.fv.args.length m.fc,.int .i64 m.fv.node,.pointer m.fp,.int .i64 m.fv.at_,.int .i64 m.fk,.int .i64 m.err,.int .i64 m.steps,.bool m.big,.int .i64 ((m.at_:Nat):Int),.pointer m.pe,.bool m.back,
  .int .i64 m.v.k,.int .i64 m.v.n,.string (mkB m.v.nm),.slice m.vq m.v.args.length m.vc,.int .i64 m.v.node,.pointer m.vp,.int .i64 m.v.at_,.int .i64 m.vk,.slice m.pw m.k.length m.cw,.slice m.pl m.nc.length m.cl]
section
variable(N:List NV)(c:Nat)
def okDW(w:DW):Prop:=eOK N c w.env/\lOK N c w.vals/\(w.call=false->∃i:Nat,w.at_=(i:Int)/\∃h:i<N.length,¬20<N[i].x.k/\w.vals.length<N[i].kids.length/\(w.try_=true->N[i].x.k=20))
def okK:Nat->List DW->Prop
 |_,[]=>True
 |b,w::r=>okDW N c w/\(w.call=true->w.try_=false/\1<=b/\okK (b-1) r)/\(w.call=false->(w.try_=true->w.calls=(b:Int))/\okK b r)
end
structure DR(σ:aC)(Y:Nat->Prop)(T:TrA)(N:List NV)(D:List Dc)(n b:Nat)(m:DS):Prop where
 tree:gT σ Y T.pn N T.pd D
 inp:aN σ Y 1 oU m.pi m.inp
 out:aN σ Y 1 (diR σ Y) m.po m.out
 oe:Emp σ Y m.po
 cells:aN σ Y 8 (vlR 8 σ Y) m.pc m.cells
 ce:Emp σ Y m.pc
 v:VlP 8 σ Y m.v m.vq m.vp
 env:EnR 8 σ Y m.env m.pe
 k:aN σ Y 6 (dwR σ Y) m.pw m.k.reverse
 ke:Emp σ Y m.pw
 kc:m.k.length<=m.cw
 l:aN σ Y 2 (dlR σ Y) m.pl m.nc
 le:Emp σ Y m.pl
 lc:m.nc.length<=m.cl
 pat:okP N m.at_
 pe:eOK N m.cells.length m.env
 pv:vOK N m.cells.length m.v
 pc:lOK N m.cells.length m.cells
 pk:okK N m.cells.length b m.k
 pb:b<=m.nc.length
 rd:0<=m.read/\m.read<=(m.inp.length:Int)
 il:m.inp.length<=1000000
 no:m.out.length<=n
 nv:m.cells.length<=n
 nk:m.k.length<=n
 nl:m.nc.length<=n
section
variable{σ σ':aC}{Y Y' S:Nat->Prop}{B:Nat}{T:TrA}{N:List NV}{D:List Dc}{n b c c':Nat}{m:DS}
theorem DR.step(h:DR σ Y T N D n b m)(f:Frm σ σ' S)(hS:∀j,j<σ.n->S j->Y j):DR σ' Y T N D n b m:=
 have hI:∀j,j<σ.n->Y j->Y j:=fun _ _ h=>h
 ⟨h.tree.step f hS hI,h.inp.step f hS hI fun _ _ h=>h,h.out.step f hS hI fun _ _ h=>h,h.oe.step f hS hI,dJ f hS hI h.cells,h.ce.step f hS hI,h.v.step f hS hI,EnR_step f hS hI _ _ h.env,h.k.step f hS hI fun _ _ h=>jF _ _ _ _ _ _ _ f hS hI h,h.ke.step f hS hI,h.kc,h.l.step f hS hI fun _ _ h=>h,h.le.step f hS hI,h.lc,h.pat,h.pe,h.pv,h.pc,h.pk,h.pb,h.rd,h.il,h.no,h.nv,h.nk,h.nl⟩
structure Dm(σ:aC)(B:Nat)(T:TrA)(N:List NV)(D:List Dc)(n b:Nat)(m:DS):Prop where
 st:St σ B (dmC T N D m)
 r:DR σ (· =B) T N D n b m
theorem Dm.frm(h:Dm σ B T N D n b m)(f:Frm σ σ' NoB):Dm σ' B T N D n b m:=⟨f.stN h.st,h.r.step f fun _ _ h=>h.elim⟩
def QD(σ:aC)(B:Nat)(T:TrA)(N:List NV)(D:List Dc)(n:Nat)(v:Value)(σ':aC):Prop:=v=.tuple #[]/\Frm σ σ' (· =B)/\∃m,Dm σ' B T N D n m.nc.length m
theorem QD.up{σ1:aC}{v:Value}(f:Frm σ σ1 (· =B))(h:QD σ1 B T N D n v σ'):QD σ B T N D n v σ':=⟨h.1,f.seq h.2.1,h.2.2⟩
theorem fN{f:FuncId}{args:List Value}{K:Pg}{Q:bW}{σ0:aC}(h:WpF aG ovD f args σ (QD σ B T N D n))(hF:Frm σ0 σ (· =B))(k:∀σ',QD σ0 B T N D n (.tuple #[]) σ'->Wp aG ovD K σ' Q):Wp aG ovD (.call f args fun v=>bM v fun l=>aH l K) σ Q:=by rw[aE];refine WpF.mono h ?_;intro v σ' hq;obtain⟨rfl,_⟩:=id hq;simp only[wpS];exact k σ' (hq.up hF)
theorem we(hc:c<=c'):∀{b:Nat} {k:List DW},okK N c b k->okK N c' b k
 |_,[],_=>trivial
 |_,_::_,⟨h1,h2,h3⟩=>⟨⟨eOK_mono hc _ h1.1,lOK_mono hc _ h1.2.1,h1.2.2⟩,fun h=>⟨(h2 h).1,(h2 h).2.1,we hc (h2 h).2.2⟩,fun h=>⟨(h3 h).1,we hc (h3 h).2⟩⟩
theorem ldVs(h:St σ B (dmC T N D m)):Go.Pg.ldN 8 (aadd ⟨B,0,some 0⟩ 21) σ=some (.agg (vD m.v m.vq m.vc m.vp m.vk).toArray,σ):=by have:=h.ldN (off:=21) (k:=8) (by simp[dmC]);exact this
theorem Dm.lt(h:Dm σ B T N D n b m):B<σ.n:=h.st.1
theorem wp_give(h:Dm σ B T N D n m.nc.length m){v:Vl}{q p:Option Addr}{c:Nat}{k:Int}(hv:VlP 8 σ (· =B) v q p)(ok:vOK N m.cells.length v):WpF aG ovD 120 [bI B,.agg (vD v q c p k).toArray] σ (QD σ B T N D n):=by
 refine WpF.of (T120_eq _ _ _ _ _ _ _ _ _ _ _) rfl ?_;rw[T120];refine aJ fun σ1 a1 a9 a2=>?_;have h1:=h.frm a1;have hB:¬σ.n=B:=fun e=>by have:=h.st.1;omega
 rw[aL a2 8 rfl];simp only[wpS];refine aT (i:=20) h1.st (by simp[dmC]) rfl fun σ2 a3 a8 a5=>?_;rw[bC,aO];refine⟨cQ ((a3.st a2 hB).ldAll 8 rfl) rfl,?_⟩;refine yH (i:=21) a5 (by simp[dmC]) rfl fun σ3 a6 a7 a4=>?_;simp only[wpS];have a0:=a3.seq a6;refine⟨_,rfl,rfl,a1.no.seq a0,{m with back:=true,v:=v,vq:=q,vc:=c,vp:=p,vk:=k},a4,DR.step (S:=(· =B)) ?_ a0 fun _ _ h=>h⟩;exact {h1.r with v:=hv.frmN a1,pv:=ok}
theorem qQ(h:Dm σ B T N D n m.nc.length m){i:Nat}{e:En}{p:Option Addr}(he:EnR 8 σ (· =B) e p)(oi:okP N i)(oe:eOK N m.cells.length e):WpF aG ovD 124 [bI B,.int .i64 ((i:Nat):Int),.pointer p] σ (QD σ B T N D n):=by refine WpF.of (T124_eq _ _ _) rfl ?_;rw[T124];simp only[wpS];refine aT (i:=20) h.st (by simp[dmC]) rfl fun σ1 a5 a8 a2=>?_;refine aT (i:=18) a2 (by simp[dmC]) rfl fun σ2 a4 a7 a1=>?_;refine aT (i:=19) a1 (by simp[dmC]) rfl fun σ3 a3 a6 a0=>?_;simp only[wpS];have hF:=(a5.seq a4).seq a3;refine⟨_,rfl,rfl,hF,{m with back:=false,at_:=i,env:=e,pe:=p},a0,DR.step (S:=(· =B)) ?_ hF fun _ _ h=>h⟩;exact {h.r with env:=he,pat:=oi,pe:=oe}
theorem wp_over{b:Nat}{x:Int}(h:Dm σ B T N D n b m)(hb:b=m.nc.length){K:Pg}{Q:bW}(k:∀σ',Frm σ σ' (· =B)->Dm σ' B T N D n m.nc.length {m with over:=x}->Wp aG ovD K σ' Q):Wp aG ovD (.act (stC (aadd ⟨B,0,some 0⟩ 6) [.int .i64 x]) fun v=>bM v fun l=>aH l K) σ Q:=by subst hb;refine aT (i:=6) h.st (by simp[dmC]) rfl fun σ1 a0 a2 a1=>?_;exact k σ1 a0 ⟨a1,DR.step (S:=(· =B)) {h.r with} a0 fun _ _ h=>h⟩
theorem jN(h:Dm σ B T N D n m.nc.length m):WpF aG ovD 123 [bI B] σ (QD σ B T N D n):=by refine WpF.of (T123_eq _) rfl ?_;rw[T123];simp only[wpS];refine wp_over h rfl fun σ1 a0 h1=>?_;simp only[wpS];exact⟨_,rfl,rfl,a0,{m with over:=2},h1⟩
end
section
variable{σ σ':aC}{Y:Nat->Prop}{N:List NV}{c:Nat}
theorem vn(b:Bool){Q:Value->aC->Prop}(hQ:∀σ',Frm σ σ' NoB->Q (.agg (vD (pO b) none 0 none 0).toArray) σ'):WpF aG ovD 121 [.bool b] σ Q:=by
 refine WpF.of (T121_eq _) rfl ?_;rw[T121];refine aJ fun σ1 a3 a5 a2=>?_;rw[aA];cases b with
 |true=>rw[if_pos rfl];refine aZ a2 rfl rfl fun σ2 a1 a4 a0=>?_;rw[aL a0 8 rfl];simp only[wpS];exact⟨_,rfl,hQ σ2 (a3.fresh a1 fun j hj h=>by omega)⟩
 |false=>rw[if_neg (by simp)];refine aZ a2 rfl rfl fun σ2 a1 a4 a0=>?_;rw[aL a0 8 rfl];simp only[wpS];exact⟨_,rfl,hQ σ2 (a3.fresh a1 fun j hj h=>by omega)⟩
structure tG(v:Vl):Prop where
 a:v.args=[]
 e:v.env=.nil
 k:v.k<=4
theorem tG.ok{v:Vl}(h:tG v):vOK N c v:=by obtain⟨k,n,nm,l,d,e,a⟩:=v;obtain⟨h1,h2,h3⟩:=h;simp only[Vl.args,Vl.env,Vl.k]at h1 h2 h3;subst h1 h2;exact pP.2 ⟨fun h=>by omega,fun h=>by omega,eM,nV⟩
theorem tG.p{v:Vl}(h:tG v):VlP 8 σ Y v none none:=VlP.plain h.a h.e
theorem wp_opD(t:List UInt8)(a b:Int){Q:Value->aC->Prop}(hQ:∀σ' v ok,Frm σ σ' NoB->tG v->Q (.tuple #[.agg (vD v none 0 none 0).toArray,.bool ok]) σ'):WpF aG ovD 140 [.string (mkB t),.int .i64 a,.int .i64 b] σ Q:=by
 refine WpF.of (T140_eq _ _ _) rfl ?_;rw[T140];refine aJ fun σ1 a3 a5 a1=>?_;generalize hA:σ.n=A at a1 a5;have fin:∀(τ:aC) (v:Vl),Frm σ1 τ NoB->tG v->v.args=[]->Wp aG ovD (.act (stC ⟨A,0,some 0⟩ (vD v none 0 none 0)) fun v31=>bM v31 fun l32=>aH l32 (.ret .ret [.bool true])) τ fun e vs σ'=>Wp aG ovD (T140k0 ⟨A,0,some 0⟩ e vs) σ' fun _ vs σ'=>∃v,vs=[v]/\Q v σ':=by intro τ v hτ hv ha;refine aZ (hτ.stN a1) rfl rfl fun σ3 a2 a4 a0=>?_;simp only[wpS,T140k0];rw[aL a0 8 rfl];simp only[wpS];exact⟨_,rfl,hQ σ3 v _ ((a3.seq hτ).fresh a2 fun j hj h=>by omega) hv⟩
 have num:∀x:Int,Wp aG ovD (.call 18 [.int .i64 x] fun v=>asInt .i64 v fun i=>.act (stC ⟨A,0,some 0⟩ [.int .i64 1,.int .i64 i,.string (bs []),.slice none 0 0,.int .i64 0,.pointer none,.int .i64 0,.int .i64 0]) fun v31=>bM v31 fun l32=>aH l32 (.ret .ret [.bool true])) σ1 fun e vs σ'=>Wp aG ovD (T140k0 ⟨A,0,some 0⟩ e vs) σ' fun _ vs σ'=>∃v,vs=[v]/\Q v σ':=by intro x;rw[aE,WpF.eq (vj x)];simp only[wpS];exact fin σ1 (xV x) (Frm.refl _ _) ⟨rfl,rfl,by show(1:Int)<=4;decide⟩ rfl
 have tru:∀d:Bool,Wp aG ovD (.call 121 [.bool d] fun v19=>asAgg v19 fun l20=>aU l20 fun v21 l22=>asInt .i64 v21 fun i23=>aU l22 fun v24 l25=>asInt .i64 v24 fun i26=>aU l25 fun v27 l28=>kF v27 fun s29=>aU l28 fun v30 l31=>aI v30 fun p32 n33 n34=>aU l31 fun v35 l36=>asInt .i64 v35 fun i37=>aU l36 fun v38 l39=>aR v38 fun p40=>aU l39 fun v41 l42=>asInt .i64 v41 fun i43=>aU l42 fun v44 l45=>asInt .i64 v44 fun i46=>aH l45 (.act (stC ⟨A,0,some 0⟩ [.int .i64 i23,.int .i64 i26,.string s29,.slice p32 n33 n34,.int .i64 i37,.pointer p40,.int .i64 i43,.int .i64 i46]) fun v31=>bM v31 fun l32=>aH l32 (.ret .ret [.bool true]))) σ1 fun e vs σ'=>Wp aG ovD (T140k0 ⟨A,0,some 0⟩ e vs) σ' fun _ vs σ'=>∃v,vs=[v]/\Q v σ':=by intro d;rw[aE];refine vn d fun τ hτ=>?_;have:=fin τ (pO d) hτ ⟨rfl,rfl,by show(2:Int)<=4;decide⟩ rfl;unfold vD at this ⊢;simp only[wpS];exact this
 rw[aF,bR,aA];split
 ·exact num _
 rw[bR,aA];split
 ·exact num _
 rw[bR,aA];split
 ·exact num _
 rw[bR,aA];split
 ·exact tru _
 rw[bR,aA];split
 ·exact tru _
 simp only[wpS,T140k0];refine aZ a1 rfl rfl fun σ3 a2 a4 a0=>?_;rw[aL a0 8 rfl];simp only[wpS];exact⟨_,rfl,hQ σ3 cK _ (a3.fresh a2 fun j hj h=>by omega) ⟨rfl,rfl,by decide⟩⟩
theorem wp_findD{e:En}{p:Option Addr}(h:EnR 8 σ Y e p)(oe:eOK N c e)(t:List UInt8){Q:Value->aC->Prop}
  (hQ:∀v q c' p' k ok σ',Frm σ σ' NoB->VlP 8 σ' Y v q p'->vOK N c v->Q (.tuple #[.agg (vD v q c' p' k).toArray,.bool ok]) σ'):WpF aG ovD 122 [.pointer p,.string (mkB t)] σ Q:=by
 refine WpF.of (T122_eq _ _) rfl ?_;rw[T122];refine aJ fun σ1 a3 a6 a1=>?_;generalize hA:σ.n=A at a1 a6;refine Wp.loop (fun m st σ'=>σ'=σ1/\∃e' p',st=[.pointer p',.bool false]/\EnR 8 σ Y e' p'/\eOK N c e'/\m=e'.len) e.len ⟨rfl,e,p,rfl,h,oe,rfl⟩ ?_;rintro m st σ2 ⟨rfl,e',p',rfl,hE,a4,rfl⟩;unfold T122b0;simp only[wpS];cases e' with
 |nil=>rw[kT]at hE;subst hE;rw[aA,if_neg (by simp)];simp only[wpS,T122k1];refine aZ a1 rfl rfl fun σ3 a2 a5 a0=>?_;rw[aL a0 8 rfl];simp only[wpS];exact⟨_,rfl,hQ cK none 0 none 0 _ σ3 (a3.fresh a2 fun j hj h=>by omega) (VlP.plain rfl rfl) xZ⟩
 |cons nm v u=>
  obtain⟨x,cs,pu,rfl,h1,h2,h3,h4⟩:=zT.1 hE;obtain⟨ov1,ou⟩:=eD.1 a4;have hl:=h3.len;have hz:Cz σ2 Y x 10 (.string (mkB nm)::(cs++[.pointer pu])):=Cz.frm ⟨h1,h2,by simp[hl]⟩ a3;rw[aA,if_pos (by simp),aF];simp only[wpS];rw[dI hz (i:=0) rfl];simp only[wpS,eP];rw[aA];split
  ·rw[aV,hz.ldN (i:=1) (k:=8) (by decide)];have ecs:((Value.string (mkB nm)::(cs++[.pointer pu])).drop 1).take 8=cs:=by rw[List.drop_succ_cons,List.drop_zero,List.take_append_of_le_length (by omega),List.take_of_length_le (by omega)]
   rw[ecs];obtain⟨q,c2,p2,k,rfl,hP⟩:=rK.1 h3;unfold vD;simp only[wpS];refine aZ a1 rfl rfl fun σ3 a2 a5 a0=>?_;simp only[wpS,T122k0,T122k1];rw[aL a0 8 rfl];simp only[wpS];have hF:=a3.fresh a2 fun j hj h=>by omega
   exact⟨_,rfl,hQ v q c2 p2 k _ σ3 hF (hP.frmN hF) ov1⟩
  ·simp only[wpS,T122k0];rw[dI hz (i:=9) (v:=.pointer pu) (by show(cs++[Value.pointer pu])[8]?=_;rw[List.getElem?_append_right (by omega),hl];rfl)];simp only[wpS];exact⟨u.len,Nat.lt_succ_self _,trivial,u,pu,rfl,h4,ou,rfl⟩
end
section
variable{σ σ':aC}{B:Nat}{T:TrA}{N:List NV}{D:List Dc}{n b:Nat}{m:DS}
theorem vB{x:NV}{j:Nat}(h:j<x.kids.length):fQ x j=x.kids[j]:=by unfold fQ;simp[List.getD,h]
def MtQ(σ:aC)(B:Nat)(N:List NV)(c:Nat)(w:Value)(σ':aC):Prop:=∃p b e,w=.tuple #[.pointer p,.bool b]/\EnR 8 σ' (· =B) e p/\eOK N c e/\Frm σ σ' NoB
theorem wp_meetsD(g:bZ N D):∀(f i:Nat) (σ:aC) (v:Vl) (e:En) (q p pe:Option Addr) (c:Nat) (k:Int),Dm σ B T N D n b m->i<N.length->N.length<=f+i->VlP 8 σ (· =B) v q p->vOK N m.cells.length v->EnR 8 σ (· =B) e pe->eOK N m.cells.length e->
  WpF aG ovD 138 [bI B,.int .i64 ((i:Nat):Int),.agg (vD v q c p k).toArray,.pointer pe] σ (MtQ σ B N m.cells.length):=by
 intro f;induction f with
 |zero=>intro i σ v e q p pe c k _ hi hf;omega
 |succ f ih=>
  intro i σ v e q p pe c k h hi hf hv ov he oe;refine WpF.of (T138_eq _ _ _ _ _ _ _ _ _ _ _ _ _) rfl ?_;rw[T138];refine aJ fun σ1 b8 c1 a9=>?_;generalize hA:σ.n=A at a9 c1;have a9:St σ1 A (vD v q c p k):=a9;have h1:=h.frm b8;simp only[wpS];rw[bS,aB h1.st (i:=0) rfl];simp only[wpS];refine cX h1.r.tree.tree.nodes hi rfl fun cs a5=>?_;have a7:=fun j hj=>g.kid (i:=i) (j:=j) hi hj;have c3:=h.r.tree.kl _ (List.getElem_mem hi);generalize N[i]=x at a5 a7 c3;obtain⟨xq,xk,rfl,b0,_⟩:=a5;simp only[wpS];refine aJ fun σ2 b7 c0 b2=>?_;refine aZ b2 rfl rfl fun σ3 b3 d0 a2=>?_;generalize hC:σ1.n=C at b2 a2 b3 c0;have a3:Frm σ1 σ3 NoB:=b7.fresh b3 fun j hj h=>by omega
  have a2:St σ3 C (nvC x xq xk):=a2;have a0:=a3.stN a9;have a4:=b8.seq a3;have h3:=h1.frm a3;have a6:=b0.later a3;have b4:=hv.frmN a4;have b1:=he.frmN a4;clear b2 b7 b3;rw[aB a2 (i:=0) rfl];simp only[wpS];have out:∀(τ:aC) (d:Bool) (p':Option Addr) (e':En),Frm σ3 τ NoB->EnR 8 τ (· =B) e' p'->eOK N m.cells.length e'->MtQ σ B N m.cells.length (.tuple #[.pointer p',.bool d]) τ:=fun τ d p' e' hτ h1 h2=>⟨p',d,e',rfl,h1,h2,a4.seq hτ⟩;have same:∀d:Bool,MtQ σ B N m.cells.length (.tuple #[.pointer pe,.bool d]) σ3:=fun d=>out σ3 d pe e (Frm.refl _ _) b1 oe;rw[aA];split
  ·simp only[wpS,T138k5];exact⟨_,rfl,same _⟩
  rw[aA];split
  ·rw[aB a2 (i:=2) rfl];simp only[wpS];rw[aL a0 8 rfl];unfold vD;simp only[wpS];refine aJ fun σ4 a1 c9 c6=>?_;simp only[wpS,T138k5];refine⟨_,rfl,out σ4 _ _ (.cons x.x.nm v e) a1 (iF (cs:=vD v q c p k) (pu:=pe) c6 (fun hX=>?_) (rK.2 ⟨q,c,p,k,rfl,b4.frmN a1⟩) (b1.frmN a1)) (eD.2 ⟨ov,oe⟩)⟩;have:=h3.lt;omega
  rw[aA];split
  ·rw[aF,aB a0 (i:=0) rfl];simp only[wpS];rw[aA];split
   ·rw[aB a0 (i:=1) rfl];simp only[wpS];rw[aB a2 (i:=1) rfl];simp only[wpS,T138k0,T138k5];exact⟨_,rfl,same _⟩
   ·simp only[wpS,T138k0,T138k5];exact⟨_,rfl,same _⟩
  rw[aA];split
  ·rw[aF,aB a0 (i:=0) rfl];simp only[wpS];rw[aA];split
   ·rw[aB a0 (i:=1) rfl];simp only[wpS];rw[aB a2 (i:=1) rfl];simp only[wpS,T138k1,T138k5];exact⟨_,rfl,same _⟩
   ·simp only[wpS,T138k1,T138k5];exact⟨_,rfl,same _⟩
  rw[aA];split
  ·rw[aB a0 (i:=0) rfl];simp only[wpS,T138k5];exact⟨_,rfl,same _⟩
  simp only[wpS,T138k5];rw[aB a0 (i:=0) rfl];simp only[wpS];have no:Wp aG ovD (T138k4 pe ⟨C,0,some 0⟩ ⟨A,0,some 0⟩ (some ⟨B,0,some 0⟩) .normal [.bool true]) σ3 fun _ vs σ'=>∃w,vs=[w]/\MtQ σ B N m.cells.length w σ':=by
   simp only[wpS,T138k4];rw[aA,if_pos rfl];simp only[wpS];exact⟨_,rfl,same _⟩
  rw[aA];split
  case isFalse=>simp only[wpS];exact no
  rw[aB a0 (i:=2) rfl];simp only[wpS];rw[aB a2 (i:=2) rfl];simp only[wpS];rw[aA];split
  case isFalse=>simp only[wpS];exact no
  rw[aB a0 (i:=3) rfl];simp only[wpS];rw[aB a2 (i:=4) rfl];simp only[wpS];by_cases d3:v.args.length=x.kids.length
  case neg=>rw[show(((v.args.length:Nat):Int) !=((x.kids.length:Nat):Int))=true from bne_iff_ne.2 fun h=>d3 (by omega)];exact no
  rw[show(((v.args.length:Nat):Int) !=((x.kids.length:Nat):Int))=false by simp[d3]];simp only[wpS,T138k4];rw[aA,if_neg (by simp)];refine Wp.count x.kids.length (fun j st σ'=>∃d p2 e',st=[.int .i64 ((j:Nat):Int),.bool d,.pointer p2]/\Frm σ3 σ' NoB/\EnR 8 σ' (· =B) e' p2/\eOK N m.cells.length e')
   ⟨_,_,e,rfl,Frm.refl _ _,b1,oe⟩ ?_ ?_
  ·rintro j st σ4 hj ⟨d,p2,e',rfl,a1,a8,oe4⟩;have ej:aP ((j:Int)+1)=((j+1:Nat):Int):=by rw[aS (by omega)];omega
   have b5:j<v.args.length:=by omega
   obtain⟨k1,k2⟩:=a7 j hj;have b9:=b4.frmN a1;unfold T138b0;simp only[wpS];rw[aB (a1.stN a2) (i:=4) rfl];simp only[wpS];rw[aA];split
   case isFalse=>simp only[wpS,T138k3];exact⟨_,rfl,out σ4 _ _ _ a1 a8 oe4⟩
   rw[aF,aB (a1.stN a2) (i:=4) rfl];simp only[wpS];refine cN (a6.later a1) hj rfl fun cs a5=>⟨_,a5,?_⟩;simp only[wpS];rw[aB (a1.stN a0) (i:=3) rfl];simp only[wpS];refine cX b9.row b5 rfl fun cs a5=>?_;obtain⟨q5,c5,p5,k5,rfl,c7⟩:=rK.1 a5;have key:=ih x.kids[j] σ4 v.args[j] e' q5 p5 p2 c5 k5 (h3.frm a1) k2 (by omega) c7 (fP.1 (vOK_args ov) _ (List.getElem_mem b5)) a8 oe4;unfold vD at key ⊢;simp only[wpS];rw[aE];refine WpF.mono key ?_;rintro _ σ5 ⟨p6,b6,e6,rfl,c4,oe6,c8⟩;simp only[wpS,T138k2,ej];exact⟨_,_,e6,rfl,a1.seq c8,c4,oe6⟩
  ·rintro st σ4 ⟨d,p2,e',rfl,a1,a8,oe4⟩;unfold T138b0;simp only[wpS];rw[aB (a1.stN a2) (i:=4) rfl];simp only[wpS];rw[aA,if_neg (by simp)];simp only[wpS,T138k3];exact⟨_,rfl,out σ4 _ _ _ a1 a8 oe4⟩
theorem wp_matchD(g:bZ N D)(h:Dm σ B T N D n m.nc.length m){i:Nat}(hi:i<N.length)(hk:N[i].x.k=11){q:Option Addr}{c:Nat}(a2:aN σ (· =B) 1 gE q N[i].kids){e:En}{pe:Option Addr}(he:EnR 8 σ (· =B) e pe)(oe:eOK N m.cells.length e):
  WpF aG ovD 126 [bI B,.agg (nvC N[i] q c).toArray,.pointer pe] σ (QD σ B T N D n):=by
 have b3:=h.r.tree.kl _ (List.getElem_mem hi);have a6:=(g.matchOdd hi hk).1;have a3:=fun j hj=>g.kid (i:=i) (j:=j) hi hj;have b1:=fun j (hj:j<N[i].kids.length) (h2:j%2=0)=>g.kidE (i:=i) (j:=j) hi (by omega) hj fun _=>h2;generalize N[i]=x at a2 b3 a6 a3 b1 ⊢;refine WpF.of (T126_eq _ _ _ _ _ _ _ _ _ _ _) rfl ?_;rw[T126];refine aJ fun σ1 b6 b2 a5=>?_;generalize hA:σ.n=A at a5 b2;have a5:St σ1 A (nvC x q c):=a5;refine Wp.loop (fun r st σ'=>∃j:Nat,st=[.int .i64 ((j:Nat):Int)]/\Frm σ1 σ' NoB/\j+r=x.kids.length+2/\j%2=1) (x.kids.length+1) ⟨1,rfl,Frm.refl _ _,by omega,rfl⟩ ?_;rintro r st σ3 ⟨j,rfl,b0,b8,b7⟩;have a0:=b6.seq b0;have h3:=h.frm a0;have a1:=a2.later a0;have a9:=b0.stN a5;unfold T126b0;simp only[wpS];rw[aB a9 (i:=4) rfl];simp only[wpS];rw[aA];by_cases hj:j<x.kids.length
 case neg=>rw[if_neg (by simp;omega)];simp only[wpS,T126k1];refine fN (jN h3) a0.no fun σ4 hq=>?_;simp only[wpS];exact⟨_,rfl,hq⟩
 have a7:j+1<x.kids.length:=by omega
 have e1:aP (((j:Nat):Int)+1)=((j+1:Nat):Int):=by rw[aS (by omega)];omega
 have e2:aP (((j:Nat):Int)+2)=((j+2:Nat):Int):=by rw[aS (by omega)];omega
 rw[if_pos (by simp;omega),aF,aB a9 (i:=4) rfl];simp only[wpS];refine cN a1 hj rfl fun cs a8=>⟨_,a8,?_⟩;simp only[wpS];rw[aV,ldVs h3.st];have key:=wp_meetsD g (N.length+1) x.kids[j] σ3 m.v e m.vq m.vp pe m.vc m.vk h3 (a3 j hj).2 (by omega) h3.r.v h3.r.pv (he.frmN a0) oe;unfold vD at key ⊢;simp only[wpS];rw[aE];refine WpF.mono key ?_;rintro _ σ4 ⟨p4,b4,e4,rfl,b5,oe4,a4⟩;simp only[wpS];rw[aA];split
 ·rw[aB (a4.stN a9) (i:=4) rfl];simp only[wpS];rw[e1];refine cN (a1.later a4) a7 rfl fun cs a8=>⟨_,a8,?_⟩;simp only[wpS];have ok:=b1 (j+1) a7 (by omega);rw[vB a7]at ok;refine fN (qQ (h3.frm a4) b5 ok oe4) (a0.seq a4).no fun σ5 hq=>?_;simp only[wpS,T126k0,T126k1];exact⟨_,rfl,hq⟩
 ·simp only[wpS,T126k0,e2];exact⟨r-2,by omega,j+2,rfl,b0.seq a4,by omega,by omega⟩
theorem wp_kidD(g:bZ N D)(h:Dm σ B T N D n m.nc.length m)(hn:n<=900000)(b4:eS σ){w:DW}{q p:Option Addr}{c:Nat}(hw:aN σ (· =B) 8 (vlR 8 σ (· =B)) q w.vals)(hq:Emp σ (· =B) q)(he:EnR 8 σ (· =B) w.env p)(ok:okDW N m.cells.length w)(hc:w.call=false)(ht:w.try_=true->w.calls=((m.nc.length:Nat):Int))(c7:∀i:Nat,w.at_=(i:Int)->∀hi:i<N.length,N[i].x.k=11->w.vals.length%2=0):
  WpF aG ovD 125 [bI B,.agg (dwC w q c p).toArray] σ (QD σ B T N D (n+1)):=by
 obtain⟨i,b3,hi,hp,a9,c8⟩:=ok.2.2 hc;refine WpF.of (T125_eq _ _ _ _ _ _ _ _ _) rfl ?_;rw[T125];refine aJ fun σ1 a0 b8 a5=>?_;generalize hA:σ.n=A at a5 b8;have a5:St σ1 A (dwC w q c p):=a5;refine tQ (by decide) (a0.fr b4) fun σ2 a3 d0 c3=>?_;have a8:=a0.seq a3;have h2:=h.frm a8;have b5:=a3.stN a5;have d1:=h.lt;have d2:=(h.frm a0).lt;simp only[wpS];rw[aB h2.st (i:=29) rfl];simp only[wpS];rw[aL b5 6 rfl];simp only[wpS];have b6:dwR σ1 (· =B) (dwC w q c p) w:=⟨q,c,p,rfl,dJ (S:=NoB) a0 (fun _ _ h=>h.elim) (fun _ _ h=>h) hw,hq.step (S:=NoB) a0 (fun _ _ h=>h.elim) (fun _ _ h=>h),he.frmN a0⟩;have c6:¬A=σ1.n:=by omega
 refine uS (Y:=(· =B)) jF wide_w (by decide) (by decide) (fun j hj=>by subst hj;exact h2.lt) c3 (by omega) ((h.frm a0).r.k.wider jF a3 (Nat.le_refl _)) ((h.frm a0).r.ke.wider a3 (Nat.le_refl _)) (by have:=h.r.nk;simp;omega) (by decide) (a8.fr b4) (by omega) (jF.wider b6 a3 (Nat.le_refl _)) (fun τ hτ=>cQ ((hτ.st b5 c6).ldAll 6 rfl) rfl) (by simp) fun σ3 rb p' c' css c4 a6=>?_;have a7:Frm σ1 σ3 NoB:=a3.fresh c4 fun j hj h=>by omega
 have a2:=a0.seq a7;have h3:=h.frm a2;have c0:=a6.row.len (by rw[cZ a6.cl,a6.len]) (by decide);have b7:=a6.close jF (by decide);have b9:=a6.emp;refine aT (i:=29) h3.st (by simp[dmC]) rfl fun σ4 b0 c9 c1=>?_;have h4:Dm σ4 B T N D (n+1) m.nc.length {m with k:=w::m.k,pw:=some p',cw:=c'}:=by have hr:=h3.r;refine⟨c1,DR.step (S:=(· =B)) ?_ b0 fun _ _ h=>h⟩;exact {hr with k:=by simpa using b7,ke:=b9,kc:=by simpa using c0,pk:=⟨ok,fun h=>absurd h (by rw[hc];simp),fun _=>⟨ht,hr.pk⟩⟩,no:=Nat.le_succ_of_le hr.no,nv:=Nat.le_succ_of_le hr.nv,nk:=Nat.succ_le_succ hr.nk,nl:=Nat.le_succ_of_le hr.nl}
 have c5:¬A=B:=by omega
 have a1:=b0.st (a7.stN a5) c5;have b2:Frm σ σ4 (· =B):=a2.no.seq b0;rw[bS,aB h4.st (i:=0) rfl];simp only[wpS];rw[aB a1 (i:=0) rfl];rw[b3];simp only[wpS];refine cR h4.r.tree.tree.nodes hi rfl (o:=4) (by decide) fun cs a4=>?_;have okk:=g.kidE hi hp a9 (c7 i b3 hi);rw[vB a9]at okk;generalize N[i]=x at a4 a9 okk;obtain⟨xq,xk,rfl,b1,_⟩:=a4;refine⟨_,rfl,?_⟩;simp only[wpS];rw[aB a1 (i:=1) rfl];simp only[wpS];refine jH b1 (i:=w.vals.length) (o:=0) rfl a9 rfl (by decide) rfl fun cs a4=>?_;unfold gE at a4;subst a4;refine⟨_,rfl,?_⟩;simp only[wpS];rw[aB a1 (i:=2) rfl];simp only[wpS];refine fN (qQ (m:={m with k:=w::m.k,pw:=some p',cw:=c'}) h4 (EnR_step b0 (fun _ _ h=>h) (fun _ _ h=>h) _ _ (he.frmN a2)) okk ok.1) b2 fun σ5 hq=>?_;simp only[wpS];exact⟨_,rfl,hq⟩
end
section
variable{σ σ':aC}{B:Nat}{T:TrA}{N:List NV}{D:List Dc}{n b:Nat}{m:DS}
theorem wp_pop(h:Dm σ B T N D n b m){w:DW}{r:List DW}(hk:m.k=w::r)(hn:n<=1000000){K:Addr->Pg}{Q:bW}
  (k:∀σ' A q c p,Frm σ σ' (· =B)->σ.n<=A->St σ' A (dwC w q c p)->aN σ (· =B) 8 (vlR 8 σ (· =B)) q w.vals->Emp σ (· =B) q->EnR 8 σ (· =B) w.env p->St σ' B (dmC T N D {m with k:=r,cw:=r.length})->DR σ (· =B) T N D n (if w.call=true then b-1 else b) {m with k:=r,cw:=r.length}->Wp aG ovD (K ⟨A,0,some 0⟩) σ' Q):
  Wp aG ovD (.act (ld1 (aadd ⟨B,0,some 0⟩ 29)) fun v2=>aI v2 fun p3 n4 _=>.act (ld1 (aadd ⟨B,0,some 0⟩ 29)) fun v7=>aI v7 fun _ n9 _=>aD p3 fun a11=>grd (decide (0<=aP (((n9:Nat):Int)-1))&&decide (aP (((n9:Nat):Int)-1)<((n4:Nat):Int))) (.act (ldN 6 (aadd a11 (Int.toNat (aP (((n9:Nat):Int)-1))*6))) fun v12=>asAgg v12 fun l13=>aU l13 fun v14 l15=>asInt .i64 v14 fun i16=>aU l15 fun v17 l18=>aI v17 fun p19 n20 n21=>aU l18 fun v22 l23=>aR v22 fun p24=>aU l23 fun v25 l26=>asInt .i64 v25 fun i27=>aU l26 fun v28 l29=>eF v28 fun b30=>aU l29 fun v31 l32=>eF v31 fun b33=>aH l32 (.act (newC [.int .i64 0,.slice none 0 0,.pointer none,.int .i64 0,.bool false,.bool false]) fun v34=>aR v34 fun p35=>aD p35 fun a36=>.get fun h=>grd (chks [((ldN 6 (aadd a11 (Int.toNat (aP (((n9:Nat):Int)-1))*6))),v12),((ld1 (aadd ⟨B,0,some 0⟩ 29)),v7),((ld1 (aadd ⟨B,0,some 0⟩ 29)),v2)] h) (.act (stC a36 [.int .i64 i16,.slice p19 n20 n21,.pointer p24,.int .i64 i27,.bool b30,.bool b33]) fun v37=>bM v37 fun l38=>aH l38 (.act (ld1 (aadd ⟨B,0,some 0⟩ 29)) fun v40=>aI v40 fun p41 _ n43=>.act (ld1 (aadd ⟨B,0,some 0⟩ 29)) fun v45=>aI v45 fun _ n47 _=>.act (ld1 (aadd ⟨B,0,some 0⟩ 29)) fun v50=>aI v50 fun _ n52 _=>grd (((decide (0<=aP (((n47:Nat):Int)-1))&&decide (aP (((n47:Nat):Int)-1)<=aP (((n52:Nat):Int)-1)))&&decide (aP (((n52:Nat):Int)-1)<=((n43:Nat):Int)))&&(sI p41 6||true)) (.act (stC (aadd ⟨B,0,some 0⟩ 29) [.slice p41 (Int.toNat (aP (((n47:Nat):Int)-1))) (Int.toNat (aP (((n52:Nat):Int)-1)))]) fun v55=>bM v55 fun l56=>aH l56 (K a36))))))) σ Q:=by
 have hl:m.k.length=r.length+1:=by rw[hk];try rfl
 have b7:=h.r.nk;have e1:aP (((m.k.length:Nat):Int)-1)=((r.length:Nat):Int):=by rw[aS (by omega)];omega
 have hB:=h.lt;rw[aB h.st (i:=29) rfl];simp only[wpS];rw[aB h.st (i:=29) rfl];simp only[wpS];rw[e1,Int.toNat_natCast];obtain⟨x,cs,hx,a8,a6⟩:=keepN h.r.k (i:=r.length) (by simp;omega);have hw:m.k.reverse[r.length]'(by simp;omega)=w:=by simp[hk]
 rw[hw]at a8;obtain⟨q,c,p,rfl,a2,b2,b1⟩:=a8;have e3:ld1 (aadd ⟨B,0,some 0⟩ 29) σ=some (.slice m.pw m.k.length m.cw,σ):=h.st.ldF (i:=29) rfl;rw[hx];simp only[wpS];rw[aO];refine⟨by simp;omega,?_⟩;rw[aV,a6 σ (Frm.refl _ _)];unfold dwC;simp only[wpS];refine aJ fun σ1 a1 c0 b5=>?_;rw[bC,aO];have a7:Kp σ (aadd ⟨B,0,some 0⟩ 29) (.slice (some x) m.k.length m.cw):=Kp.st h.st (i:=29) (by rw[<-hx];rfl);refine⟨cQ (a6 σ1 a1) (bF (a7.frm a1) (bF (a7.frm a1) rfl)),?_⟩;refine aZ b5 rfl rfl fun σ2 b6 b9 b4=>?_;have a0:Frm σ σ2 NoB:=a1.fresh b6 fun j hj h=>by omega
 have h2:=h.frm a0;rw[aB h2.st (i:=29) rfl];simp only[wpS];rw[aB h2.st (i:=29) rfl];simp only[wpS];rw[aB h2.st (i:=29) rfl];simp only[wpS];rw[e1,Int.toNat_natCast,aO];refine⟨by have:=h.r.kc;simp;omega,?_⟩;refine aT (i:=29) h2.st (by simp[dmC]) rfl fun σ3 a9 b8 b3=>?_;refine k σ3 σ.n q c p (a0.no.seq a9) (Nat.le_refl _) (a9.st b4 (by omega)) a2 b2 b1 b3 ?_;have hr:=h.r;have a4:=hr.pk;rw[hk]at a4;have a5:=hr.k;rw[hk,List.reverse_cons]at a5;have hb:=hr.pb;have a3:okK N m.cells.length (if w.call=true then b-1 else b) r:=by
  split
  ·rename_i hc;exact(a4.2.1 hc).2.2
  ·rename_i hc;exact(a4.2.2 (by simpa using hc)).2
 have b0:(if w.call=true then b-1 else b)<=m.nc.length:=by split<;>omega
 exact {hr with k:=a5.init,kc:=Nat.le_refl _,pk:=a3,pb:=b0,nk:=by show r.length<=n;omega}
theorem DR.cut{Y:Nat->Prop}{nc:List Unit}(h:DR σ Y T N D n nc.length m):DR σ Y T N D n nc.length {m with nc:=nc,cl:=nc.length}:=by have hb:=h.pb;have el:m.nc=nc++List.replicate (m.nc.length-nc.length) ():=List.ext_getElem (by simp;omega) fun _ _ _=>rfl;have hl:=h.l;rw[el]at hl;exact {h with l:=hl.init,lc:=Nat.le_refl _,pb:=Nat.le_refl _,nl:=Nat.le_trans hb h.nl}
theorem wp_callD(g:bZ N D)(h:Dm σ B T N D n m.nc.length m)(hn:n<=900000)(g1:eS σ)(i:Int){F a:Vl}{fq fp aq ap:Option Addr}{fc ac:Nat}{fk ak:Int}(hF:VlP 8 σ (· =B) F fq fp)(ha:VlP 8 σ (· =B) a aq ap)(oF:vOK N m.cells.length F)(oa:vOK N m.cells.length a):
  WpF aG ovD 139 [bI B,.int .i64 i,.agg (vD F fq fc fp fk).toArray,.agg (vD a aq ac ap ak).toArray] σ (QD σ B T N D (n+1)):=by
 refine WpF.of (T139_eq _ _ _ _ _ _ _ _ _ _ _ _ _ _ _ _ _ _ _ _ _ _) rfl ?_;rw[T139];refine aJ fun σ1 i1 f6 e2=>?_;generalize hA:σ.n=A at e2 f6;refine aJ fun σ2 e6 f3 c4=>?_;have a0:=e6.stN e2;generalize hC:σ1.n=C at c4 f3;have a0:St σ2 A (vD F fq fc fp fk):=a0;have c4:St σ2 C (vD a aq ac ap ak):=c4;have a8:=i1.seq e6;have h2:=h.frm a8;have i6:=h.lt;rw[aB a0 (i:=0) rfl];simp only[wpS];rw[aA];by_cases c1:F.k=5
 case neg=>rw[if_pos (by simpa using c1)];refine fN (jN h2) a8.no fun σ3 hq=>?_;simp only[wpS];obtain⟨q1,q2,m',q3,q4⟩:=hq;exact⟨_,rfl,q1,q2,m',q3,{q4 with no:=Nat.le_succ_of_le q4.no,nv:=Nat.le_succ_of_le q4.nv,nk:=Nat.le_succ_of_le q4.nk,nl:=Nat.le_succ_of_le q4.nl}⟩
 rw[if_neg (by simp[c1])];obtain⟨j,hj,c3,g0⟩:=vOK_fun oF c1;rw[bS,aB h2.st (i:=0) rfl];simp only[wpS];rw[aB a0 (i:=4) rfl];simp only[wpS];have f9:Kp σ2 (aadd ⟨A,0,some 0⟩ 4) (.int .i64 ((j:Nat):Int)):=Kp.st a0 (i:=4) (by show some (Value.int .i64 F.node)=_;rw[hj]);rw[hj];refine kC h2.r.tree.tree.nodes c3 rfl fun x cs b5 f8=>?_;have hp:¬20<N[j].x.k:=by omega
 have c0:0<N[j].kids.length:=by
  rcases g0 with h6|h9
  ·have:=g.kidsOf c3 6 1 h6 rfl;omega
  ·have:=g.kidsOf c3 9 2 h9 rfl;omega
 have okk:=g.kidE c3 hp c0 fun h=>by omega
 rw[vB c0]at okk;generalize N[j]=nv at b5 c0 okk ⊢;obtain⟨xq,xk,rfl,c6,_⟩:=b5;simp only[wpS];refine aJ fun σ3 c5 f2 e1=>?_;generalize hE:σ2.n=E at e1 f2;rw[bC,aO];refine⟨cQ (f8 σ3 c5) (bF (f9.frm c5) (bF ((Kp.st h2.st (i:=0) rfl).frm c5) rfl)),?_⟩;refine aZ e1 rfl rfl fun σ4 i0 i3 b0=>?_;have a4:Frm σ2 σ4 NoB:=c5.fresh i0 fun j hj h=>by omega
 have a5:=a8.seq a4;have b0:St σ4 E (nvC nv xq xk):=b0;have d8:=a4.stN a0;have e7:=a4.stN c4;have h4:=h2.frm a4;have c8:=hF.frmN a5;have g4:=ha.frmN a5;have b2:=c6.later a4;rw[aB d8 (i:=5) rfl];simp only[wpS];rw[aB b0 (i:=0) rfl];simp only[wpS];have fin:∀(τ:aC) (e:En) (pe:Option Addr),Frm σ4 τ NoB->EnR 8 τ (· =B) e pe->eOK N m.cells.length e->
   Wp aG ovD (T139k0 (some ⟨B,0,some 0⟩) ⟨A,0,some 0⟩ i ⟨E,0,some 0⟩ ⟨C,0,some 0⟩ .normal [.pointer pe]) τ fun _ vs σ'=>∃v,vs=[v]/\QD σ B T N D (n+1) v σ':=by
  intro τ e pe hτ he oe;have h5:=h4.frm hτ;have b3:=(a5.seq hτ).fr g1;have hAτ:=hτ.stN d8;have i8:=h5.lt;have i9:=hAτ.1;have i5:=(hτ.stN e7).1;have i4:=(hτ.stN b0).1;unfold T139k0;simp only[wpS];refine tQ (by decide) b3 fun σ5 a3 f1 g7=>?_;have h6:=h5.frm a3;rw[aB h6.st (i:=30) rfl];simp only[wpS];rw[aB (a3.stN hAτ) (i:=4) rfl];simp only[wpS];refine uS (Y:=(· =B)) (x:=()) zP wide_l (by decide) (by decide) (fun j hj=>by subst hj;exact h6.lt) g7 (by omega) (h5.r.l.wider zP a3 (Nat.le_refl _)) (h5.r.le.wider a3 (Nat.le_refl _)) (by have:=h.r.nl;omega) (by decide) (a3.fr b3) (by omega) ⟨i,F.node,rfl⟩ (fun ρ hρ=>cQ ((hρ.st (a3.stN hAτ) (by omega)).ldF (i:=4) rfl) rfl) rfl fun σ6 rb p' c' css g9 b8=>?_;have hFτ6:Frm τ σ6 NoB:=a3.fresh g9 fun j hj h=>by omega
  have h7:=h5.frm hFτ6;have g3:=b8.row.len (by rw[cZ b8.cl,b8.len]) (by decide);have e0:=b8.close zP (by decide);have g2:=b8.emp;refine aT (i:=30) h7.st (by simp[dmC]) rfl fun σ7 e5 i2 g5=>?_;have h8:Dm σ7 B T N D (n+1) m.nc.length {m with nc:=()::m.nc,pl:=some p',cl:=c'}:=by have hr:=h7.r;refine⟨g5,DR.step (S:=(· =B)) ?_ e5 fun _ _ h=>h⟩;refine {hr with l:=?_,le:=g2,lc:=by simpa using g3,pb:=Nat.le_succ _,no:=Nat.le_succ_of_le hr.no,nv:=Nat.le_succ_of_le hr.nv,nk:=Nat.le_succ_of_le hr.nk,nl:=Nat.succ_le_succ hr.nl};have el:m.nc++[()]=()::m.nc:=List.ext_getElem (by simp) fun _ _ _=>rfl;rw[el]at e0;exact e0
  have hFτ7:Frm τ σ7 (· =B):=hFτ6.no.seq e5;rw[aV,cM];simp only[wpS];have b1:Frm σ7 (σ7.newBlk [] 6) NoB:=Frm.new _ _ _ _;have e3:Row (σ7.newBlk [] 6) σ7.n 0 6 0 6 []:=Row.new σ7 6 [] 0 (by decide) rfl (fun _ h=>by cases h);generalize σ7.newBlk [] 6=σ8 at b1 e3 ⊢;have h9:=h8.frm b1;rw[aB h9.st (i:=29) rfl];simp only[wpS];have i7:=h8.lt;refine wp_cpG (Y:=(· =B)) jF wide_w (by decide) e3 (by omega) (h8.r.k.wider jF b1 (Nat.le_refl _)) (h8.r.ke.wider b1 (Nat.le_refl _)) (by have:=h.r.nk;simp;omega) (by decide) (by simp) fun σ9 p9 c9 css9 e4 g8=>?_;have e9:m.k.length=m.k.reverse.length:=by simp
  simp only[e9];refine yE jF (fun j hj=>by subst hj;have:=e4.n;have:=b1.n;omega) g8 (by decide) (by decide) (ys:=dwC ⟨0,[],.nil,0,true,false⟩ none 0 none) (b:=⟨0,[],.nil,0,true,false⟩) rfl (by intro y hy;simp[dwC]at hy;rcases hy with rfl|rfl|rfl|rfl|rfl|rfl<;>rfl) ⟨none,0,none,rfl,aN.nil,Emp.none,kT.2 rfl⟩ (by have:=h.r.nk;simp;omega) (by decide) fun σ10 rb10 p10 c10 d6 d9 a2=>?_;have d5:Frm σ7 σ9 NoB:=b1.fresh e4 fun j hj h=>by omega
  have a6:Frm σ7 σ10 NoB:=d5.fresh d6 fun j hj h=>by omega
  have f0:=h8.frm a6;have b6:=a2.row.len (by rw[cZ a2.cl,a2.len]) (by decide);have c7:=a2.close jF (by decide);have b4:=a2.emp;simp only[List.length_reverse];refine aT (i:=29) f0.st (by simp[dmC]) rfl fun σ11 b9 f5 d3=>?_;have e8:Dm σ11 B T N D (n+1) (m.nc.length+1) {m with nc:=()::m.nc,pl:=some p',cl:=c',k:=⟨0,[],.nil,0,true,false⟩::m.k,pw:=some p10,cw:=c10}:=by have hr:=f0.r;refine⟨d3,DR.step (S:=(· =B)) ?_ b9 fun _ _ h=>h⟩;exact {hr with k:=by simpa using c7,ke:=b4,kc:=by simpa using b6,pk:=⟨⟨nV,eM,fun h=>by cases h⟩,fun _=>⟨rfl,by omega,hr.pk⟩,fun h=>by cases h⟩,pb:=Nat.le_refl _,nk:=Nat.succ_le_succ h.r.nk}
  have d4:Frm σ7 σ11 (· =B):=a6.no.seq b9;have hFτ11:Frm τ σ11 (· =B):=hFτ7.seq d4;have a9:=hFτ11.st (hτ.stN b0) (by omega);have d7:=hFτ11.st (hτ.stN e7) (by omega);have hI:∀j,j<τ.n->j=B->j=B:=fun _ _ h=>h;have a7:aN σ11 (· =B) 1 gE xq nv.kids:=aN.step hFτ11 hI hI (fun _ _ h=>h) (b2.later hτ);have d1:=EnR_step hFτ11 hI hI _ _ he;have d2:=(g4.frmN hτ).step hFτ11 hI hI;rw[aB a9 (i:=4) rfl];simp only[wpS];refine iT a7 (i:=0) (o:=0) rfl c0 rfl (by decide) rfl fun y cs b5=>?_;unfold gE at b5;subst b5;refine⟨_,rfl,fun f7=>?_⟩;simp only[wpS];rw[aB a9 (i:=3) rfl];simp only[wpS];rw[aL d7 8 rfl];unfold vD;simp only[wpS];refine aJ fun σ12 a1 f4 b7=>?_;rw[bC,aO];refine⟨bF (f7.frm a1) (bF ((Kp.st a9 (i:=4) rfl).frm a1) rfl),?_⟩;have d0:EnR 8 σ12 (· =B) (.cons nv.x.pm a e) (some ⟨σ11.n,0,some 0⟩):=iF (cs:=vD a aq ac ap ak) (pu:=pe) b7 (by have:=e8.lt;omega) (rK.2 ⟨_,_,_,_,rfl,d2.frmN a1⟩) (d1.frmN a1);refine fN (qQ (m:={m with nc:=()::m.nc,pl:=some p',cl:=c',k:=⟨0,[],.nil,0,true,false⟩::m.k,pw:=some p10,cw:=c10}) (e8.frm a1) d0 okk (eD.2 ⟨oa,oe⟩)) (((a5.seq hτ).no.seq hFτ11).seq a1.no) fun σ13 hq=>?_;simp only[wpS];exact⟨_,rfl,hq⟩
 rw[aA];split
 ·rw[aB b0 (i:=2) rfl];simp only[wpS];rw[aL d8 8 rfl];unfold vD;simp only[wpS];refine aJ fun σ5 a3 f1 g6=>?_;simp only[wpS];exact fin σ5 (.cons nv.x.nm F F.env) _ a3 (iF (cs:=vD F fq fc fp fk) (pu:=fp) g6 (by have:=h4.lt;omega) (rK.2 ⟨_,_,_,_,rfl,c8.frmN a3⟩) (c8.env.frmN a3)) (eD.2 ⟨oF,yA oF⟩)
 ·simp only[wpS];exact fin σ4 F.env fp (Frm.refl _ _) c8.env (yA oF)
theorem wp_raiseD(g:bZ N D)(h:Dm σ B T N D n m.nc.length m)(hn:n<=1000000){v:Vl}{vq vp:Option Addr}{vc:Nat}{vk:Int}(hv:VlP 8 σ (· =B) v vq vp)(ov:vOK N m.cells.length v):
  WpF aG ovD 141 [bI B,.agg (vD v vq vc vp vk).toArray] σ (QD σ B T N D n):=by
 refine WpF.of (T141_eq _ _ _ _ _ _ _ _ _ _ _) rfl ?_;rw[T141];refine aJ fun σ1 b5 d7 a7=>?_;generalize hA:σ.n=A at a7 d7;have a7:St σ1 A (vD v vq vc vp vk):=a7;have h1:=h.frm b5;have d3:=hv.frmN b5;have c4:¬A=B:=fun e=>by have:=h.lt;omega
 rw[aB a7 (i:=0) rfl];simp only[wpS];rw[aA];split
 ·refine fN (jN h1) b5.no fun σ3 hq=>?_;simp only[wpS];exact⟨_,rfl,hq⟩
 refine Wp.loop (fun r st σ'=>st=[]/\∃k' cw' b,Dm σ' B T N D n b {m with k:=k',cw:=cw'}/\Frm σ1 σ' (· =B)/\St σ' A (vD v vq vc vp vk)/\VlP 8 σ' (· =B) v vq vp/\r=k'.length) m.k.length ⟨rfl,m.k,m.cw,_,h1,Frm.refl _ _,a7,d3,rfl⟩ ?_;rintro r st σ2 ⟨rfl,k',cw',b,h2,d0,b2,d2,rfl⟩;unfold T141b0;simp only[wpS];rw[aB h2.st (i:=29) rfl];simp only[wpS];rw[aA];have a8:Frm σ σ2 (· =B):=b5.no.seq d0;cases k' with
 |nil=>rw[if_neg (by simp)];simp only[wpS,T141k1];rw[aB b2 (i:=1) rfl];simp only[wpS];refine aT (i:=6) h2.st (by simp[dmC]) rfl fun σ3 a1 f2 a4=>?_;rw[bC,aO];refine⟨cQ ((a1.st b2 c4).ldF (i:=1) rfl) rfl,?_⟩;refine aT (i:=15) a4 (by simp[dmC]) rfl fun σ4 a2 d6 c1=>?_;simp only[wpS];have hF:=a1.seq a2;refine⟨_,rfl,rfl,a8.seq hF,{m with k:=[],cw:=cw',over:=2,err:=v.n},c1,DR.step (S:=(· =B)) ?_ hF fun _ _ h=>h⟩;exact {h2.r with pk:=trivial,pb:=Nat.le_refl _}
 |cons w r=>
  rw[if_pos (by simp),aF];have c7:=h2.r.pb;have b0:=h2.r.pk;refine wp_pop (m:={m with k:=w::r,cw:=cw'}) h2 rfl hn fun σ3 C q c p a1 hC a4 _ _ e3 b7 d4=>?_;have h3:Dm σ3 B T N D n (if w.call=true then b-1 else b) {m with k:=r,cw:=r.length}:=⟨b7,d4.step a1 fun _ _ h=>h⟩;have b9:=EnR_step a1 (fun _ _ h=>h) (fun _ _ h=>h) _ _ e3;have c6:=d2.step a1 (fun _ _ h=>h) fun _ _ h=>h;have f4:=b2.1;have a9:=a1.st b2 c4;have f3:=h2.lt;rw[aB a4 (i:=5) rfl];simp only[wpS];rw[aA];split
  case isFalse=>simp only[wpS,T141k0];exact⟨r.length,Nat.lt_succ_self _,trivial,r,r.length,_,h3,d0.seq a1,a9,c6,rfl⟩
  rename_i ht;have c0:w.call=false:=by
   cases hc:w.call with
   |false=>rfl
   |true=>have:=(b0.2.1 hc).1;rw[ht]at this;cases this
  have e6:=(b0.2.2 c0).1 ht;rw[if_neg (by rw[c0];simp)]at h3;obtain⟨i,c5,hi,hp,d8,b6⟩:=b0.1.2.2 c0;have oe:=b0.1.1;obtain⟨nc,rfl⟩:∃nc:List Unit,nc.length=b:=⟨List.replicate b (),by simp⟩;have c7:nc.length<=m.nc.length:=c7;have c8:=h3.r.lc;have c8:m.nc.length<=m.cl:=c8;rw[aB h3.st (i:=30) rfl];simp only[wpS];rw[aB a4 (i:=3) rfl];simp only[wpS];rw[aB a4 (i:=3) rfl];simp only[wpS];rw[e6,Int.toNat_natCast,aO];refine⟨by simp;omega,?_⟩;refine aT (i:=30) h3.st (by simp[dmC]) rfl fun σ4 a2 d6 c1=>?_;have h4:Dm σ4 B T N D n nc.length {m with k:=r,cw:=r.length,nc:=nc,cl:=nc.length}:=⟨c1,h3.r.cut.step a2 fun _ _ h=>h⟩;have hI:∀j,j<σ3.n->j=B->j=B:=fun _ _ h=>h;have e9:=a2.st a9 c4;have c3:=a2.st a4 (by omega);have d1:=c6.step a2 hI hI;have e5:=EnR_step a2 hI hI _ _ b9;rw[bS,aB h4.st (i:=0) rfl];simp only[wpS];rw[aB c3 (i:=0) rfl];simp only[wpS];have d9:Kp σ4 (aadd ⟨C,0,some 0⟩ 0) (.int .i64 ((i:Nat):Int)):=Kp.st c3 (i:=0) (by show some (Value.int .i64 w.at_)=_;rw[c5]);rw[c5];refine kC h4.r.tree.tree.nodes hi rfl fun x cs a5 e1=>?_;have e2:=g.kidsOf hi 20 2 (b6 ht) rfl;have b1:1<N[i].kids.length:=by omega
  have okk:=g.kidE hi hp b1 fun h=>by have:=b6 ht;omega
  rw[vB b1]at okk;clear e2 d8 hp b6;generalize N[i]=nv at a5 b1 okk ⊢;obtain⟨xq,xk,rfl,b8,_⟩:=a5;simp only[wpS];refine aJ fun σ5 b4 d5 c9=>?_;generalize hE:σ4.n=E at c9 d5;rw[bC,aO];refine⟨cQ (e1 σ5 b4) (bF (d9.frm b4) (bF ((Kp.st h4.st (i:=0) rfl).frm b4) rfl)),?_⟩;refine aZ c9 rfl rfl fun σ6 e8 f1 a6=>?_;have a0:Frm σ4 σ6 NoB:=b4.fresh e8 fun j hj h=>by omega
  have a6:St σ6 E (nvC nv xq xk):=a6;have h6:=h4.frm a0;rw[aB a6 (i:=4) rfl];simp only[wpS];refine iT (b8.later a0) (i:=1) (o:=0) rfl b1 rfl (by decide) rfl fun y cs a5=>?_;unfold gE at a5;subst a5;refine⟨_,rfl,fun e0=>?_⟩;simp only[wpS];rw[aB a6 (i:=3) rfl];simp only[wpS];rw[aL (a0.stN e9) 8 rfl];unfold vD;simp only[wpS];rw[aB (a0.stN c3) (i:=2) rfl];simp only[wpS];refine aJ fun σ7 b3 f0 e7=>?_;rw[bC,aO];refine⟨bF (e0.frm b3) (bF ((Kp.st a6 (i:=4) rfl).frm b3) rfl),?_⟩;have a3:=a0.seq b3;have e4:EnR 8 σ7 (· =B) (.cons nv.x.pm v w.env) (some ⟨σ6.n,0,some 0⟩):=iF (cs:=vD v vq vc vp vk) (pu:=p) e7 (by have:=h6.lt;omega) (rK.2 ⟨_,_,_,_,rfl,d1.frmN a3⟩) (e5.frmN a3);refine fN (qQ (m:={m with k:=r,cw:=r.length,nc:=nc,cl:=nc.length}) (h6.frm b3) e4 okk (eD.2 ⟨ov,oe⟩)) (((a8.seq a1).seq a2).seq a3.no) fun σ8 hq=>?_;simp only[wpS,T141k0,T141k1];exact⟨_,rfl,hq⟩
end
section
variable{β:Type}{R:aC->(Nat->Prop)->List Value->β->Prop}{σ σ':aC}{Y:Nat->Prop}{P:Program}{ov:Ov}
theorem wp_gsetD(hM:mI R){k rb c i:Nat}{l:List β}{css:List (List Value)}{p:Addr}(hR:Wide R k)(h:GR R k σ Y rb l css (some p) c)(hi:i<l.length){ys:List Value}{x:β}(hx:R σ (fun j=>Y j\/some p≠none/\j=rb) ys x){K:Pg}{Q:bW}
  (kk:∀σ' css',Frm σ σ' (· =rb)->GR R k σ' Y rb (l.set i x) css' (some p) c->Wp P ov K σ' Q):Wp P ov (.act (stC (aadd p (i*k)) ys) fun v=>bM v fun l=>aH l K) σ Q:=by
 obtain⟨hy,a2⟩:=hR _ _ _ _ hx;have a1:i<css.length:=by rw[h.len];exact hi
 have a4:=cZ h.cl;have a3:=vZ ys hy css i a1 h.cl;rcases h.row with⟨h0,_⟩|⟨off,s,hp,hr⟩
 ·cases h0
 cases hp;have a5:=hr.len;have h2:i*k+k<=css.length*k:=by have:(i+1)*k<=css.length*k:=Nat.mul_le_mul_right k a1;rwa[Nat.add_mul,Nat.one_mul]at this
 obtain⟨σ1,w1,w2,w3,w4,w5⟩:=hr.wrN (i:=i*k) (vs:=ys) (by omega) (by omega) a2;rw[hy,a3]at w5;have e:Go.Pg.stC (aadd ⟨rb,off,some s⟩ (i*k)) ys σ=some (.tuple #[],σ1):=by unfold Go.Pg.stC;rw[show aadd ⟨rb,off,some s⟩ (i*k)=⟨rb,off+i*k,some s⟩ from rfl,w1]
 rw[aV,e];simp only[cU,aK];have hF:=Frm.of1 hr.lt w2 w3 w4;refine kk σ1 (css.set i ys) hF ⟨.inr ⟨off,s,rfl,w5⟩,h.hr,by simp[h.len],fun cs a0=>?_,fun j h3 h4=>?_⟩
 ·rcases List.mem_or_eq_of_mem_set a0 with a0|rfl
  ·exact h.cl cs a0
  ·exact hy
 ·simp only[List.length_set]at h3 h4;have hm:∀{cs x},R σ (fun j=>Y j\/some (⟨rb,off,some s⟩:Addr)≠none/\j=rb) cs x->R σ1 (fun j=>Y j\/some (⟨rb,off,some s⟩:Addr)≠none/\j=rb) cs x:=fun h=>hM _ _ _ _ _ _ _ hF (fun _ _ h=>.inr ⟨by simp,h⟩) (fun _ _ h=>h) h;rw[List.getElem_set,List.getElem_set];split
  ·exact hm hx
  ·exact hm (h.el j h3 h4)
end
section
variable{σ σ':aC}{B:Nat}{T:TrA}{N:List NV}{D:List Dc}{n b:Nat}{m:DS}
theorem DR.suc{Y:Nat->Prop}(h:DR σ Y T N D n b m):DR σ Y T N D (n+1) b m:={h with no:=Nat.le_succ_of_le h.no,nv:=Nat.le_succ_of_le h.nv,nk:=Nat.le_succ_of_le h.nk,nl:=Nat.le_succ_of_le h.nl}
theorem QD.suc{v:Value}(h:QD σ B T N D n v σ'):QD σ B T N D (n+1) v σ':=by obtain⟨h1,h2,m,h3,h4⟩:=h;exact⟨h1,h2,m,h3,h4.suc⟩
theorem DR.cellsTo{Y:Nat->Prop}(h:DR σ Y T N D n b m){l:List Vl}{p:Addr}{c rb:Nat}{css:List (List Value)}(hG:GR (vlR 8) 8 σ Y rb l css (some p) c)(hl:m.cells.length<=l.length)(ok:lOK N l.length l)(hn:l.length<=n):DR σ Y T N D n b {m with cells:=l,pc:=some p,cc:=c}:=
 {h with cells:=hG.close eR (by decide),ce:=hG.emp,pe:=eOK_mono hl _ h.pe,pv:=zK hl _ h.pv,pc:=ok,pk:=we hl h.pk,nv:=hn}
theorem wp_does(g:bZ N D)(h:Dm σ B T N D n m.nc.length m)(hn:n<=900000)(g4:eS σ){x:NV}{q:Option Addr}{c:Nat}{w:DW}{wq p:Option Addr}{wc:Nat}(hv:aN σ (· =B) 8 (vlR 8 σ (· =B)) wq w.vals)(hq:Emp σ (· =B) wq)(ov:lOK N m.cells.length w.vals)(h1:0<w.vals.length)(g3:w.vals.length<=1000000):
  WpF aG ovD 127 [bI B,.agg (nvC x q c).toArray,.agg (dwC w wq wc p).toArray] σ (QD σ B T N D (n+1)):=by
 refine WpF.of (T127_eq _ _ _ _ _ _ _ _ _ _ _ _ _ _ _ _ _ _) rfl ?_;rw[T127];have hB:=h.lt;refine aJ fun σ1 f6 g2 d0=>?_;generalize hA:σ.n=A at d0 g2;have d0:St σ1 A (nvC x q c):=d0;refine aJ fun σ2 e7 g0 b7=>?_;generalize hC:σ1.n=C at b7 g0;have b7:St σ2 C (dwC w wq wc p):=b7;have c3:=f6.seq e7;have d7:=dJ (S:=NoB) (Y':=(· =B)) c3 (fun _ _ h=>h.elim) (fun _ _ h=>h) hv;rw[aB b7 (i:=1) rfl];simp only[wpS];refine wp_rowK d7 (i:=0) rfl h1 rfl rfl fun cs b5=>?_;obtain⟨aq,ac,ap,ak,rfl,ha⟩:=rK.1 b5;have oa:=fP.1 ov _ (List.getElem_mem h1);generalize w.vals[0]=a at ha oa b5;unfold vD;simp only[wpS];refine aJ fun σ3 f5 f9 e4=>?_;generalize hE:σ2.n=E at e4 f9;refine aZ e4 rfl rfl fun σ4 f4 g9 d4=>?_;have d4:St σ4 E (vD a aq ac ap ak):=d4;have b4:Frm σ2 σ4 NoB:=f5.fresh f4 fun j hj h=>by omega
 rw[aB (b4.stN b7) (i:=1) rfl];simp only[wpS];rw[aB (b4.stN b7) (i:=1) rfl];simp only[wpS];have el:aP (((w.vals.length:Nat):Int)-1)=((w.vals.length-1:Nat):Int):=by rw[aS (by omega)];omega
 have d6:=dJ (S:=NoB) (Y':=(· =B)) b4 (fun _ _ h=>h.elim) (fun _ _ h=>h) d7;have f0:w.vals.length-1<w.vals.length:=by omega
 rw[el];refine cX d6 f0 rfl fun cs b5=>?_;obtain⟨bq,bc,bp,bk,rfl,hb⟩:=rK.1 b5;have ob:=fP.1 ov _ (List.getElem_mem f0);generalize w.vals[w.vals.length-1]=b at hb ob b5;unfold vD;simp only[wpS];refine aJ fun σ5 f3 f8 e3=>?_;generalize hG:σ4.n=G at e3 f8;refine aZ e3 rfl rfl fun σ6 f2 g8 b9=>?_;have b9:St σ6 G (vD b bq bc bp bk):=b9;have b2:Frm σ4 σ6 NoB:=f3.fresh f2 fun j hj h=>by omega
 have b3:=b4.seq b2;have a7:=c3.seq b3;have d5:=(e7.seq b3).stN d0;have c9:=b3.stN b7;have a9:=b2.stN d4;have e2:=ha.frmN b3;have e0:=hb.frmN b2;have e8:=dJ (S:=NoB) (Y':=(· =B)) b2 (fun _ _ h=>h.elim) (fun _ _ h=>h) d6;have f7:=hq.step (S:=NoB) (Y':=(· =B)) a7 (fun _ _ h=>h.elim) fun _ _ h=>h;have h6:=h.frm a7;have b1:=a7.fr g4;have i4:=d5.1;have i3:=c9.1;have i2:=a9.1;have i1:=b9.1;clear f6 e7 d0 b7 d7 f5 e4 f4 d4 b4 d6 f3 e3 f2 b2 b3 ha hb b5 c3;have give:∀{τ:aC} {m':DS} {u:Vl} {uq up:Option Addr} {uc:Nat} {uk:Int} {K:Pg} {Q:bW},Frm σ6 τ (· =B)->Dm τ B T N D (n+1) m'.nc.length m'->VlP 8 τ (· =B) u uq up->vOK N m'.cells.length u->(∀σ',QD σ B T N D (n+1) (.tuple #[]) σ'->Wp aG ovD K σ' Q)->Wp aG ovD (.call 120 [bI B,.agg (vD u uq uc up uk).toArray] fun v=>bM v fun l=>aH l K) τ Q:=fun hτ hm hu ou k=>fN (wp_give hm hu ou) (a7.no.seq hτ) k;have stuck:∀{K:Pg} {Q:bW},(∀σ',QD σ B T N D (n+1) (.tuple #[]) σ'->Wp aG ovD K σ' Q)->Wp aG ovD (.call 123 [bI B] fun v=>bM v fun l=>aH l K) σ6 Q:=fun k=>fN (jN h6) a7.no fun σ' hq=>k σ' hq.suc;have b0:Dm σ6 B T N D (n+1) m.nc.length m:=⟨h6.st,h6.r.suc⟩;rw[aB d5 (i:=0) rfl];simp only[wpS];rw[aA];split
 ·
  rw[aB d5 (i:=2) rfl];simp only[wpS];rw[aB c9 (i:=1) rfl];simp only[wpS];refine aJ fun σ7 a2 d2 f1=>?_;generalize hH:σ6.n=H at f1 d2;refine aZ f1 rfl rfl fun σ8 b6 e9 c4=>?_;have a5:Frm σ6 σ8 NoB:=a2.fresh b6 fun j hj h=>by omega
  have c4:St σ8 H (vD (vd x.x.nm w.vals) wq wc none 1):=c4;refine Wp.count w.vals.length (fun j st σ'=>∃k,st=[.int .i64 ((j:Nat):Int)]/\Frm σ6 σ' NoB/\St σ' H (vD (vd x.x.nm w.vals) wq wc none k)) ⟨1,rfl,a5,c4⟩ ?_ ?_
  ·rintro j st σ9 hj ⟨k,rfl,a4,a6⟩;have ej:aP ((j:Int)+1)=((j+1:Nat):Int):=by rw[aS (by omega)];omega
   unfold T127b0;simp only[wpS];rw[aB (a4.stN c9) (i:=1) rfl];simp only[wpS];rw[aA,if_pos (by simp;omega),aF,aB a6 (i:=7) rfl];simp only[wpS];rw[aB (a4.stN c9) (i:=1) rfl];simp only[wpS];refine cR (dJ (S:=NoB) (Y':=(· =B)) a4 (fun _ _ h=>h.elim) (fun _ _ h=>h) e8) hj rfl (o:=7) (by decide) fun cs b5=>?_;obtain⟨q5,c5,p5,k5,rfl,_⟩:=rK.1 b5;refine⟨_,rfl,?_⟩;simp only[wpS];refine aT (i:=7) a6 (by simp[vD]) rfl fun σ10 a8 d9 c0=>?_;simp only[wpS,T127k0,ej];exact⟨_,trivial,a4.fresh a8 fun j hj h=>by omega,c0⟩
  ·rintro st σ9 ⟨k,rfl,a4,a6⟩;unfold T127b0;simp only[wpS];rw[aB (a4.stN c9) (i:=1) rfl];simp only[wpS];rw[aA,if_neg (by simp)];simp only[wpS,T127k2];rw[aB a6 (i:=7) rfl];simp only[wpS];have h9:=b0.frm a4;have fin:∀(τ:aC) (m':DS) (k:Int),Frm σ6 τ (· =B)->Dm τ B T N D (n+1) m'.nc.length m'->m'.cells.length=m.cells.length->St τ H (vD (vd x.x.nm w.vals) wq wc none k)->Wp aG ovD (T127k1 ⟨H,0,some 0⟩ (some ⟨B,0,some 0⟩) .normal []) τ fun e vs σ'=>Wp aG ovD (T127k10 e vs) σ' fun e vs σ'=>Wp aG ovD (T127k11 e vs) σ' fun _ vs σ'=>∃v,vs=[v]/\QD σ B T N D (n+1) v σ':=by intro τ m' k hτ hm g5 hS;simp only[wpS,T127k1];rw[aL hS 8 rfl];unfold vD;simp only[wpS];have hI:∀j,j<σ6.n->j=B->j=B:=fun _ _ h=>h;refine give hτ hm (u:=vd x.x.nm w.vals) ⟨dJ hτ hI hI e8,f7.step hτ hI hI,kT.2 rfl⟩ (by rw[g5];exact yZ ov) fun σ' hq=>?_;simp only[wpS,T127k10,T127k11];exact⟨_,rfl,hq⟩
   rw[aA];split
   ·refine aT (i:=17) h9.st (by simp[dmC]) rfl fun σ10 a8 d9 c0=>?_;refine aT (i:=7) (a8.st a6 (by omega)) (by simp[vD]) rfl fun σ11 d1 g1 e5=>?_;have hτ:Frm σ6 σ11 (· =B):=(a4.no.seq a8).trans d1 (fun _ _ h=>h) fun j hj h=>by omega
    simp only[wpS];exact fin σ11 {m with big:=true} 5000 hτ ⟨d1.st c0 (by omega),DR.step (S:=(· =B)) {b0.r with} hτ fun _ _ h=>h⟩ rfl e5
   ·simp only[wpS];exact fin σ9 m k a4.no h9 rfl a6
 rw[aF,aA];split
 ·
  rw[aB c9 (i:=0) rfl];simp only[wpS];rw[aL a9 8 rfl];unfold vD;simp only[wpS];rw[aL b9 8 rfl];unfold vD;simp only[wpS];refine fN (wp_callD g h6 hn b1 w.at_ e2 e0 oa ob) a7.no fun σ' hq=>?_;simp only[wpS,T127k9,T127k10,T127k11];exact⟨_,rfl,hq⟩
 rw[aF,aA];split
 ·
  rw[aB a9 (i:=0) rfl];simp only[wpS];rw[aA];by_cases c6:a.k=6
  case neg=>rw[if_pos (by simpa using c6)];refine stuck fun σ' hq=>?_;simp only[wpS,T127k8,T127k9,T127k10,T127k11];exact⟨_,rfl,hq⟩
  rw[if_neg (by simp[c6])];obtain⟨a0,a1⟩:=yf oa c6;obtain⟨j,hj⟩:=Int.eq_ofNat_of_zero_le a0;have d3:j<m.cells.length:=by omega
  rw[aV,cM];simp only[wpS];have a2:Frm σ6 (σ6.newBlk [] 8) NoB:=Frm.new _ _ _ _;have c7:Row (σ6.newBlk [] 8) σ6.n 0 8 0 8 []:=Row.new σ6 8 [] 0 (by decide) rfl (fun _ h=>by cases h);generalize σ6.newBlk [] 8=σ7 at a2 c7 ⊢;have h7:=b0.frm a2;rw[aB h7.st (i:=5) rfl];simp only[wpS];refine wp_cpG (Y:=(· =B)) eR wide_v (by decide) c7 (by omega) (aN.wider eR h6.r.cells a2 (Nat.le_refl _)) (h6.r.ce.wider a2 (Nat.le_refl _)) (by have:=h.r.nv;omega) (by decide) rfl fun σ8 p8 c8 css8 b6 c1=>?_;have a5:Frm σ6 σ8 NoB:=a2.fresh b6 fun j hj h=>by omega
  have h8:=b0.frm a5;refine aT (i:=5) h8.st (by simp[dmC]) rfl fun σ9 a4 d8 a6=>?_;have h9:Dm σ9 B T N D (n+1) m.nc.length {m with pc:=some p8,cc:=c8}:=⟨a6,DR.step (S:=(· =B)) (h8.r.cellsTo c1 (Nat.le_refl _) h.r.pc (Nat.le_succ_of_le h.r.nv)) a4 fun _ _ h=>h⟩;have a3:Frm σ6 σ9 (· =B):=a5.no.seq a4;rw[aB h9.st (i:=5) rfl];simp only[wpS];rw[aB (a3.st a9 (by omega)) (i:=6) rfl];simp only[wpS];rw[aL (a3.st b9 (by omega)) 8 rfl];unfold vD;simp only[wpS];rw[hj,aO];refine⟨by simp;omega,?_⟩;have hI:∀j,j<σ6.n->j=B->j=B:=fun _ _ h=>h;have i0:=e0.step a3 hI hI;have g6:=c1.frm eR a4 fun _ _ h=>h;have hx:vlR 8 σ9 (fun i=>i=B\/some p8≠none/\i=σ6.n) (vD b bq bc bp bk) b:=rK.2 ⟨_,_,_,_,rfl,e0.step a3 hI fun i hi h=>h.elim id fun h=>by omega⟩;rw[show Int.toNat ((j:Nat):Int)=j from rfl];refine wp_gsetD eR wide_v g6 d3 hx fun σ10 css10 a8 e6=>?_;have b8:Frm σ6 σ10 (· =B):=a3.trans a8 (fun _ _ h=>h) fun j hj h=>by omega
  have g7:Dm σ10 B T N D (n+1) m.nc.length {m with cells:=m.cells.set j b,pc:=some p8,cc:=c8}:=by
   refine⟨?_,((b0.r).step b8 fun _ _ h=>h).cellsTo e6 (by simp) ?_ (by simpa using Nat.le_succ_of_le h.r.nv)⟩
   ·have:=a8.st a6 (by omega);have e:dmC T N D {m with cells:=m.cells.set j b,pc:=some p8,cc:=c8}=dmC T N D {m with pc:=some p8,cc:=c8}:=by simp[dmC]
    rw[e];exact this
   ·rw[List.length_set];refine fP.2 fun v hv=>?_;rcases List.mem_or_eq_of_mem_set hv with hv|rfl
    ·exact fP.1 h.r.pc v hv
    ·exact ob
  refine give b8 (m':={m with cells:=m.cells.set j b,pc:=some p8,cc:=c8}) g7 (u:=pL) (VlP.plain rfl rfl) nW fun σ' hq=>?_;simp only[wpS,T127k8,T127k9,T127k10,T127k11];exact⟨_,rfl,hq⟩
 rw[aF,aA];split
 ·
  rw[aB d5 (i:=2) rfl];simp only[wpS];rw[aB a9 (i:=1) rfl];simp only[wpS];rw[aB b9 (i:=1) rfl];simp only[wpS];rw[aE];refine wp_opD _ _ _ fun σ7 u ok a2 hu=>?_;unfold vD;simp only[wpS];refine aJ fun σ8 b6 e9 c4=>?_;generalize hH:σ7.n=H at c4 e9;refine aZ c4 rfl rfl fun σ9 a4 d8 a6=>?_;have d2:=a2.n;have a3:Frm σ6 σ9 NoB:=a2.seq (b6.fresh a4 fun j hj h=>by omega);have a6:St σ9 H (vD u none 0 none 0):=a6;have fin:∀d:Bool,Wp aG ovD (T127k3 (some ⟨B,0,some 0⟩) ⟨H,0,some 0⟩ .normal [.bool d]) σ9 fun e vs σ'=>Wp aG ovD (T127k7 e vs) σ' fun e vs σ'=>Wp aG ovD (T127k8 e vs) σ' fun e vs σ'=>Wp aG ovD (T127k9 e vs) σ' fun e vs σ'=>Wp aG ovD (T127k10 e vs) σ' fun e vs σ'=>Wp aG ovD (T127k11 e vs) σ' fun _ vs σ'=>∃v,vs=[v]/\QD σ B T N D (n+1) v σ':=by
   intro d;simp only[wpS,T127k3];rw[aA];split
   ·refine fN (jN (b0.frm a3)) (a7.seq a3).no fun σ' hq=>?_;simp only[wpS,T127k7,T127k8,T127k9,T127k10,T127k11];exact⟨_,rfl,hq⟩
   ·rw[aL a6 8 rfl];unfold vD;simp only[wpS];refine give a3.no (b0.frm a3) hu.p hu.ok fun σ' hq=>?_;simp only[wpS,T127k7,T127k8,T127k9,T127k10,T127k11];exact⟨_,rfl,hq⟩
  rw[aF,aA];split
  case isFalse=>simp only[wpS];exact fin _
  rw[aB (a3.stN a9) (i:=0) rfl];simp only[wpS];rw[aA];split
  case isFalse=>simp only[wpS];exact fin _
  rw[aB (a3.stN b9) (i:=0) rfl];simp only[wpS];exact fin _
 rw[aF,aA];split
 ·
  refine tQ (by decide) b1 fun σ7 a2 d2 c7=>?_;have h7:=b0.frm a2;rw[aB h7.st (i:=5) rfl];simp only[wpS];rw[aL (a2.stN a9) 8 rfl];unfold vD;simp only[wpS];refine uS (Y:=(· =B)) eR wide_v (by decide) (by decide) (fun j hj=>by subst hj;exact h7.lt) c7 (by omega) (aN.wider eR h6.r.cells a2 (Nat.le_refl _)) (h6.r.ce.wider a2 (Nat.le_refl _)) (by have:=h.r.nv;omega) (by decide) (a2.fr b1) (by omega) (eR.wider (rK.2 ⟨_,_,_,_,rfl,e2⟩) a2 (Nat.le_refl _)) (fun τ hτ=>cQ ((hτ.st (a2.stN a9) (by omega)).ldAll 8 rfl) rfl) rfl fun σ8 rb p8 c8 css8 b6 c1=>?_;have a5:Frm σ6 σ8 NoB:=a2.fresh b6 fun j hj h=>by omega
  have h8:=b0.frm a5;have el2:(m.cells++[a]).length=m.cells.length+1:=by simp
  rw[<-el2];refine aT (i:=5) h8.st (by simp[dmC]) rfl fun σ9 a4 d8 a6=>?_;have h9:Dm σ9 B T N D (n+1) m.nc.length {m with cells:=m.cells++[a],pc:=some p8,cc:=c8}:=by refine⟨a6,DR.step (S:=(· =B)) (h8.r.cellsTo c1 (by rw[el2];exact Nat.le_succ _) ?_ (by rw[el2];exact Nat.succ_le_succ h.r.nv)) a4 fun _ _ h=>h⟩;rw[el2];exact lOK_mono (Nat.le_succ _) _ (qN h.r.pc (rG oa))
  rw[aB h9.st (i:=5) rfl];simp only[wpS];have e1:aP ((((m.cells++[a]).length:Nat):Int)-1)=((m.cells.length:Nat):Int):=by have:=h.r.nv;rw[el2,aS (by omega)];omega
  have el3:({m with cells:=m.cells++[a],pc:=some p8,cc:=c8}:DS).cells.length=(m.cells++[a]).length:=rfl;rw[el3,e1];refine give (a5.no.seq a4) (m':={m with cells:=m.cells++[a],pc:=some p8,cc:=c8}) h9 (u:=vt m.cells.length) (VlP.plain rfl rfl) (ok_cell (by show _<(m.cells++[a]).length;omega)) fun σ' hq=>?_;simp only[wpS,T127k6,T127k7,T127k8,T127k9,T127k10,T127k11];exact⟨_,rfl,hq⟩
 rw[aF,aA];split
 ·
  rw[aB a9 (i:=0) rfl];simp only[wpS];rw[aA];by_cases c6:a.k=6
  case neg=>rw[if_pos (by simpa using c6)];refine stuck fun σ' hq=>?_;simp only[wpS,T127k5,T127k6,T127k7,T127k8,T127k9,T127k10,T127k11];exact⟨_,rfl,hq⟩
  rw[if_neg (by simp[c6])];obtain⟨a0,a1⟩:=yf oa c6;obtain⟨j,hj⟩:=Int.eq_ofNat_of_zero_le a0;have d3:j<m.cells.length:=by omega
  rw[aB h6.st (i:=5) rfl];simp only[wpS];rw[aB a9 (i:=6) rfl];simp only[wpS];rw[hj];refine cX h6.r.cells d3 rfl fun cs b5=>?_;obtain⟨uq,uc,up,uk,rfl,hu⟩:=rK.1 b5;unfold vD;simp only[wpS];refine give (Frm.refl _ _) b0 hu (fP.1 h.r.pc _ (List.getElem_mem d3)) fun σ' hq=>?_;simp only[wpS,T127k5,T127k6,T127k7,T127k8,T127k9,T127k10,T127k11];exact⟨_,rfl,hq⟩
 rw[aF,aA];split
 ·
  rw[aB a9 (i:=0) rfl];simp only[wpS];rw[aA];split
  ·refine stuck fun σ' hq=>?_;simp only[wpS,T127k4,T127k5,T127k6,T127k7,T127k8,T127k9,T127k10,T127k11];exact⟨_,rfl,hq⟩
  refine tQ (by decide) b1 fun σ7 a2 d2 c7=>?_;have h7:=b0.frm a2;rw[aB h7.st (i:=4) rfl];simp only[wpS];rw[aB (a2.stN a9) (i:=1) rfl];simp only[wpS];refine uS (Y:=(· =B)) (x:=a.n) xg wide_i (by decide) (by decide) (fun j hj=>by subst hj;exact h7.lt) c7 (by omega) (aN.wider xg h6.r.out a2 (Nat.le_refl _)) (h6.r.oe.wider a2 (Nat.le_refl _)) (by have:=h.r.no;omega) (by decide) (a2.fr b1) (by omega) rfl (fun τ hτ=>cQ ((hτ.st (a2.stN a9) (by omega)).ldF (i:=1) rfl) rfl) rfl fun σ8 rb p8 c8 css8 b6 c1=>?_;have a5:Frm σ6 σ8 NoB:=a2.fresh b6 fun j hj h=>by omega
  have h8:=b0.frm a5;have el2:(m.out++[a.n]).length=m.out.length+1:=by simp
  rw[<-el2];refine aT (i:=4) h8.st (by simp[dmC]) rfl fun σ9 a4 d8 a6=>?_;have h9:Dm σ9 B T N D (n+1) m.nc.length {m with out:=m.out++[a.n],po:=some p8,co:=c8}:=
   ⟨a6,DR.step (S:=(· =B)) {h8.r with out:=c1.close xg (by decide),oe:=c1.emp,no:=by rw[el2];exact Nat.succ_le_succ h.r.no} a4 fun _ _ h=>h⟩
  refine give (a5.no.seq a4) (m':={m with out:=m.out++[a.n],po:=some p8,co:=c8}) h9 (u:=pL) (VlP.plain rfl rfl) nW fun σ' hq=>?_;simp only[wpS,T127k4,T127k5,T127k6,T127k7,T127k8,T127k9,T127k10,T127k11];exact⟨_,rfl,hq⟩
 rw[aL a9 8 rfl];unfold vD;simp only[wpS];refine fN (wp_raiseD g b0 (by omega) e2 oa) a7.no fun σ' hq=>?_;simp only[wpS,T127k4,T127k5,T127k6,T127k7,T127k8,T127k9,T127k10,T127k11];exact⟨_,rfl,hq⟩
end
section
variable{σ σ':aC}{B:Nat}{T:TrA}{N:List NV}{D:List Dc}{n b:Nat}{m:DS}
theorem bZ.kid0(g:bZ N D){i:Nat}(hi:i<N.length)(h0:¬20<N[i].x.k)(h:∀k:Int,k=1\/k=2\/k=3\/k=4\/k=5\/k=6\/k=9\/k=18->N[i].x.k≠k):0<N[i].kids.length:=by
 have hs:=(g.node i hi).shape;unfold bT at hs;simp only[Bool.and_eq_true,decide_eq_true_eq]at hs;have h1:=hs.1.1.1.1.1;have hk:=fun k n hk hn=>g.kidsOf hi k n hk hn;have:=h 1 (by omega);have:=h 2 (by omega);have:=h 3 (by omega);have:=h 4 (by omega);have:=h 5 (by omega);have:=h 6 (by omega);have:=h 9 (by omega);have:=h 18 (by omega);have:N[i].x.k=7\/N[i].x.k=8\/N[i].x.k=10\/N[i].x.k=11\/N[i].x.k=12\/N[i].x.k=13\/N[i].x.k=14\/N[i].x.k=15\/N[i].x.k=16\/N[i].x.k=17\/N[i].x.k=19\/N[i].x.k=20:=by omega
 rcases this with h|h|h|h|h|h|h|h|h|h|h|h
 ·have:=hk 7 2 h rfl;omega
 ·have:=hk 8 2 h rfl;omega
 ·have:=hk 10 3 h rfl;omega
 ·have:=(g.matchOdd hi h).2;omega
 ·have:=hk 12 2 h rfl;omega
 ·have:=hk 13 2 h rfl;omega
 ·have:=hk 14 2 h rfl;omega
 ·have:=hk 15 1 h rfl;omega
 ·have:=hk 16 1 h rfl;omega
 ·have:=hk 17 1 h rfl;omega
 ·have:=hk 19 1 h rfl;omega
 ·have:=hk 20 2 h rfl;omega
theorem wp_beginD(g:bZ N D)(h:Dm σ B T N D n m.nc.length m)(hn:n<=900000)(c8:eS σ):WpF aG ovD 112 [bI B] σ (QD σ B T N D (n+1)):=by
 obtain⟨hi,hp⟩:=h.r.pat;refine WpF.of (T112_eq _) rfl ?_;rw[T112];have hB:=h.lt;simp only[wpS];rw[bS,aB h.st (i:=0) rfl];simp only[wpS];rw[aB h.st (i:=18) rfl];simp only[wpS];refine kC h.r.tree.tree.nodes hi rfl fun xa cs a4 d6=>?_;have a8:=fun j hj (h2:N[m.at_].x.k=11->j%2=0)=>g.kidE (i:=m.at_) (j:=j) hi hp hj h2;have c7:=g.kid0 hi hp;have b9:=g.kidsOf hi 9 2;have a3:N[m.at_].x.k=6\/N[m.at_].x.k=9->wj N ((m.at_:Nat):Int):=fun hk=>⟨m.at_,rfl,hi,hk⟩;have b8:∀w:DW,w.at_=((m.at_:Nat):Int)->w.vals=[]->w.env=m.env->w.call=false->(w.try_=true->N[m.at_].x.k=20)->0<N[m.at_].kids.length->okDW N m.cells.length w:=fun w h1 h2 h3 h4 h5 h6=>⟨by rw[h3];exact h.r.pe,by rw[h2];exact eM,fun _=>⟨m.at_,h1,hi,hp,by rw[h2];exact h6,h5⟩⟩;have kid:∀{τ:aC} {w:DW} {K:Pg} {Q:bW},Frm σ τ NoB->w.at_=((m.at_:Nat):Int)->w.vals=[]->w.env=m.env->w.call=false->(w.try_=true->N[m.at_].x.k=20)->(w.try_=true->w.calls=((m.nc.length:Nat):Int))->0<N[m.at_].kids.length->(∀σ',QD σ B T N D (n+1) (.tuple #[]) σ'->Wp aG ovD K σ' Q)->Wp aG ovD (.call 125 [bI B,.agg (dwC w none 0 m.pe).toArray] fun v=>bM v fun l=>aH l K) τ Q:=by intro τ w K Q hτ h1 h2 h3 h4 h5 h6 h7 k;refine fN (wp_kidD g (h.frm hτ) hn (hτ.fr c8) (q:=none) (by rw[h2];exact aN.nil) Emp.none (by rw[h3];exact h.r.env.frmN hτ) (b8 w h1 h2 h3 h4 h5 h7) h4 h6 (fun _ _ _ _=>by rw[h2];rfl)) hτ.no k
 generalize hx:N[m.at_]=x at a4 a8 c7 b9 a3 kid hp ⊢;clear b8;obtain⟨xq,xk,rfl,b2,_⟩:=a4;simp only[wpS];refine aJ fun σ1 b1 d4 d0=>?_;generalize hE:σ.n=E at d0 d4;rw[bC,aO];refine⟨cQ (d6 σ1 b1) (bF ((Kp.st h.st (i:=18) rfl).frm b1) (bF ((Kp.st h.st (i:=0) rfl).frm b1) rfl)),?_⟩;refine aZ d0 rfl rfl fun σ2 d8 e3 a2=>?_;have a2:St σ2 E (nvC x xq xk):=a2;have a0:Frm σ σ2 NoB:=b1.fresh d8 fun j hj h=>by omega
 have h2:=h.frm a0;have b6:=a0.fr c8;have a7:=b2.later a0;have a9:Dm σ2 B T N D (n+1) m.nc.length m:=⟨h2.st,h2.r.suc⟩;have give:∀{τ:aC} {u:Vl} {uq up:Option Addr} {uc:Nat} {uk:Int} {K:Pg} {Q:bW},Frm σ2 τ NoB->VlP 8 τ (· =B) u uq up->vOK N m.cells.length u->(∀σ',QD σ B T N D (n+1) (.tuple #[]) σ'->Wp aG ovD K σ' Q)->Wp aG ovD (.call 120 [bI B,.agg (vD u uq uc up uk).toArray] fun v=>bM v fun l=>aH l K) τ Q:=fun hτ hu ou k=>fN (wp_give (a9.frm hτ) hu ou) (a0.seq hτ).no k;rw[aB a2 (i:=0) rfl];simp only[wpS];rw[aA];split
 ·rw[aB a2 (i:=1) rfl];simp only[wpS];have hu:tG (.mk 1 x.x.n [] [] 0 .nil 0):=⟨rfl,rfl,by show(1:Int)<=4;decide⟩;refine give (Frm.refl _ _) hu.p hu.ok fun σ' hq=>?_;simp only[wpS,T112k7,T112k8];exact⟨_,rfl,hq⟩
 rw[aF,aA];split
 ·rw[aB a2 (i:=1) rfl];simp only[wpS];rw[aE];refine vn _ fun σ3 a1=>?_;unfold vD;simp only[wpS];have hu:tG (pO (x.x.n==1)):=⟨rfl,rfl,by show(2:Int)<=4;decide⟩;refine give a1 hu.p hu.ok fun σ' hq=>?_;simp only[wpS,T112k6,T112k7,T112k8];exact⟨_,rfl,hq⟩
 rw[aF,aA];split
 ·refine give (Frm.refl _ _) (u:=pL) (VlP.plain rfl rfl) nW fun σ' hq=>?_;simp only[wpS,T112k5,T112k6,T112k7,T112k8];exact⟨_,rfl,hq⟩
 rw[aF,aA];split
 ·
  rw[bC];rw[aB h2.st (i:=19) rfl];simp only[wpS];rw[aB a2 (i:=2) rfl];simp only[wpS];rw[bC,aO];refine⟨kB (Nat.le_refl _) b6 (fun _ h=>by cases h),?_⟩;refine aJ fun σ3 a1 b4 a6=>?_;generalize hC:σ2.n=C at a6 b4;rw[bC,aE];refine wp_findD (Y:=fun j=>j=B\/j=C) (EnR_step (S:=NoB) a1 (fun _ _ h=>h.elim) (fun j hj h=>h.elim id fun h=>by omega) _ _ h2.r.env) h.r.pe x.x.nm fun u uq uc up uk ok σ4 b0 hu ou=>?_;unfold vD;simp only[wpS];rw[bC,aO];refine⟨jR (b0.get C (by omega) fun h=>h),?_⟩;refine aZ (b0.stN a6) rfl rfl fun σ5 d1 d9 b7=>?_;have e0:=b0.n;have a5:Frm σ2 σ5 NoB:=(a1.seq b0).fresh d1 fun j hj h=>by omega
  rw[aA];split
  ·refine fN (jN (a9.frm a5)) (a0.seq a5).no fun σ' hq=>?_;simp only[wpS,T112k4,T112k5,T112k6,T112k7,T112k8];exact⟨_,rfl,hq⟩
  ·have b7:St σ5 C (vD u uq uc up uk):=b7;rw[aL b7 8 rfl];unfold vD;simp only[wpS];have d2:VlP 8 σ5 (· =B) u uq up:=hu.step d1 (fun _ _ h=>.inr h) fun _ _ h=>.inl h;refine give a5 d2 ou fun σ' hq=>?_;simp only[wpS,T112k4,T112k5,T112k6,T112k7,T112k8];exact⟨_,rfl,hq⟩
 rw[aF,aA];split
 ·
  rename_i c6;rw[aB h2.st (i:=18) rfl];simp only[wpS];rw[aB h2.st (i:=19) rfl];simp only[wpS];refine give (Frm.refl _ _) (u:=zt m.at_ m.env) ⟨aN.nil,Emp.none,h2.r.env⟩ (yQ (a3 (.inl (by simpa using c6))) h.r.pe) fun σ' hq=>?_;simp only[wpS,T112k3,T112k4,T112k5,T112k6,T112k7,T112k8];exact⟨_,rfl,hq⟩
 rw[aF,aA];split
 ·
  rename_i c9;have c9:x.x.k=9:=by simpa using c9
  have hl:=b9 c9 rfl;have b5:1<x.kids.length:=by omega
  have okk:=a8 1 b5 fun h=>by omega
  rw[vB b5]at okk;rw[aB a2 (i:=4) rfl];simp only[wpS];refine iT a7 (i:=1) (o:=0) rfl b5 rfl (by decide) rfl fun y cs a4=>?_;unfold gE at a4;subst a4;refine⟨_,rfl,fun d5=>?_⟩;simp only[wpS];rw[aB a2 (i:=2) rfl];simp only[wpS];rw[aB h2.st (i:=18) rfl];simp only[wpS];rw[aB h2.st (i:=19) rfl];simp only[wpS];rw[aB h2.st (i:=19) rfl];simp only[wpS];refine aJ fun σ3 a1 b4 a6=>?_;rw[bC,aO];refine⟨bF (d5.frm a1) (bF ((Kp.st a2 (i:=4) rfl).frm a1) rfl),?_⟩;have d7:EnR 8 σ3 (· =B) (.cons x.x.nm (zt m.at_ m.env) m.env) (some ⟨σ2.n,0,some 0⟩):=iF (cs:=vD (zt m.at_ m.env) none 0 m.pe 0) (pu:=m.pe) a6 (by have:=h2.lt;omega) (rK.2 ⟨_,_,_,_,rfl,aN.nil,Emp.none,h2.r.env.frmN a1⟩) (h2.r.env.frmN a1);refine fN (qQ (a9.frm a1) d7 okk (eD.2 ⟨yQ (a3 (.inr c9)) h.r.pe,h.r.pe⟩)) (a0.seq a1).no fun σ' hq=>?_;simp only[wpS,T112k2,T112k3,T112k4,T112k5,T112k6,T112k7,T112k8];exact⟨_,rfl,hq⟩
 rw[aF,aA];split
 ·
  have d3:=h.r.rd;have e4:=h.r.il;rw[aB h2.st (i:=3) rfl];simp only[wpS];rw[aB h2.st (i:=2) rfl];simp only[wpS];rw[aA];by_cases c1:m.read>=(m.inp.length:Int)
  ·rw[if_pos (by simpa using c1)];refine wp_over a9 rfl fun σ3 a1 h3=>?_;simp only[wpS,T112k1,T112k2,T112k3,T112k4,T112k5,T112k6,T112k7,T112k8];exact⟨_,rfl,rfl,a0.no.seq a1,{m with over:=3},h3⟩
  rw[if_neg (by simpa using c1),aB h2.st (i:=3) rfl];simp only[wpS];have e1:aP (m.read+1)=m.read+1:=aS (by omega);have e2:aP (m.read+1-1)=m.read:=by rw[aS (by omega)];omega
  obtain⟨j,hj⟩:=Int.eq_ofNat_of_zero_le d3.1;have b3:0<=m.read+1/\m.read+1<=(m.inp.length:Int):=by omega
  rw[e1];refine aT (i:=3) h2.st (by simp[dmC]) rfl fun σ3 a1 b4 a6=>?_;have h3:Dm σ3 B T N D (n+1) m.nc.length {m with read:=m.read+1}:=⟨a6,DR.step (S:=(· =B)) {a9.r with rd:=b3} a1 fun _ _ h=>h⟩;rw[aB h3.st (i:=2) rfl];simp only[wpS];rw[aB h3.st (i:=3) rfl];simp only[wpS];rw[e2,hj];refine cN h3.r.inp (i:=j) (by show j<m.inp.length;omega) rfl fun cs a4=>⟨_,a4,?_⟩;simp only[wpS];have hu:tG (.mk 1 (m.inp[j]'(by omega)) [] [] 0 .nil 0):=⟨rfl,rfl,by show(1:Int)<=4;decide⟩;refine fN (wp_give (m:={m with read:=m.read+1}) h3 hu.p hu.ok) (a0.no.seq a1) fun σ' hq=>?_;simp only[wpS,T112k1,T112k2,T112k3,T112k4,T112k5,T112k6,T112k7,T112k8];exact⟨_,rfl,hq⟩
 rw[aF,aA];split
 ·
  rename_i c5;rw[aB a2 (i:=4) rfl];simp only[wpS];rw[aA];split
  ·rw[aB a2 (i:=2) rfl];simp only[wpS];refine give (Frm.refl _ _) (u:=vd x.x.nm []) (VlP.plain rfl rfl) (yZ eM) fun σ' hq=>?_;simp only[wpS,T112k0,T112k1,T112k2,T112k3,T112k4,T112k5,T112k6,T112k7,T112k8];exact⟨_,rfl,hq⟩
  ·rename_i c0;rw[aB h2.st (i:=18) rfl];simp only[wpS];rw[aB h2.st (i:=19) rfl];simp only[wpS];refine kid (w:=⟨((m.at_:Nat):Int),[],m.env,0,false,false⟩) a0 rfl rfl rfl rfl (fun h=>by cases h) (fun h=>by cases h) (by simp at c0;exact Nat.pos_of_ne_zero fun h=>c0 (List.eq_nil_of_length_eq_zero h)) fun σ' hq=>?_;simp only[wpS,T112k0,T112k1,T112k2,T112k3,T112k4,T112k5,T112k6,T112k7,T112k8];exact⟨_,rfl,hq⟩
 rename_i c1 c2 c3 c4 c6 c9 c18 c5;simp only[beq_iff_eq]at c1 c2 c3 c4 c6 c9 c18 c5;rw[aB h2.st (i:=18) rfl];simp only[wpS];rw[aB h2.st (i:=19) rfl];simp only[wpS];rw[aB a2 (i:=0) rfl];simp only[wpS];rw[aB h2.st (i:=30) rfl];simp only[wpS];refine kid (w:=⟨((m.at_:Nat):Int),[],m.env,((m.nc.length:Nat):Int),false,x.x.k==20⟩) a0 rfl rfl rfl rfl (fun h=>by simpa using h) (fun _=>rfl) (c7 fun k hk=>by rcases hk with rfl|rfl|rfl|rfl|rfl|rfl|rfl|rfl<;>assumption) fun σ' hq=>?_;simp only[wpS,T112k0,T112k1,T112k2,T112k3,T112k4,T112k5,T112k6,T112k7,T112k8];exact⟨_,rfl,hq⟩
end
set_option maxRecDepth 10000
section
variable{σ σ':aC}{B:Nat}{T:TrA}{N:List NV}{D:List Dc}{n b:Nat}{m:DS}
theorem wp_comesD(g:bZ N D)(h:Dm σ B T N D n m.nc.length m)(hn:n<=900000)(e9:eS σ)(hk:m.k≠[]):WpF aG ovD 113 [bI B] σ (QD σ B T N D (n+1)):=by
 obtain⟨w,r,hk⟩:=List.exists_cons_of_ne_nil hk;have b4:=h.r.pk;rw[hk]at b4;refine WpF.of (T113_eq _) rfl ?_;rw[T113];have hB:=h.lt;simp only[wpS];refine wp_pop h hk (by omega) fun σ1 A q c p b3 hA b7 d4 g4 g3 a1 hr=>?_;have b1:=d4;have d6:=b3.fr e9;have i6:=b7.1;rw[aB b7 (i:=4) rfl];simp only[wpS];rw[aA];split
 ·
  rename_i hc;obtain⟨_,i4,_⟩:=b4.2.1 hc;rw[if_pos hc]at hr;have g8:=h.r.nl;obtain⟨nc,f6⟩:∃nc:List Unit,nc.length=m.nc.length-1:=⟨List.replicate _ (),List.length_replicate⟩;have e1:aP (((m.nc.length:Nat):Int)-1)=((nc.length:Nat):Int):=by rw[aS (by omega)];omega
  rw[aB a1 (i:=30) rfl];simp only[wpS];rw[aB a1 (i:=30) rfl];simp only[wpS];rw[aB a1 (i:=30) rfl];simp only[wpS];rw[e1,Int.toNat_natCast,aO];refine⟨by have:=h.r.lc;simp;omega,?_⟩;refine aT (i:=30) a1 (by simp[dmC]) rfl fun σ2 b2 e4 c9=>?_;simp only[wpS];rw[<-f6]at hr;exact⟨_,rfl,rfl,b3.seq b2,{m with k:=r,cw:=r.length,nc:=nc,cl:=nc.length},c9,hr.suc.cut.step (b3.seq b2) fun _ _ h=>h⟩
 rename_i hc;rw[if_neg hc]at hr;have hc:w.call=false:=by simpa using hc
 obtain⟨i,d1,hi,hp,f8,f4⟩:=b4.1.2.2 hc;have oe:=b4.1.1;have ov:=b4.1.2.1;rw[aB b7 (i:=5) rfl];simp only[wpS];rw[aA];split
 ·simp only[wpS];exact⟨_,rfl,rfl,b3,{m with k:=r,cw:=r.length},a1,hr.suc.step b3 fun _ _ h=>h⟩
 rename_i ht;have ht:w.try_=false:=by simpa using ht
 generalize d5:({m with k:=r,cw:=r.length}:DS)=m1 at a1 hr;have ec:m1.cells=m.cells:=by rw[<-d5]
 have en:m1.nc=m.nc:=by rw[<-d5]
 rw[<-ec]at oe ov;have f5:okDW N m1.cells.length w:=by rw[ec];exact b4.1
 rw[<-en]at hr;clear d5 b4 hk h;have h1:Dm σ1 B T N D n m1.nc.length m1:=⟨a1,hr.step b3 fun _ _ h=>h⟩;have i7:¬A=B:=by omega
 rw[bS,aB h1.st (i:=0) rfl];simp only[wpS];rw[aB b7 (i:=0) rfl];simp only[wpS];have f9:Kp σ1 (aadd ⟨A,0,some 0⟩ 0) (.int .i64 ((i:Nat):Int)):=Kp.st b7 (i:=0) (by show some (Value.int .i64 w.at_)=_;rw[d1]);rw[d1];have b8:∀j,j<σ.n->j=B->j=B:=fun _ _ h=>h;have d3:∀j,j<σ.n->(j=B\/j=A)->j=B:=fun j hj h=>h.elim id fun h=>by omega
 have e2:gT σ1 (fun j=>j=B\/j=A) T.pn N T.pd D:=hr.tree.step b3 b8 d3;refine kC e2.tree.nodes hi rfl fun xa cs a4 g1=>?_;have g2:=h1.r.tree.kl _ (List.getElem_mem hi);have e7:=fun j hj (h2:N[i].x.k=11->j%2=0)=>g.kidE (i:=i) (j:=j) hi hp hj h2;have e8:=g.kidsOf hi 8 2;have c1:=g.kidsOf hi 10 3;have c0:=g.kidsOf hi 12 2;generalize hx:N[i]=x at a4 e7 e8 c1 c0 f8 f4 g2 hp ⊢;obtain⟨xq,xk,rfl,e6,_⟩:=a4;simp only[wpS];refine aJ fun σ2 b2 e4 c9=>?_;generalize hE:σ1.n=E at c9 e4;rw[bC,aO];refine⟨cQ (g1 σ2 b2) (bF (f9.frm b2) (bF ((Kp.st h1.st (i:=0) rfl).frm b2) rfl)),?_⟩;refine aZ c9 rfl rfl fun σ3 f3 f7 d2=>?_;have d2:St σ3 E (nvC x xq xk):=d2;have a3:Frm σ1 σ3 NoB:=b2.fresh f3 fun j hj h=>by omega
 have h3:=h1.frm a3;have c4:=a3.fr d6;have d8:=a3.stN b7;have i5:=h3.lt;clear b2 f3 c9;refine tQ (by decide) c4 fun σ4 a8 i2 f0=>?_;have h4:=h3.frm a8;rw[aB (a8.stN d8) (i:=1) rfl];simp only[wpS];rw[aV,ldVs h4.st];unfold vD;simp only[wpS];have a9:Frm σ σ3 (· =B):=b3.seq a3.no;have b0:aN σ3 (fun j=>j=B\/j=A) 8 (vlR 8 σ3 fun j=>j=B\/j=A) q w.vals:=dJ a9 b8 d3 b1;have c7:Emp σ3 (fun j=>j=B\/j=A) q:=g4.step a9 b8 d3;have e0:VlP 8 σ3 (fun j=>j=B\/j=A) m1.v m1.vq m1.vp:=hr.v.step a9 b8 d3;refine uS (Y:=fun j=>j=B\/j=A) (x:=m1.v) eR wide_v (by decide) (by decide) (fun j hj=>by have:=a8.n;rcases hj with rfl|rfl<;>omega) f0 (by omega) (aN.wider eR b0 a8 (Nat.le_refl _)) (c7.wider a8 (Nat.le_refl _)) (by omega) (by decide) (a8.fr c4) (by omega) (eR.wider (rK.2 ⟨_,_,_,_,rfl,e0⟩) a8 (Nat.le_refl _)) (fun τ hτ=>cQ (ldVs (hτ.st h4.st (by omega))) rfl) rfl fun σ5 rb p5 c5 css5 f2 f1=>?_;have a2:Frm σ3 σ5 NoB:=a8.fresh f2 fun j hj h=>by omega
 have h5:=h3.frm a2;have el:(w.vals++[m1.v]).length=w.vals.length+1:=by simp
 rw[<-el];refine aT (i:=1) (a2.stN d8) (by simp[dwC]) rfl fun σ6 b9 i0 a6=>?_;have a6:St σ6 A (dwC {w with vals:=w.vals++[m1.v]} (some p5) c5 p):=a6;have a0:Frm σ σ6 (· =B):=(a9.seq a2.no).trans b9 (fun _ _ h=>h) fun j hj h=>by omega
 have f7:=a3.n;have i1:=a2.n;have a7:St σ6 E (nvC x xq xk):=b9.st (a2.stN d2) (by omega);have d7:=f1.frm eR b9 fun _ _ h=>.inr h;have e3:aN σ6 (· =B) 8 (vlR 8 σ6 (· =B)) (some p5) (w.vals++[m1.v]):=dJ (S:=NoB) (Frm.refl _ _) (fun _ _ h=>h.elim) (fun _ _ h=>.inl h) (d7.close eR (by decide));have c6:Emp σ6 (· =B) (some p5):=(d7.emp).step (S:=NoB) (Frm.refl _ _) (fun _ _ h=>h.elim) fun _ _ h=>.inl h;have b6:=EnR_step a0 b8 b8 _ _ g3;have h6:Dm σ6 B T N D n m1.nc.length m1:=⟨b9.st h5.st (by omega),hr.step a0 fun _ _ h=>h⟩;have c3:=a0.fr e9;have a5:aN σ6 (· =B) 1 gE xq x.kids:=aN.step ((a3.seq a2).no.seq b9) (fun _ _ h=>.inr h) (fun _ _ h=>.inl h) (fun _ _ h=>h) e6;clear a3 a2 b9 e6 f1 d7 b1 b0 c7 e0 d8 d2 h3 h4 h5 a8 f0 f2 e2;have goes:∀{τ:aC} {j:Nat} {e:En} {pe:Option Addr} {K:Pg} {Q:bW},Frm σ6 τ NoB->∀hj:j<x.kids.length,(x.x.k=11->j%2=0)->EnR 8 τ (· =B) e pe->eOK N m1.cells.length e->(∀σ',QD σ B T N D (n+1) (.tuple #[]) σ'->Wp aG ovD K σ' Q)->Wp aG ovD (.call 124 [bI B,.int .i64 ((x.kids[j]:Nat):Int),.pointer pe] fun v=>bM v fun l=>aH l K) τ Q:=by intro τ j e pe K Q hτ hj g7 he ho k;have okk:=e7 j hj g7;rw[vB hj]at okk;exact fN (qQ (h6.frm hτ) he okk ho) (a0.seq hτ.no) fun σ' hq=>k σ' hq.suc
 rw[aB a7 (i:=0) rfl];simp only[wpS];rw[aA];split
 ·
  rename_i c8;have hl:=e8 (by simpa using c8) rfl;have e5:1<x.kids.length:=by omega
  rw[aB a7 (i:=4) rfl];simp only[wpS];refine iT a5 (i:=1) (o:=0) rfl e5 rfl (by decide) rfl fun y cs a4=>?_;unfold gE at a4;subst a4;refine⟨_,rfl,fun g0=>?_⟩;simp only[wpS];rw[aB a7 (i:=2) rfl];simp only[wpS];rw[aV,ldVs h6.st];unfold vD;simp only[wpS];rw[aB a6 (i:=2) rfl];simp only[wpS];refine aJ fun σ7 d0 g9 g6=>?_;rw[bC,aO];refine⟨bF (g0.frm d0) (bF ((Kp.st a7 (i:=4) rfl).frm d0) rfl),?_⟩;have g5:EnR 8 σ7 (· =B) (.cons x.x.nm m1.v w.env) (some ⟨σ6.n,0,some 0⟩):=iF (cs:=vD m1.v m1.vq m1.vc m1.vp m1.vk) (pu:=p) g6 (by have:=h6.lt;omega) (rK.2 ⟨_,_,_,_,rfl,h6.r.v.frmN d0⟩) (b6.frmN d0);refine goes d0 e5 (fun h=>by simp at c8;omega) g5 (eD.2 ⟨hr.pv,oe⟩) fun σ' hq=>?_;simp only[wpS,T113k2];exact⟨_,rfl,hq⟩
 rw[aA];split
 ·
  rename_i c10;have hl:=c1 (by simpa using c10) rfl;rw[show aadd (aadd ⟨B,0,some 0⟩ 21) 0=aadd ⟨B,0,some 0⟩ 21 from rfl,aB h6.st (i:=21) rfl];simp only[wpS];rw[aA];split
  ·refine fN (jN h6) a0 fun σ' hq=>?_;simp only[wpS,T113k1,T113k2];exact⟨_,rfl,hq.suc⟩
  rw[show aadd (aadd ⟨B,0,some 0⟩ 21) 1=aadd ⟨B,0,some 0⟩ 22 from rfl,aB h6.st (i:=22) rfl];simp only[wpS];rw[aA];split
  ·rw[aB a7 (i:=4) rfl];simp only[wpS];refine jH a5 (i:=1) (o:=0) rfl (by omega) rfl (by decide) rfl fun cs a4=>?_;unfold gE at a4;subst a4;refine⟨_,rfl,?_⟩;simp only[wpS];rw[aB a6 (i:=2) rfl];simp only[wpS];refine goes (Frm.refl _ _) (by omega) (fun h=>by simp at c10;omega) b6 oe fun σ' hq=>?_;simp only[wpS,T113k0,T113k1,T113k2];exact⟨_,rfl,hq⟩
  ·rw[aB a7 (i:=4) rfl];simp only[wpS];refine jH a5 (i:=2) (o:=0) rfl (by omega) rfl (by decide) rfl fun cs a4=>?_;unfold gE at a4;subst a4;refine⟨_,rfl,?_⟩;simp only[wpS];rw[aB a6 (i:=2) rfl];simp only[wpS];refine goes (Frm.refl _ _) (by omega) (fun h=>by simp at c10;omega) b6 oe fun σ' hq=>?_;simp only[wpS,T113k0,T113k1,T113k2];exact⟨_,rfl,hq⟩
 rw[aA];split
 ·
  rename_i c11;rw[aL a7 7 rfl];unfold nvC;simp only[wpS];rw[aB a6 (i:=2) rfl];simp only[wpS];subst hx;refine fN (wp_matchD g h6 hi (by simpa using c11) (q:=xq) (c:=xk) a5 b6 oe) a0 fun σ' hq=>?_;simp only[wpS,T113k2];exact⟨_,rfl,hq.suc⟩
 rename_i c11;rw[aA];split
 ·
  rename_i c12;have hl:=c0 (by simpa using c12) rfl;rw[aB a7 (i:=4) rfl];simp only[wpS];refine jH a5 (i:=1) (o:=0) rfl (by omega) rfl (by decide) rfl fun cs a4=>?_;unfold gE at a4;subst a4;refine⟨_,rfl,?_⟩;simp only[wpS];rw[aB a6 (i:=2) rfl];simp only[wpS];refine goes (Frm.refl _ _) (by omega) (fun h=>by simp at c12;omega) b6 oe fun σ' hq=>?_;simp only[wpS,T113k2];exact⟨_,rfl,hq⟩
 simp only[wpS,T113k2];rw[aB a6 (i:=1) rfl];simp only[wpS];rw[aB a7 (i:=4) rfl];simp only[wpS];have d9:lOK N m1.cells.length (w.vals++[m1.v]):=qN ov (rG hr.pv);rw[aA];by_cases b5:(w.vals++[m1.v]).length<x.kids.length
 ·rw[if_pos (by simp at b5 ⊢;omega),aL a6 6 rfl];unfold dwC;simp only[wpS];refine fN (wp_kidD g h6 hn c3 (w:={w with vals:=w.vals++[m1.v]}) (q:=some p5) (p:=p) (c:=c5) e3 c6 b6 ⟨oe,d9,fun _=>⟨i,d1,hi,by rw[hx];exact hp,by rw[hx];exact b5,fun h=>by rw[ht]at h;cases h⟩⟩ hc (fun h=>by rw[ht]at h;cases h) (fun j hj i3 h=>?_)) a0 fun σ' hq=>?_
  ·have:j=i:=by rw[d1]at hj;omega
   subst this;rw[hx]at h;simp[h]at c11
  simp only[wpS];exact⟨_,rfl,hq⟩
 ·rw[if_neg (by simp at b5 ⊢;omega),aL a7 7 rfl];unfold nvC;simp only[wpS];rw[aL a6 6 rfl];unfold dwC;simp only[wpS];refine fN (wp_does g h6 hn c3 (x:=x) (q:=xq) (c:=xk) (w:={w with vals:=w.vals++[m1.v]}) (wq:=some p5) (p:=p) (wc:=c5) e3 c6 d9 (by simp) (by simp;omega)) a0 fun σ' hq=>?_;simp only[wpS];exact⟨_,rfl,hq⟩
end
section
variable{σ σ':aC}{B:Nat}{T:TrA}{N:List NV}{D:List Dc}{n b:Nat}{m:DS}
theorem wp_StepD(g:bZ N D)(h:Dm σ B T N D n m.nc.length m)(hn:n<=900000)(a2:eS σ):WpF aG ovD 86 [bI B] σ fun v σ'=>(∃d,v=.bool d)/\Frm σ σ' (· =B)/\∃m,Dm σ' B T N D (n+1) m.nc.length m:=by
 refine WpF.of (T86_eq _) rfl ?_;rw[T86];simp only[wpS];rw[aB h.st (i:=6) rfl];simp only[wpS];rw[aA];split
 ·simp only[wpS];exact⟨_,rfl,⟨_,rfl⟩,Frm.refl _ _,m,h.st,h.r.suc⟩
 rw[aB h.st (i:=16) rfl];simp only[wpS];refine aT (i:=16) h.st (by simp[dmC]) rfl fun σ1 a1 b0 a5=>?_;have h1:Dm σ1 B T N D n m.nc.length {m with steps:=aP (m.steps+1)}:=⟨a5,DR.step (S:=(· =B)) {h.r with} a1 fun _ _ h=>h⟩;have a0:=a1.fr a2;rw[aB h1.st (i:=20) rfl];simp only[wpS];rw[aA];split
 ·refine fN (wp_beginD g (m:={m with steps:=aP (m.steps+1)}) h1 hn a0) a1 fun σ2 hq=>?_;simp only[wpS];exact⟨_,rfl,⟨_,rfl⟩,hq.2.1,hq.2.2⟩
 rw[aB h1.st (i:=29) rfl];simp only[wpS];rw[aA];split
 ·rw[aV,ldVs h1.st];unfold vD;simp only[wpS];refine aT (i:=6) h1.st (by simp[dmC]) rfl fun σ2 a7 a9 a4=>?_;refine yH (i:=7) a4 (by simp[dmC]) rfl fun σ3 a6 a8 a3=>?_;simp only[wpS];have hF:=a7.seq a6;exact⟨_,rfl,⟨_,rfl⟩,a1.seq hF,{m with steps:=aP (m.steps+1),over:=1,fv:=m.v,fq:=m.vq,fc:=m.vc,fp:=m.vp,fk:=m.vk},a3,DR.step (S:=(· =B)) {h1.r.suc with} hF fun _ _ h=>h⟩
 ·rename_i hk;refine fN (wp_comesD g (m:={m with steps:=aP (m.steps+1)}) h1 hn a0 (fun e=>hk (by have e:m.k=[]:=e;simp[e]))) a1 fun σ2 hq=>?_;simp only[wpS];exact⟨_,rfl,⟨_,rfl⟩,hq.2.1,hq.2.2⟩
theorem wp_RunD(g:bZ N D)(h:Dm σ B T N D 0 m.nc.length m)(a2:eS σ)(r:Nat)(hr:r<=900000):WpF aG ovD 54 [bI B,.int .i64 ((r:Nat):Int)] σ fun v σ'=>(∃i,v=.int .i64 i)/\Frm σ σ' (· =B)/\∃n m,Dm σ' B T N D n m.nc.length m:=by
 refine WpF.of (T54_eq _ _) rfl ?_;rw[T54];refine Wp.count r (fun j st σ'=>st=[.int .i64 ((j:Nat):Int)]/\Frm σ σ' (· =B)/\∃m,Dm σ' B T N D j m.nc.length m) ⟨rfl,Frm.refl _ _,m,h⟩ ?_ ?_
 ·rintro j st σ1 hj ⟨rfl,a0,m1,h1⟩;have ej:aP ((j:Int)+1)=((j+1:Nat):Int):=by rw[aS (by omega)];omega
  unfold T54b0;simp only[wpS];rw[aA,if_pos (by simp;omega),aE];refine WpF.mono (wp_StepD g h1 (by omega) (a0.fr a2)) ?_;rintro _ σ2 ⟨⟨d,rfl⟩,a1,m2,h2⟩;simp only[wpS,T54k1];rw[aA];split
  ·simp only[wpS,T54k0,ej];exact⟨trivial,a0.seq a1,m2,h2⟩
  ·simp only[wpS,T54k2];exact⟨_,rfl,⟨_,rfl⟩,a0.seq a1,_,m2,h2⟩
 ·rintro st σ1 ⟨rfl,a0,m1,h1⟩;unfold T54b0;simp only[wpS];rw[aA,if_neg (by simp)];simp only[wpS,T54k1];rw[aA,if_neg (by simp)];simp only[wpS,T54k2];exact⟨_,rfl,⟨_,rfl⟩,a0,_,m1,h1⟩
def m0D(l:List Int)(p:Option Addr)(c:Nat):DS:=⟨l,0,[],[],0,cK,0,0,false,0,.nil,false,cK,[],[],p,c,none,0,none,0,none,0,none,0,none,none,0,none,0,none,0,none,0⟩
theorem wp_NewD(g:bZ N D){pn pd p:Option Addr}{cn cd c:Nat}{l:List Int}(hT:gT σ NoB pn N pd D)(hi:aN σ NoB 1 oU p l)(hl:l.length<=1000000){Q:Value->aC->Prop}
  (hQ:∀σ' B,Frm σ σ' NoB->σ.n<=B->Dm σ' B ⟨pn,cn,pd,cd⟩ N D 0 0 (m0D l p c)->Q (bI B) σ'):WpF aG ovD 53 [trV pn N.length cn pd D.length cd,.slice p l.length c] σ Q:=by
 refine WpF.of (T53_eq _ _ _ _ _ _ _ _ _) rfl ?_;rw[T53];refine aJ fun σ1 a0 a5 a2=>?_;rw[aL a2 2 rfl];simp only[wpS];refine aJ fun σ2 a3 a4 a1=>?_;simp only[wpS];have hF:=a0.seq a3;have hY:∀j,j<σ.n->j=σ1.n->NoB j:=fun j hj h=>by have:=a0.n;omega
 exact⟨_,rfl,hQ σ2 σ1.n hF a0.n ⟨a1,hT.step (S:=NoB) hF (fun _ _ h=>h.elim) hY,hi.step (S:=NoB) hF (fun _ _ h=>h.elim) hY fun _ _ h=>h,aN.nil,Emp.none,aN.nil,Emp.none,VlP.plain rfl rfl,kT.2 rfl,aN.nil,Emp.none,Nat.le_refl _,aN.nil,Emp.none,Nat.le_refl _,⟨g.pos,g.root g.pos⟩,nV,xZ,eM,trivial,Nat.le_refl _,⟨Int.le_refl _,by show(0:Int)<=(l.length:Int);omega⟩,hl,Nat.le_refl _,Nat.le_refl _,Nat.le_refl _,Nat.le_refl _⟩⟩
theorem wp_BroadT(g:bZ N D){pn pd p:Option Addr}{cn cd c:Nat}{l:List Int}(hT:gT σ NoB pn N pd D)(hi:aN σ NoB 1 oU p l)(hl:l.length<=1000000)(a9:eS σ):WpF aG ovD 35 [trV pn N.length cn pd D.length cd,.slice p l.length c] σ fun v σ'=>(∃d,v=.bool d)/\Frm σ σ' NoB:=by
 refine WpF.of (T35_eq _ _ _ _ _ _ _ _ _) rfl ?_;rw[T35];refine aJ fun σ1 a3 a8 a5=>?_;generalize hA:σ.n=A at a5 a8;rw[aL a5 2 rfl];simp only[wpS];rw[aE];refine wp_NewD g (hT.frm a3) (hi.later a3) hl fun σ2 B a7 hB h2=>?_;simp only[wpS];rw[aE];have a1:=a3.seq a7;rw[show(2000:Int)=((2000:Nat):Int) from rfl];refine WpF.mono (wp_RunD (m:=m0D l p c) g h2 (a1.fr a9) 2000 (by decide)) ?_;rintro _ σ3 ⟨⟨i,rfl⟩,a6,n,m,h3⟩;have a0:Frm σ σ3 NoB:=a1.fresh a6 fun j hj h=>by have:=a3.n;omega
 have a2:=a6.st (a7.stN a5) (by omega);simp only[wpS];rw[aB h3.st (i:=17) rfl];simp only[wpS];have fin:∀d:Bool,Wp aG ovD (T35k3 (some ⟨B,0,some 0⟩) ⟨A,0,some 0⟩ .normal [.bool d]) σ3 fun _ vs σ'=>∃v,vs=[v]/\(∃d,v=.bool d)/\Frm σ σ' NoB:=by
  intro d;simp only[wpS,T35k3];rw[aA];split
  ·rw[aB h3.st (i:=17) rfl];simp only[wpS];exact⟨_,rfl,⟨_,rfl⟩,a0⟩
  have b0:=hT.nl;refine Wp.count N.length (fun j st σ'=>st=[.int .i64 ((j:Nat):Int),.bool false]/\σ'=σ3) ⟨rfl,rfl⟩ ?_ ?_
  ·rintro j st σ4 hj ⟨rfl,rfl⟩;have ej:aP ((j:Int)+1)=((j+1:Nat):Int):=by rw[aS (by omega)];omega
   unfold T35b0;simp only[wpS];rw[aB a2 (i:=0) rfl];simp only[wpS];rw[aA,if_pos (by simp;omega)];simp only[wpS];rw[aB a2 (i:=0) rfl];simp only[wpS];have hN:=(hT.frm a0).tree.nodes;refine cR hN hj rfl (o:=0) (by decide) fun cs a4=>?_;obtain⟨q,k,rfl,_⟩:=id a4;refine⟨_,rfl,?_⟩;simp only[wpS];have next:∀e:Bool,Wp aG ovD (T35k0 false .normal [.bool e]) σ4 fun e vs σ'=>Wp aG ovD (T35k1 ((j:Nat):Int) e vs) σ' fun e st' σ'=>match e with
     |.normal=>st'=[.int .i64 ((j+1:Nat):Int),.bool false]/\σ'=σ4
     |e=>Wp aG ovD (T35k2 e st') σ' fun _ vs σ'=>∃v,vs=[v]/\(∃d,v=.bool d)/\Frm σ σ' NoB:=by
    intro e;simp only[wpS,T35k0];rw[aA];split
    ·simp only[wpS,T35k1,T35k2];exact⟨_,rfl,⟨_,rfl⟩,a0⟩
    ·simp only[wpS,T35k1,ej];exact⟨trivial,trivial⟩
   rw[aA];split
   ·rw[aB a2 (i:=0) rfl];simp only[wpS];refine cR hN hj rfl (o:=4) (by decide) fun cs a4=>?_;obtain⟨q,k,rfl,_⟩:=a4;refine⟨_,rfl,?_⟩;simp only[wpS];exact next _
   ·simp only[wpS];exact next _
  ·rintro st σ4 ⟨rfl,rfl⟩;unfold T35b0;simp only[wpS];rw[aB a2 (i:=0) rfl];simp only[wpS];rw[aA,if_neg (by simp)];simp only[wpS,T35k2];exact⟨_,rfl,⟨_,rfl⟩,a0⟩
 rw[aA];split
 ·rw[aB h3.st (i:=6) rfl];simp only[wpS];exact fin _
 ·simp only[wpS];exact fin _
theorem wp_Broad(S:List UInt8){p:Option Addr}{c:Nat}{l:List Int}(hi:aN σ NoB 1 oU p l)(hl:l.length<=1000000)(b0:eS σ):WpF aG ovD 21 [.string (mkB S),.slice p l.length c] σ fun v σ'=>(∃d,v=.bool d)/\Frm σ σ' NoB:=by
 refine WpF.of (T21_eq _ _ _ _) rfl ?_;rw[T21,aA];split
 ·simp only[wpS];exact⟨_,rfl,⟨_,rfl⟩,Frm.refl _ _⟩
 rw[aE];refine yY S ?_ ?_
 ·intro _ e a σ1 a6 he;simp only[wpS];refine aJ fun σ2 a5 a9 a3=>?_;refine aZ a3 rfl rfl fun σ3 a4 a8 a7=>?_;rw[aF,aA,if_neg (by simpa using he)];simp only[wpS,T21k0];exact⟨_,rfl,⟨_,rfl⟩,a6.seq (a5.fresh a4 fun j hj h=>by omega)⟩
 ·intro N D a2 pn cn pd cd σ1 a6 hT hK hD hC hA _;have hg:bZ N D:=vX a2;have b3:=hg.most;have b2:gT σ1 NoB pn N pd D:=(⟨hT,by omega,hD,hC,hK,hA⟩:gT σ1 (fun j=>j<σ.n) pn N pd D).low;simp only[wpS];refine aJ fun σ2 a5 a9 a3=>?_;refine aZ a3 rfl rfl fun σ3 a4 a8 a7=>?_;have a1:Frm σ1 σ3 NoB:=a5.fresh a4 fun j hj h=>by omega
  have a0:=a6.seq a1;rw[aF,aA,if_pos (by rfl),aL a7 2 rfl];simp only[wpS];rw[aE];refine WpF.mono (wp_BroadT hg (b2.frm a1) (hi.later a0) hl (a0.fr b0)) ?_;rintro _ σ4 ⟨⟨d,rfl⟩,b1⟩;simp only[wpS,T21k0];exact⟨_,rfl,⟨_,rfl⟩,a0.seq b1⟩
end
end Go.Pg
