/- FlB, FlC, FlD, FlE, FlF, FlG, CvX, MvA, McB, McC, MvB, LxP, GdA, GdB, GdC, GdD, GdE, MvC -/
import Derived.Test.YtkbefekajgfldaaGreatDoorU5
set_option maxHeartbeats 1000000
namespace Go.Pg
open Go.Proofs Go.Utf8 Go.Lib
set_option linter.unusedSimpArgs false
theorem wJ{l:List (List UInt8)}:∀{i k:Nat} (hi:i<l.length) (hk:k<i),l[i]=l[k]->cP l=true:=by
 induction l with
 |nil=>intro i k hi;exact absurd hi (Nat.not_lt_zero _)
 |cons s l ih=>
  intro i k hi hk h;rw[cP,Bool.or_eq_true];cases i with
  |zero=>omega
  |succ i=>
   have a0:i<l.length:=by simpa using hi
   cases k with
   |zero=>left;rw[List.contains_iff_mem];simp only[List.getElem_cons_succ,List.getElem_cons_zero]at h;rw[<-h];exact List.getElem_mem _
   |succ k=>exact .inr (ih (k:=k) a0 (by omega) (by simpa using h))
theorem qz{l:List (List UInt8)}:(∀i k (hi:i<l.length) (hk:k<i),l[i]≠l[k])->cP l=false:=by
 induction l with
 |nil=>intro _;try rfl
 |cons s l ih=>
  intro h;rw[cP,Bool.or_eq_false_iff];constructor
  ·rw[Bool.eq_false_iff];intro hc;rw[List.contains_iff_mem]at hc;obtain⟨i,hi,he⟩:=List.getElem_of_mem hc;exact h (i+1) 0 (by simpa using hi) (by omega) (by simpa using he)
  ·exact ih fun i k hi hk he=>h (i+1) (k+1) (by simpa using hi) (by omega) (by simpa using he)
section
variable{σ σ':aC}{P:Program}{ov:Ov}
theorem cR{β:Type}{Y:Nat->Prop}{c:Nat}{R:List Value->β->Prop}{p:Option Addr}{ts:List β}(h:aN σ Y c R p ts){i n o:Nat}(hi:i<ts.length)(hn:n=ts.length)(ho:o<c){f:Value->Pg}{Q:bW}
  (k:∀cs,R cs ts[i]->∃v,cs[o]?=some v/\Wp P ov (f v) σ Q):
  Wp P ov (aD p fun a=>grd (decide (0<=((i:Nat):Int))&&decide (((i:Nat):Int)<((n:Nat):Int))) (.act (ld1 (aadd (aadd a (Int.toNat ((i:Nat):Int)*c)) o)) f)) σ Q:=by
 subst hn;obtain⟨x,cs,rfl,_,h2,h3⟩:=h i hi;obtain⟨v,h4,h5⟩:=k cs h3;have e:(decide (0<=((i:Nat):Int))&&decide (((i:Nat):Int)<((ts.length:Nat):Int)))=true:=by simp;omega
 simp only[bP];rw[aO,e,Int.toNat_natCast,aV];have hl:=(List.getElem?_eq_some_iff.1 h4).1;have e2:ld1 (aadd (aadd x (i*c)) o) σ=some (v,σ):=by
  unfold ld1;rw[nG (o:=o) (k:=1) h2 (by omega),List.drop_eq_getElem_cons hl,List.take_succ_cons,List.take_zero,(List.getElem?_eq_some_iff.1 h4).2]
 rw[e2];exact⟨rfl,h5⟩
theorem cN{β:Type}{Y:Nat->Prop}{R:List Value->β->Prop}{p:Option Addr}{ts:List β}(h:aN σ Y 1 R p ts){i n:Nat}(hi:i<ts.length)(hn:n=ts.length){f:Value->Pg}{Q:bW}
  (k:∀cs,R cs ts[i]->∃v,cs=[v]/\Wp P ov (f v) σ Q):
  Wp P ov (aD p fun a=>grd (decide (0<=((i:Nat):Int))&&decide (((i:Nat):Int)<((n:Nat):Int))) (.act (ld1 (aadd a (Int.toNat ((i:Nat):Int)*1))) f)) σ Q:=by
 refine cR h hi hn (o:=0) (by decide) fun cs a0=>?_;obtain⟨v,rfl,h2⟩:=k cs a0;exact⟨v,rfl,h2⟩
theorem aN.frmM{β:Type}{R:aC->(Nat->Prop)->List Value->β->Prop}(hM:mI R){Y:Nat->Prop}{c:Nat}{p:Option Addr}{ts:List β}(h:aN σ Y c (R σ Y) p ts)(f:Frm σ σ' NoB):aN σ' Y c (R σ' Y) p ts:=
 aN.step (S:=NoB) f (fun _ _ h=>h.elim) (fun _ _ h=>h) (fun _ _ h=>hM _ _ _ _ _ _ _ f (fun _ _ h=>h.elim) (fun _ _ h=>h) h) h
theorem sL{Y:Nat->Prop}{l:List (List UInt8)}{p:Option Addr}{c:Nat}(h:aN σ Y 1 (rJ σ Y) p l)(hl:l.length<=1000000000):
  WpF aG ovD 100 [.slice p l.length c] σ fun v σ'=>v=.bool (cP l)/\σ'=σ:=by
 refine WpF.of (T100_eq _ _ _) rfl ?_;rw[T100];refine Wp.count l.length (fun j st σ'=>σ'=σ/\st=[.int .i64 ((j:Nat):Int),.bool false]/\∀i k (hi:i<l.length) (hk:k<i),i<j->l[i]≠l[k]) ⟨rfl,rfl,fun i k _ _ h=>by omega⟩ ?_ ?_
 ·rintro j st σ' hj ⟨rfl,rfl,a0⟩;have ej:aP ((j:Int)+1)=((j+1:Nat):Int):=by rw[aS (by omega)];omega
  unfold T100b1;simp only[wpS];rw[aA,if_pos (by simp;omega),aF];refine Wp.count j (fun m st σ1=>σ1=σ'/\st=[.int .i64 ((m:Nat):Int),.bool false]/\∀k (hk:k<j),k<m->l[j]≠l[k]) ⟨rfl,rfl,fun k _ h=>by omega⟩ ?_ ?_
  ·rintro m st σ1 hm ⟨rfl,rfl,a1⟩;have em:aP ((m:Int)+1)=((m+1:Nat):Int):=by rw[aS (by omega)];omega
   unfold T100b0;simp only[wpS];rw[aA,if_pos (by simp;omega),aF];refine cN h hj rfl fun cs a3=>⟨_,a3,?_⟩;simp only[wpS];refine cN h (by omega:m<l.length) rfl fun cs a3=>⟨_,a3,?_⟩;simp only[wpS,eP];rw[aA];by_cases he:l[j]=l[m]
   ·rw[if_pos (by simpa using he)];simp only[wpS,T100k0,T100k1,T100k2,T100k3];rw[wJ hj hm he];exact⟨_,rfl,rfl,trivial⟩
   ·rw[if_neg (by simpa using he)];simp only[wpS,T100k0,em];refine⟨trivial,trivial,fun k hk a4=>?_⟩;by_cases a2:k=m
    ·subst a2;exact he
    ·exact a1 k hk (by omega)
  ·rintro st σ1 ⟨rfl,rfl,a1⟩;unfold T100b0;simp only[wpS];rw[aA,if_neg (by simp)];simp only[wpS,T100k1,T100k2,ej];refine⟨trivial,trivial,fun i k hi hk a5=>?_⟩;by_cases h2:i=j
   ·subst h2;exact a1 k hk hk
   ·exact a0 i k hi hk (by omega)
 ·rintro st σ' ⟨rfl,rfl,a0⟩;unfold T100b1;simp only[wpS];rw[aA,if_neg (by simp)];simp only[wpS,T100k3];rw[qz fun i k hi hk=>a0 i k hi hk hi];exact⟨_,rfl,rfl,trivial⟩
structure dL(σ:aC)(Y:Nat->Prop)(pn:Option Addr)(N:List NV)(pd:Option Addr)(D:List Dc):Prop where
 nodes:aN σ Y 7 (nvR σ Y) pn N
 decls:aN σ Y 2 (dcR σ Y) pd D
theorem dL.step{S Y Y':Nat->Prop}{pn pd:Option Addr}{N:List NV}{D:List Dc}(h:dL σ Y pn N pd D)(f:Frm σ σ' S)(hS:∀j,j<σ.n->S j->Y j)(hY:∀j,j<σ.n->Y' j->Y j):dL σ' Y' pn N pd D:=
 ⟨h.nodes.step f hS hY fun _ _ h=>dG _ _ _ _ _ _ _ f hS hY h,h.decls.step f hS hY fun _ _ h=>cW _ _ _ _ _ _ _ f hS hY h⟩
theorem dL.frm{Y:Nat->Prop}{pn pd:Option Addr}{N:List NV}{D:List Dc}(h:dL σ Y pn N pd D)(f:Frm σ σ' NoB):dL σ' Y pn N pd D:=dL.step (S:=NoB) (Y':=Y) h f (fun _ _ h=>h.elim) fun _ _ h=>h
abbrev trV(pn:Option Addr)(n cn:Nat)(pd:Option Addr)(d cd:Nat):Value:=.agg #[.slice pn n cn,.slice pd d cd]
theorem ofC_at(s:List UInt8):∀(l:List Cn) (c j:Nat) (hj:j<l.length),(∀i (hi:i<j),l[i].nm≠s)->l[j].nm=s->ofC s c l=some (c+j,l[j].args.length)
 |x::l,c,0,_,_,h=>by rw[List.getElem_cons_zero]at h;rw[ofC,if_pos h];try rfl
 |x::l,c,j+1,hj,h0,h=>by have hx:x.nm≠s:=h0 0 (by omega);rw[ofC,if_neg hx,ofC_at s l (c+1) j (by simpa using hj) (fun i hi=>by simpa using h0 (i+1) (by omega)) (by simpa using h)];simp only[List.getElem_cons_succ,Option.some.injEq,Prod.mk.injEq,and_true];omega
theorem ofC_no(s:List UInt8):∀(l:List Cn) (c:Nat),(∀i (hi:i<l.length),l[i].nm≠s)->ofC s c l=none
 |[],_,_=>rfl
 |x::l,c,h=>by have hx:x.nm≠s:=h 0 (by simp);rw[ofC,if_neg hx,ofC_no s l (c+1) fun i hi=>by have q:=h (i+1) (by simpa using hi);rwa[List.getElem_cons_succ]at q]
theorem ofD_at(s:List UInt8):∀(l:List Dc) (d j:Nat) (hj:j<l.length),(∀i (hi:i<j),ofC s 0 l[i].cons=none)->∀x,ofC s 0 l[j].cons=some x->ofD s d l=some (d+j,x.1,x.2)
 |y::l,d,0,_,_,x,h=>by rw[List.getElem_cons_zero]at h;rw[ofD,h];try rfl
 |y::l,d,j+1,hj,h0,x,h=>by have hy:ofC s 0 y.cons=none:=h0 0 (by omega);rw[ofD,hy];simp only;rw[ofD_at s l (d+1) j (by simpa using hj) (fun i hi=>by simpa using h0 (i+1) (by omega)) x (by simpa using h)];simp only[Option.some.injEq,Prod.mk.injEq,and_true];omega
theorem ofD_no(s:List UInt8):∀(l:List Dc) (d:Nat),(∀i (hi:i<l.length),ofC s 0 l[i].cons=none)->ofD s d l=none
 |[],_,_=>rfl
 |y::l,d,h=>by have hy:ofC s 0 y.cons=none:=h 0 (by simp);rw[ofD,hy];exact ofD_no s l (d+1) fun i hi=>by have q:=h (i+1) (by simpa using hi);rwa[List.getElem_cons_succ]at q
def ofV(x:Option (Nat×Nat×Nat)):Value:=match x with
 |some (d,c,_)=>.tuple #[.int .i64 ((d:Nat):Int),.int .i64 ((c:Nat):Int),.bool true]
 |none=>.tuple #[.int .i64 0,.int .i64 0,.bool false]
theorem sZ(d c n:Nat):ofV (some (d,c,n))=.tuple #[.int .i64 ((d:Nat):Int),.int .i64 ((c:Nat):Int),.bool true]:=rfl
theorem yk:ofV none=.tuple #[.int .i64 0,.int .i64 0,.bool false]:=rfl
theorem wp_Of79{Y:Nat->Prop}{pn pd:Option Addr}{n cn cd:Nat}{D:List Dc}(h:aN σ Y 2 (dcR σ Y) pd D)(hD:D.length<=1000000)(hC:∀d∈D,d.cons.length<=1000000)(s:List UInt8):
  WpF aG ovD 103 [trV pn n cn pd D.length cd,.string (mkB s)] σ fun v σ'=>v=ofV (ofD s 0 D)/\Frm σ σ' NoB:=by
 refine WpF.of (T103_eq _ _ _ _ _ _ _) rfl ?_;rw[T103];refine aJ fun σ1 a7 a8 a2=>?_;generalize σ.n=A at a2;have h1:=h.frmM cW a7;refine Wp.count D.length (fun j st σ'=>σ'=σ1/\st=[.int .i64 ((j:Nat):Int),.bool false,.int .i64 0,.int .i64 0]/\∀i (hi:i<D.length),i<j->ofC s 0 D[i].cons=none) ⟨rfl,rfl,fun i _ h=>by omega⟩ ?_ ?_
 ·rintro j st σ' hj ⟨rfl,rfl,a0⟩;have ej:aP ((j:Int)+1)=((j+1:Nat):Int):=by rw[aS (by omega)];omega
  have b1:=hC _ (List.getElem_mem hj);unfold T103b1;simp only[wpS];rw[aB a2 rfl];simp only[wpS];rw[aA,if_pos (by simp;omega),aF];refine Wp.count D[j].cons.length (fun m st σ2=>σ2=σ'/\st=[.int .i64 ((m:Nat):Int),.bool false,.int .i64 0,.int .i64 0]/\∀k (hk:k<D[j].cons.length),k<m->D[j].cons[k].nm≠s) ⟨rfl,rfl,fun k _ h=>by omega⟩ ?_ ?_
  ·rintro m st σ2 hm ⟨rfl,rfl,a4⟩;have em:aP ((m:Int)+1)=((m+1:Nat):Int):=by rw[aS (by omega)];omega
   unfold T103b0;simp only[wpS];rw[aB a2 rfl];simp only[wpS];refine cR h1 hj rfl (o:=1) (by decide) fun cs a1=>?_;obtain⟨q,k,rfl,a5⟩:=a1;refine⟨_,rfl,?_⟩;simp only[wpS];rw[aA,if_pos (by simp;omega),aF,aB a2 rfl];simp only[wpS];refine cR h1 hj rfl (o:=1) (by decide) fun cs a1=>?_;obtain⟨q',k',rfl,a3⟩:=a1;refine⟨_,rfl,?_⟩;simp only[wpS];refine cR a3 hm rfl (o:=0) (by decide) fun cs a1=>?_;obtain⟨q2,k2,rfl,_⟩:=a1;refine⟨_,rfl,?_⟩;simp only[wpS,eP];rw[aA];by_cases he:D[j].cons[m].nm=s
   ·rw[if_pos (by simpa using he)];simp only[wpS,T103k0,T103k1,T103k2,T103k3];have hc:=ofC_at s D[j].cons 0 m hm (fun i hi=>a4 i (by omega) hi) he;rw[ofD_at s D 0 j hj (fun i hi=>a0 i (by omega) hi) _ hc,sZ];simp only[Nat.zero_add];exact⟨_,rfl,rfl,a7⟩
   ·rw[if_neg (by simpa using he)];simp only[wpS,T103k0,em];refine⟨trivial,trivial,fun k hk a9=>?_⟩;by_cases a6:k=m
    ·subst a6;exact he
    ·exact a4 k hk (by omega)
  ·rintro st σ2 ⟨rfl,rfl,a4⟩;unfold T103b0;simp only[wpS];rw[aB a2 rfl];simp only[wpS];refine cR h1 hj rfl (o:=1) (by decide) fun cs a1=>?_;obtain⟨q,k,rfl,a5⟩:=a1;refine⟨_,rfl,?_⟩;simp only[wpS];rw[aA,if_neg (by simp)];simp only[wpS,T103k1,T103k2,ej];refine⟨trivial,trivial,fun i hi b0=>?_⟩;by_cases h2:i=j
   ·subst h2;exact ofC_no s _ 0 fun k hk=>a4 k hk hk
   ·exact a0 i hi (by omega)
 ·rintro st σ' ⟨rfl,rfl,a0⟩;unfold T103b1;simp only[wpS];rw[aB a2 rfl];simp only[wpS];rw[aA,if_neg (by simp)];simp only[wpS,T103k3];rw[ofD_no s D 0 fun i hi=>a0 i hi hi,yk];exact⟨_,rfl,rfl,a7⟩
end
def nvC(v:NV)(q:Option Addr)(c:Nat):List Value:=[.int .i64 v.x.k,.int .i64 v.x.n,.string (mkB v.x.nm),.string (mkB v.x.pm),.slice q v.kids.length c,.int .i64 v.x.fr,.int .i64 v.x.to]
theorem kidsK_len:eT.length=27:=rfl
section
variable{σ σ':aC}
theorem wp_shape78(v:NV)(hv:v.kids.length<=1000000)(q:Option Addr)(c:Nat):WpF aG ovD 102 [.agg (nvC v q c).toArray] σ fun w σ'=>w=.bool (bT v)/\Frm σ σ' NoB:=by
 refine WpF.of (T102_eq _ _ _ _ _ _ _ _ _) rfl ?_;rw[T102];refine aJ fun σ1 b7 b8 a9=>?_;generalize σ.n=A at a9;have a9:St σ1 A (nvC v q c):=a9;rw[aV,cM];have b3:=Frm.new σ1 (eT.map fun z=>Value.int .i64 z) 1 NoB;have b0:=Row.new σ1 1 (eT.map fun z=>Value.int .i64 z) 27 (by decide) rfl (by intro y hy;obtain⟨t,_,rfl⟩:=List.mem_map.1 hy;rfl);rw[show([(.int .i64 (-1)),(.int .i64 0),(.int .i64 0),(.int .i64 0),(.int .i64 0),(.int .i64 (-2)),(.int .i64 1),(.int .i64 2),(.int .i64 2),(.int .i64 2),(.int .i64 3),(.int .i64 (-3)),(.int .i64 2),(.int .i64 2),(.int .i64 2),(.int .i64 1),(.int .i64 1),(.int .i64 1),(.int .i64 0),(.int .i64 1),(.int .i64 2),(.int .i64 0),(.int .i64 0),(.int .i64 0),(.int .i64 0),(.int .i64 0),(.int .i64 (-2))]:List Value)=eT.map fun z=>Value.int .i64 z from rfl];generalize σ1.newBlk (eT.map fun z=>Value.int .i64 z) 1=σ2 at b3 b0 ⊢;generalize σ1.n=RB at b0 ⊢;have a0:=b3.stN a9;have a4:=b7.seq b3;simp only[wpS];have out18:∀τ,Frm σ τ NoB->bT v=false->Wp aG ovD (T102k18 ⟨A,0,some 0⟩ .ret [.bool false]) τ fun _ vs σ'=>∃w,vs=[w]/\w=.bool (bT v)/\Frm σ σ' NoB:=by intro τ hτ hf;simp only[wpS,T102k18];rw[hf];exact⟨_,rfl,rfl,hτ⟩
 have s18:∀τ b,Frm σ τ NoB->St τ A (nvC v q c)->bT v=tK v.x.k v.x.pm->Wp aG ovD (T102k18 ⟨A,0,some 0⟩ .normal [.bool b]) τ fun _ vs σ'=>∃w,vs=[w]/\w=.bool (bT v)/\Frm σ σ' NoB:=by
  intro τ b hτ hS hf;rw[hf];simp only[wpS,T102k18];rw[aB hS rfl];simp only[wpS];have s17:∀b:Bool,(b=true↔v.x.k=6\/v.x.k=9\/v.x.k=20)->Wp aG ovD (T102k17 ⟨A,0,some 0⟩ .normal [.bool b]) τ fun _ vs σ'=>∃w,vs=[w]/\w=.bool (tK v.x.k v.x.pm)/\Frm σ σ' NoB:=by
   intro b hb;simp only[wpS,T102k17];rw[aA];unfold tK;by_cases hk:v.x.k=6\/v.x.k=9\/v.x.k=20
   ·rw[if_pos (hb.2 hk),aB hS rfl];simp only[wpS];rw[aE];refine ye _ fun τ2 hτ2=>?_;simp only[wpS];rw[if_pos hk];exact⟨_,rfl,rfl,hτ.seq hτ2⟩
   ·rw[if_neg fun h=>hk (hb.1 h),aB hS rfl];simp only[wpS,bR];rw[if_neg hk];exact⟨_,rfl,rfl,hτ⟩
  rw[aA];by_cases k6:v.x.k=6
  ·rw[if_neg (by simp[k6])];simp only[wpS];exact s17 true ⟨fun _=>.inl k6,fun _=>rfl⟩
  rw[if_pos (by simpa using k6),aB hS rfl];simp only[wpS];rw[aA];by_cases k9:v.x.k=9
  ·rw[if_neg (by simp[k9])];simp only[wpS];exact s17 true ⟨fun _=>.inr (.inl k9),fun _=>rfl⟩
  rw[if_pos (by simpa using k9),aB hS rfl];simp only[wpS];exact s17 _ (by rw[beq_iff_eq];exact⟨fun h=>.inr (.inr h),fun h=>by rcases h with h|h|h;exact absurd h k6;exact absurd h k9;exact h⟩)
 have s19:∀b,(bT v=(kK v.x.k v.x.nm&&tK v.x.k v.x.pm))->Wp aG ovD (T102k19 ⟨A,0,some 0⟩ .normal [.bool b]) σ2 fun _ vs σ'=>∃w,vs=[w]/\w=.bool (bT v)/\Frm σ σ' NoB:=by
  intro b hf;simp only[wpS,T102k19];rw[aB a0 rfl];simp only[wpS];have fin:∀(τ:aC) (o:Bool),Frm σ2 τ NoB->kK v.x.k v.x.nm=o->(o=false->Wp aG ovD (T102k18 ⟨A,0,some 0⟩ .ret [.bool false]) τ fun _ vs σ'=>∃w,vs=[w]/\w=.bool (bT v)/\Frm σ σ' NoB)/\(o=true->Wp aG ovD (T102k18 ⟨A,0,some 0⟩ .normal [.bool b]) τ fun _ vs σ'=>∃w,vs=[w]/\w=.bool (bT v)/\Frm σ σ' NoB):=by
   intro τ o hτ ho;refine⟨fun h=>out18 τ (a4.seq hτ) (by rw[hf,ho,h];rfl),fun h=>s18 τ b (a4.seq hτ) (hτ.stN a0) (by rw[hf,ho,h];rfl)⟩
  have s16:∀d:Bool,(d=true↔v.x.k=4\/v.x.k=8\/v.x.k=9\/v.x.k=22)->Wp aG ovD (T102k16 ⟨A,0,some 0⟩ b v.x.k .normal [.bool d]) σ2 fun e_1 vs σ'=>Wp aG ovD (T102k18 ⟨A,0,some 0⟩ e_1 vs) σ' fun _ vs σ'=>∃w,vs=[w]/\w=.bool (bT v)/\Frm σ σ' NoB:=by
   intro d hd;simp only[wpS,T102k16];rw[aA];by_cases hk:v.x.k=4\/v.x.k=8\/v.x.k=9\/v.x.k=22
   ·rw[if_pos (hd.2 hk),aB a0 rfl];simp only[wpS];rw[aE];refine ye _ fun τ hτ=>?_;simp only[wpS];have a3:=fin τ (uJ v.x.nm) hτ (by unfold kK;rw[if_pos hk]);rw[aA];cases a6:uJ v.x.nm with
    |false=>rw[if_pos (by rfl)];simp only[wpS,T102k15];exact a3.1 a6
    |true=>rw[if_neg (by simp)];simp only[wpS,T102k15];exact a3.2 a6
   rw[if_neg fun h=>hk (hd.1 h),aF,aA];have s14:∀d:Bool,(d=true↔v.x.k=5\/v.x.k=26)->Wp aG ovD (T102k14 ⟨A,0,some 0⟩ b v.x.k .normal [.bool d]) σ2 fun e_1 vs σ'=>Wp aG ovD (T102k15 e_1 vs) σ' fun e_1 vs σ'=>Wp aG ovD (T102k18 ⟨A,0,some 0⟩ e_1 vs) σ' fun _ vs σ'=>∃w,vs=[w]/\w=.bool (bT v)/\Frm σ σ' NoB:=by
    intro d hd;simp only[wpS,T102k14];rw[aA];by_cases a5:v.x.k=5\/v.x.k=26
    ·rw[if_pos (hd.2 a5),aB a0 rfl];simp only[wpS];rw[aE];refine ut _ fun τ hτ=>?_;simp only[wpS];have a3:=fin τ (conM v.x.nm) hτ (by unfold kK;rw[if_neg hk,if_pos a5]);rw[aA];cases a6:conM v.x.nm with
     |false=>rw[if_pos (by rfl)];simp only[wpS,T102k13,T102k15];exact a3.1 a6
     |true=>rw[if_neg (by simp)];simp only[wpS,T102k13,T102k15];exact a3.2 a6
    rw[if_neg fun h=>a5 (hd.1 h),aF,aA];by_cases a8:v.x.k=14
    ·rw[if_pos (by simpa using a8),aF,aB a0 rfl];simp only[wpS,bR];have b6:kK v.x.k v.x.nm=(decide (v.x.nm=[43])||decide (v.x.nm=[45])||decide (v.x.nm=[42])||decide (v.x.nm=[60])||decide (v.x.nm=[61])):=by unfold kK;rw[if_neg hk,if_neg a5,if_pos a8]
     have a3:=fin σ2 _ (Frm.refl _ _) b6;have s11:∀d:Bool,d=!(decide (v.x.nm=[43])||decide (v.x.nm=[45])||decide (v.x.nm=[42])||decide (v.x.nm=[60])||decide (v.x.nm=[61]))->Wp aG ovD (T102k11 b .normal [.bool d]) σ2 fun e_1 vs σ'=>Wp aG ovD (T102k12 e_1 vs) σ' fun e_1 vs σ'=>Wp aG ovD (T102k13 e_1 vs) σ' fun e_1 vs σ'=>Wp aG ovD (T102k15 e_1 vs) σ' fun e_1 vs σ'=>Wp aG ovD (T102k18 ⟨A,0,some 0⟩ e_1 vs) σ' fun _ vs σ'=>∃w,vs=[w]/\w=.bool (bT v)/\Frm σ σ' NoB:=by
      intro d hd;simp only[wpS,T102k11];rw[aA];cases d with
      |true=>rw[if_pos rfl];simp only[wpS,T102k12,T102k13,T102k15];exact a3.1 (by have h2:=congrArg Bool.not hd;rw[Bool.not_not]at h2;exact h2.symm)
      |false=>rw[if_neg (by simp)];simp only[wpS,T102k12,T102k13,T102k15];exact a3.2 (by have h2:=congrArg Bool.not hd;rw[Bool.not_not]at h2;exact h2.symm)
     rw[aA];by_cases m1:v.x.nm=[43]
     ·rw[if_neg (by simp[m1])];simp only[wpS];exact s11 false (by simp[m1])
     rw[if_pos (by simpa using m1),aB a0 rfl];simp only[wpS,bR];rw[aA];by_cases m2:v.x.nm=[45]
     ·rw[if_neg (by simp[m2])];simp only[wpS];exact s11 false (by simp[m2])
     rw[if_pos (by simpa using m2),aB a0 rfl];simp only[wpS,bR];rw[aA];by_cases m3:v.x.nm=[42]
     ·rw[if_neg (by simp[m3])];simp only[wpS];exact s11 false (by simp[m3])
     rw[if_pos (by simpa using m3),aB a0 rfl];simp only[wpS,bR];rw[aA];by_cases m4:v.x.nm=[60]
     ·rw[if_neg (by simp[m4])];simp only[wpS];exact s11 false (by simp[m4])
     rw[if_pos (by simpa using m4),aB a0 rfl];simp only[wpS,bR];exact s11 _ (by simp[m1,m2,m3,m4])
    ·rw[if_neg (by simpa using a8),aB a0 rfl];simp only[wpS,bR];have a3:=fin σ2 (decide (v.x.nm=[])) (Frm.refl _ _) (by unfold kK;rw[if_neg hk,if_neg a5,if_neg a8]);rw[aA];by_cases m1:v.x.nm=[]
     ·rw[if_neg (by simp[m1])];simp only[wpS,T102k12,T102k13,T102k15];exact a3.2 (by simp[m1])
     ·rw[if_pos (by simpa using m1)];simp only[wpS,T102k12,T102k13,T102k15];exact a3.1 (by simp[m1])
   by_cases k5:v.x.k=5
   ·rw[if_pos (by simpa using k5)];simp only[wpS];exact s14 _ (by rw[beq_iff_eq];exact⟨.inl,fun _=>k5⟩)
   ·rw[if_neg (by simpa using k5)];simp only[wpS];exact s14 _ (by rw[beq_iff_eq];exact⟨.inr,fun h=>h.elim (fun h=>absurd h k5) id⟩)
  rw[aA];by_cases k4:v.x.k=4
  ·rw[if_pos (by simpa using k4)];simp only[wpS];exact s16 _ (by rw[beq_iff_eq];exact⟨.inl,fun _=>k4⟩)
  rw[if_neg (by simpa using k4),aF,aA];by_cases k8:v.x.k=8
  ·rw[if_pos (by simpa using k8)];simp only[wpS,T102k10];exact s16 _ (by rw[beq_iff_eq];exact⟨fun h=>.inr (.inl h),fun _=>k8⟩)
  rw[if_neg (by simpa using k8),aF,aA];by_cases k9:v.x.k=9
  ·rw[if_pos (by simpa using k9)];simp only[wpS,T102k9,T102k10];exact s16 _ (by rw[beq_iff_eq];exact⟨fun h=>.inr (.inr (.inl h)),fun _=>k9⟩)
  rw[if_neg (by simpa using k9)];simp only[wpS,T102k9,T102k10];exact s16 _ (by rw[beq_iff_eq];exact⟨fun h=>.inr (.inr (.inr h)),fun h=>by rcases h with h|h|h|h;exact absurd h k4;exact absurd h k8;exact absurd h k9;exact h⟩)
 have s20:∀b,(bT v=(nK v.x.k v.x.n&&(kK v.x.k v.x.nm&&tK v.x.k v.x.pm)))->Wp aG ovD (T102k20 ⟨A,0,some 0⟩ .normal [.bool b]) σ2 fun _ vs σ'=>∃w,vs=[w]/\w=.bool (bT v)/\Frm σ σ' NoB:=by
  intro b hf;simp only[wpS,T102k20];rw[aB a0 rfl];simp only[wpS];have no:nK v.x.k v.x.n=false->Wp aG ovD (T102k7 .ret [.bool false]) σ2 fun e_1 vs σ'=>Wp aG ovD (T102k19 ⟨A,0,some 0⟩ e_1 vs) σ' fun _ vs σ'=>∃w,vs=[w]/\w=.bool (bT v)/\Frm σ σ' NoB:=by
   intro h;have a7:bT v=false:=by rw[hf,h];try rfl
   simp only[wpS,T102k7,T102k19];rw[a7];exact⟨_,rfl,rfl,a4⟩
  have yes:nK v.x.k v.x.n=true->Wp aG ovD (T102k7 .normal [.bool b]) σ2 fun e_1 vs σ'=>Wp aG ovD (T102k19 ⟨A,0,some 0⟩ e_1 vs) σ' fun _ vs σ'=>∃w,vs=[w]/\w=.bool (bT v)/\Frm σ σ' NoB:=by intro h;simp only[wpS,T102k7];exact s19 b (by rw[hf,h];rfl)
  have s8:∀d:Bool,(d=true↔v.x.k=1\/v.x.k=23)->Wp aG ovD (T102k8 ⟨A,0,some 0⟩ b v.x.k .normal [.bool d]) σ2 fun e_1 vs σ'=>Wp aG ovD (T102k19 ⟨A,0,some 0⟩ e_1 vs) σ' fun _ vs σ'=>∃w,vs=[w]/\w=.bool (bT v)/\Frm σ σ' NoB:=by
   intro d hd;simp only[wpS,T102k8];rw[aA];by_cases hk:v.x.k=1\/v.x.k=23
   ·have a1:nK v.x.k v.x.n=(decide (0<=v.x.n)&&decide (v.x.n<=4611686018427387903)):=by unfold nK;rw[if_pos hk]
    rw[if_pos (hd.2 hk),aF,aB a0 rfl];simp only[wpS];rw[aA];by_cases h0:v.x.n<0
    ·rw[if_neg (by simp[h0])];simp only[wpS,T102k3];rw[aA,if_pos rfl];simp only[wpS];exact no (by rw[a1];simp;omega)
    rw[if_pos (by simpa using h0),aB a0 rfl];simp only[wpS];rw[aE];refine WpF.of T118_eq rfl ?_;rw[T118];simp only[wpS];refine⟨_,rfl,?_⟩;simp only[wpS];rw[bC,aO];refine⟨kI (a0.ldF rfl),?_⟩;simp only[wpS,T102k3];rw[aA];by_cases h1:v.x.n>4611686018427387903
    ·rw[if_pos (by simpa using h1)];simp only[wpS];exact no (by rw[a1];simp;omega)
    ·rw[if_neg (by simpa using h1)];simp only[wpS];exact yes (by rw[a1];simp;omega)
   rw[if_neg fun h=>hk (hd.1 h),aF,aA];have s6:∀d:Bool,(d=true↔v.x.k=2\/v.x.k=24)->Wp aG ovD (T102k6 ⟨A,0,some 0⟩ b .normal [.bool d]) σ2 fun e_1 vs σ'=>Wp aG ovD (T102k7 e_1 vs) σ' fun e_1 vs σ'=>Wp aG ovD (T102k19 ⟨A,0,some 0⟩ e_1 vs) σ' fun _ vs σ'=>∃w,vs=[w]/\w=.bool (bT v)/\Frm σ σ' NoB:=by
    intro d hd;simp only[wpS,T102k6];rw[aA];by_cases a5:v.x.k=2\/v.x.k=24
    ·have a1:nK v.x.k v.x.n=(decide (v.x.n=0)||decide (v.x.n=1)):=by unfold nK;rw[if_neg hk,if_pos a5]
     rw[if_pos (hd.2 a5),aF,aB a0 rfl];simp only[wpS];rw[aA];by_cases h0:v.x.n=0
     ·rw[if_neg (by simp[h0])];simp only[wpS,T102k4];rw[aA,if_neg (by simp)];simp only[wpS,T102k5];exact yes (by rw[a1];simp[h0])
     rw[if_pos (by simpa using h0),aB a0 rfl];simp only[wpS,T102k4];rw[aA];by_cases h1:v.x.n=1
     ·rw[if_neg (by simp[h1])];simp only[wpS,T102k5];exact yes (by rw[a1];simp[h1])
     ·rw[if_pos (by simpa using h1)];simp only[wpS,T102k5];exact no (by rw[a1];simp[h0,h1])
    ·have a1:nK v.x.k v.x.n=decide (v.x.n=0):=by unfold nK;rw[if_neg hk,if_neg a5]
     rw[if_neg fun h=>a5 (hd.1 h),aB a0 rfl];simp only[wpS];rw[aA];by_cases h0:v.x.n=0
     ·rw[if_neg (by simp[h0])];simp only[wpS,T102k5];exact yes (by rw[a1];simp[h0])
     ·rw[if_pos (by simpa using h0)];simp only[wpS,T102k5];exact no (by rw[a1];simp[h0])
   by_cases k2:v.x.k=2
   ·rw[if_pos (by simpa using k2)];simp only[wpS];exact s6 _ (by rw[beq_iff_eq];exact⟨.inl,fun _=>k2⟩)
   ·rw[if_neg (by simpa using k2)];simp only[wpS];exact s6 _ (by rw[beq_iff_eq];exact⟨.inr,fun h=>h.elim (fun h=>absurd h k2) id⟩)
  rw[aA];by_cases k1:v.x.k=1
  ·rw[if_pos (by simpa using k1)];simp only[wpS];exact s8 _ (by rw[beq_iff_eq];exact⟨.inl,fun _=>k1⟩)
  ·rw[if_neg (by simpa using k1)];simp only[wpS];exact s8 _ (by rw[beq_iff_eq];exact⟨.inr,fun h=>h.elim (fun h=>absurd h k1) id⟩)
 have s21:∀d:Bool,(d=true↔¬(1<=v.x.k/\v.x.k<=26))->Wp aG ovD (T102k21 ⟨A,0,some 0⟩ (some ⟨RB,0,some 1⟩) 27 .normal [.bool d]) σ2 fun _ vs σ'=>∃w,vs=[w]/\w=.bool (bT v)/\Frm σ σ' NoB:=by
  intro d hd;simp only[wpS,T102k21];rw[aA];by_cases hk:1<=v.x.k/\v.x.k<=26
  case neg=>
   rw[if_pos (hd.2 hk)];simp only[wpS];have a7:bT v=false:=by
    unfold bT;by_cases h1:1<=v.x.k
    ·have h2:¬v.x.k<=26:=fun h=>hk ⟨h1,h⟩;rw[decide_eq_false h2];simp
    ·rw[decide_eq_false h1];simp
   rw[a7];exact⟨_,rfl,rfl,a4⟩
  rw[if_neg fun h=>(hd.1 h) hk,aB a0 rfl];simp only[wpS];rw[aB a0 rfl];simp only[wpS];have b4:bT v=(lN v.x.k v.kids.length&&(nK v.x.k v.x.n&&(kK v.x.k v.x.nm&&tK v.x.k v.x.pm))):=by unfold bT;rw[decide_eq_true hk.1,decide_eq_true hk.2];simp[Bool.and_assoc]
  obtain⟨kn,b2⟩:∃kn:Nat,v.x.k=(kn:Int):=⟨v.x.k.toNat,by omega⟩;have b1:kn<eT.length:=by rw[kidsK_len];omega
  have b5:(eT.map fun z=>Value.int .i64 z)[kn]?=some (.int .i64 (eT.getD kn 0)):=by simp[List.getD,b1]
  have a2:lN v.x.k v.kids.length=if eT.getD kn 0= -2 then decide (v.kids.length<=3) else if eT.getD kn 0= -3 then decide (3<=v.kids.length)&&decide (v.kids.length%2=1) else decide (((v.kids.length:Nat):Int)=eT.getD kn 0):=by unfold lN;rw[b2,Int.toNat_natCast]
  have no:lN v.x.k v.kids.length=false->Wp aG ovD (T102k20 ⟨A,0,some 0⟩ .ret [.bool false]) σ2 fun _ vs σ'=>∃w,vs=[w]/\w=.bool (bT v)/\Frm σ σ' NoB:=by
   intro h;have a7:bT v=false:=by rw[b4,h];try rfl
   simp only[wpS,T102k20];rw[a7];exact⟨_,rfl,rfl,a4⟩
  have yes:lN v.x.k v.kids.length=true->Wp aG ovD (T102k20 ⟨A,0,some 0⟩ .normal [.bool false]) σ2 fun _ vs σ'=>∃w,vs=[w]/\w=.bool (bT v)/\Frm σ σ' NoB:=fun h=>s20 false (by rw[b4,h];rfl);rw[b2,aO];refine⟨by simp only[Bool.and_eq_true,decide_eq_true_eq];omega,?_⟩;rw[Int.toNat_natCast,mQ b0 b5];simp only[wpS];rw[aA];by_cases e1:eT.getD kn 0= -2
  ·rw[if_pos e1]at a2;rw[if_pos (by simpa using e1),aA];by_cases h3:v.kids.length<=3
   ·rw[if_neg (by simp;omega)];simp only[wpS,T102k2];exact yes (by rw[a2];simpa using h3)
   ·rw[if_pos (by simp;omega)];simp only[wpS,T102k2];exact no (by rw[a2];simpa using h3)
  rw[if_neg e1]at a2;rw[if_neg (by simpa using e1),aF,aA];by_cases e2:eT.getD kn 0= -3
  ·rw[if_pos e2]at a2;rw[if_pos (by simpa using e2),aF,aA];by_cases h3:3<=v.kids.length
   ·rw[if_pos (by simp;omega)];simp only[wpS,T102k0];rw[aA];have ht:Int.tmod ((v.kids.length:Nat):Int) 2=((v.kids.length%2:Nat):Int):=by rw[Int.tmod_eq_emod_of_nonneg (by omega)];omega
    by_cases h4:v.kids.length%2=1
    ·rw[if_neg (by rw[ht];simp;omega)];simp only[wpS,T102k1,T102k2];exact yes (by rw[a2];simp[h3,h4])
    ·rw[if_pos (by rw[ht];simp;omega)];simp only[wpS,T102k1,T102k2];exact no (by rw[a2];simp[h4])
   ·rw[if_neg (by simp;omega)];simp only[wpS,T102k0];rw[aA,if_pos rfl];simp only[wpS,T102k1,T102k2];exact no (by rw[a2];simp[h3])
  ·rw[if_neg e2]at a2;rw[if_neg (by simpa using e2),aB a0 rfl];simp only[wpS];rw[b2,aO];refine⟨by simp only[Bool.and_eq_true,decide_eq_true_eq];omega,?_⟩;rw[Int.toNat_natCast,mQ b0 b5];simp only[wpS];rw[aA];by_cases h3:((v.kids.length:Nat):Int)=eT.getD kn 0
   ·rw[if_neg (by simpa using h3)];simp only[wpS,T102k1,T102k2];exact yes (by rw[a2];simpa using h3)
   ·rw[if_pos (by simpa using h3)];simp only[wpS,T102k1,T102k2];exact no (by rw[a2];simpa using h3)
 rw[aB a0 rfl];simp only[wpS];rw[aA];by_cases h1:v.x.k<1
 ·rw[if_neg (by simp[h1])];simp only[wpS];exact s21 true ⟨fun _ h=>by omega,fun _=>rfl⟩
 ·rw[if_pos (by simpa using h1),aB a0 rfl];simp only[wpS];exact s21 _ (by rw[decide_eq_true_eq];constructor<;>intro h<;>omega)
end
section
variable{N:List NV}{D:List Dc}
theorem rA{q:Nat->Bool->Option Nat}{β:Type}{g:Nat->List β}(hq:∀p b e,q p b=some e->(g p).length+p<=e)(pat:Nat->Bool):∀(l:List Nat) (i next e:Nat),gN q pat l i next=some e->(l.flatMap g).length+next<=e
 |[],i,next,e,h=>by cases ofS h;simp
 |k::l,i,next,e,h=>by
  rw[gN]at h;split at h
  ·rename_i hk;subst hk;obtain⟨a,h1,h⟩:=aW h;have p1:=hq _ _ _ h1;have p2:=rA hq pat l (i+1) a e h;rw[List.flatMap_cons,List.length_append];omega
  ·cases h
theorem nE:∀(w p:Nat) (b:Bool) (e:Nat),bY N D w p b=some e->∀m,(bN N m p).length+p<=e
 |0,_,_,_,h,_=>by cases h
 |w+1,p,b,e,h,m=>by
  have a0:=(jD _ _ _ _ h).1;rw[bY]at h;cases m with
  |zero=>rw[bN];simp;omega
  |succ m=>
   rw[bN];split at h
   ·cases h
   ·rename_i v hv;split at h
    ·obtain⟨a,h1,h⟩:=aW h;split at h
     ·cases h
     ·have hx:=ofS h;subst hx;split
      ·simp;omega
      ·have:=rA (g:=fun k=>if p<k/\k<N.length/\v.x.k=26 then bN N m k else []) (fun p' b' e' h'=>by
        have p1:=nE w p' b' e' h' m;have p2:=(jD _ _ _ _ h').1;split
        ·exact p1
        ·simp;omega) _ _ _ _ _ h1
       omega
    ·cases h
theorem vF{w p:Nat}{b:Bool}{e:Nat}(h:bY N D (w+1) p b=some e):∃v,N[p]?=some v/\∀j (hj:j<v.kids.length),p<v.kids[j]/\v.kids[j]<N.length/\∃b' e',bY N D w v.kids[j] b'=some e':=by
 have a0:=jD _ _ _ _ h;rw[bY]at h;split at h
 ·cases h
 ·rename_i v hv;refine⟨v,hv,?_⟩;split at h
  ·obtain⟨a,h1,h⟩:=aW h;split at h
   ·cases h
   ·have hx:=ofS h;subst hx;obtain⟨q1,q2,q3⟩:=rB (R:=fun i=>i<N.length) (S:=fun p b=>∃e',bY N D w p b=some e') (fun p b e h=>by obtain⟨p1,_,p3⟩:=jD _ _ _ _ h;exact⟨p1,⟨e,h⟩,fun i h1 h2=>by obtain⟨u,hu,_⟩:=p3 i h1 h2;exact(List.getElem?_eq_some_iff.1 hu).1⟩) _ _ _ _ _ h1;intro j hj;obtain⟨r1,r2,e',r3⟩:=q2 j hj;exact⟨by omega,q3 _ r1 r2,_,e',r3⟩
  ·cases h
theorem iE{w p:Nat}{b:Bool}{e:Nat}(h:bY N D w p b=some e):p<e/\e<=N.length:=by obtain⟨h1,_,h3⟩:=jD _ _ _ _ h;obtain⟨u,hu,_⟩:=h3 (e-1) (by omega) (by omega);have:=(List.getElem?_eq_some_iff.1 hu).1;exact⟨h1,by omega⟩
end
abbrev dA(t:List UInt8):Value:=.string (mkB t)
section
variable{σ σ':aC}{N:List NV}{D:List Dc}{Y:Nat->Prop}{pn pd:Option Addr}{cn cd:Nat}
theorem wp_binds80(hN:N.length<=1000):∀(w p:Nat) (b:Bool) (e m:Nat) (σ:aC),bY N D w p b=some e->N.length<=m+p->dL σ Y pn N pd D->
  WpF aG ovD 104 [trV pn N.length cn pd D.length cd,.int .i64 ((p:Nat):Int)] σ fun v σ'=>∃rb q k,v=.slice q (bN N m p).length k/\SlV σ' rb q k ((bN N m p).map dA)/\(q≠none->σ.n<=rb)/\Frm σ σ' NoB:=by
 intro w;induction w with
 |zero=>intro p b e m σ h;cases h
 |succ w ih=>
  intro p b e m σ h hm hT;obtain⟨v,hv,a8⟩:=vF h;have d3:=nE _ _ _ _ h;have d2:=iE h;obtain⟨m,rfl⟩:∃m',m=m'+1:=⟨m-1,by omega⟩;have c0:p<N.length:=by omega
  have c8:N[p]=v:=by rw[List.getElem?_eq_getElem c0]at hv;exact Option.some.inj hv
  refine WpF.of (T104_eq _ _ _ _ _ _ _) rfl ?_;rw[T104];refine aJ fun σ1 c7 e2 b7=>?_;generalize hA:σ.n=A at b7;rw[aB b7 rfl];simp only[wpS];have c1:=hT.frm c7;refine cX c1.nodes c0 rfl fun cs a5=>?_;rw[c8]at a5;obtain⟨q,k,rfl,b4,_⟩:=a5;simp only[wpS];refine aJ fun σ2 d9 d1 c4=>?_;refine aZ c4 rfl rfl fun σ3 c6 e1 c3=>?_;generalize hC:σ1.n=C at c4 c3 c6 d1;have a3:Frm σ1 σ3 NoB:=d9.fresh c6 fun j hj h=>by omega
  have a4:=c7.seq a3;have b6:=a3.stN b7;have d5:=c1.frm a3;have a6:=b4.step (S:=NoB) (Y':=Y) a3 (fun _ _ h=>h.elim) (fun _ _ h=>h) (fun _ _ h=>h);have a2:St σ3 C (nvC v q k):=c3;rw[aB a2 rfl];simp only[wpS];rw[aA];have hb:=d3 (m+1);by_cases b3:v.x.k=22
  ·have eb:bN N (m+1) p=[v.x.nm]:=by rw[bN,hv];simp only;rw[if_pos b3]
   rw[if_pos (by simpa using b3),aB a2 rfl];simp only[wpS];rw[aV,cM];simp only[wpS];rw[eb];refine⟨_,rfl,σ3.n,_,1,rfl,.inr ⟨0,1,rfl,Row.new σ3 1 [dA v.x.nm] 1 (by decide) rfl (by intro y hy;simp at hy;subst hy;rfl)⟩,fun _=>by have:=a4.n;omega,a4.seq (Frm.new _ _ _ _)⟩
  have eb:bN N (m+1) p=v.kids.flatMap fun k=>if p<k/\k<N.length/\v.x.k=26 then bN N m k else []:=by rw[bN,hv];simp only;rw[if_neg b3]
  rw[if_neg (by simpa using b3),eb];rw[eb]at hb;generalize hg:(fun k=>if p<k/\k<N.length/\v.x.k=26 then bN N m k else [])=g at hb;have e3:v.kids.length<=N.length:=by
   have:=(jD _ _ _ _ h).2.2 p (Nat.le_refl _) d2.1;obtain⟨u,hu,e0⟩:=this;rw[hv]at hu;cases hu;have hr:=h;rw[bY,hv]at hr;simp only at hr;split at hr
   ·obtain⟨a,h1,hr⟩:=aW hr;have:=rA (g:=fun _=>[()]) (fun p' b' e' h'=>by have:=iE h';simp;omega) _ _ _ _ _ h1;have h2:∀l:List Nat,(l.flatMap fun _=>[()]).length=l.length:=fun l=>by
     induction l with
     |nil=>rfl
     |cons x l ih=>rw[List.flatMap_cons,List.length_append,ih];simp;omega
    have h2:=h2 v.kids;split at hr
    ·cases hr
    ·cases ofS hr;omega
   ·cases hr
  have b5:∀j,((v.kids.take j).flatMap g).length<=(v.kids.flatMap g).length:=fun j=>by
   conv=>rhs;rw[<-List.take_append_drop j v.kids,List.flatMap_append,List.length_append]
   omega
  refine Wp.count v.kids.length (fun j st σ'=>∃rb qq kk,st=[.int .i64 ((j:Nat):Int),.slice qq ((v.kids.take j).flatMap g).length kk]/\SlV σ' rb qq kk (((v.kids.take j).flatMap g).map dA)/\(qq≠none->σ3.n<=rb)/\Frm σ3 σ' NoB)
   ⟨0,none,0,by simp,.inl ⟨rfl,rfl,by simp⟩,fun h=>absurd rfl h,Frm.refl _ _⟩ ?_ ?_
  ·rintro j st σ4 hj ⟨rb,qq,kk,rfl,hL,a7,a1⟩;obtain⟨k1,k2,b',e',k3⟩:=a8 j hj;have ej:aP ((j:Int)+1)=((j+1:Nat):Int):=by rw[aS (by omega)];omega
   have a9:=a1.stN a2;have b0:=a1.stN b6;have d4:=d5.frm a1;have a0:=a6.step (S:=NoB) (Y':=Y) a1 (fun _ _ h=>h.elim) (fun _ _ h=>h) (fun _ _ h=>h);unfold T104b0;simp only[wpS];rw[aB a9 (v:=.slice q v.kids.length k) rfl];simp only[wpS];rw[aA,if_pos (by simp;omega)];simp only[wpS];rw[aB a9 (v:=.slice q v.kids.length k) rfl];simp only[wpS];refine cN a0 hj rfl fun cs a5=>⟨_,a5,?_⟩;simp only[wpS];rw[aA,if_pos (by simp;omega),aB a9 (v:=.slice q v.kids.length k) rfl];simp only[wpS];refine cN a0 hj rfl fun cs a5=>⟨_,a5,?_⟩;simp only[wpS];rw[aB b0 rfl];simp only[wpS];rw[aA,if_pos (by simp;omega),aB a9 rfl];simp only[wpS,T104k1];rw[aA];have b1:(v.kids.take (j+1)).flatMap g=(v.kids.take j).flatMap g++g v.kids[j]:=by rw[List.take_succ_eq_append_getElem hj,List.flatMap_append];simp
   by_cases b2:v.x.k=26
   ·have eg:g v.kids[j]=bN N m v.kids[j]:=by rw[<-hg];simp only;rw[if_pos ⟨k1,k2,b2⟩]
    rw[if_pos (by simpa using b2),aL b0 2 rfl];simp only[wpS];rw[aB a9 (v:=.slice q v.kids.length k) rfl];simp only[wpS];refine cN a0 hj rfl fun cs a5=>⟨_,a5,?_⟩;simp only[wpS];rw[aE];refine WpF.mono (ih v.kids[j] b' e' m σ4 k3 (by omega) d4) ?_;rintro _ σ5 ⟨rb2,q2,kk2,rfl,c5,c9,b8⟩;simp only[wpS];have d7:=hL.frm b8 fun _ h=>h;have p1:=b5 (j+1);rw[b1,eg,List.length_append]at p1;rw[<-eg]at c5 ⊢;refine wp_appR d7 (by simp) c5 (by simp) (by rw[eg];omega) (by rw[eg];omega) fun σ6 rb6 q6 kk6 d8 d0 d6=>?_;simp only[wpS,T104k0,T104k2,ej];have b9:Frm σ3 σ6 NoB:=(a1.seq b8).trans d8 (fun _ _ h=>h) fun i hi h=>by have:=a7 h.1;omega
    refine⟨rb6,q6,kk6,?_,?_,?_,b9⟩
    ·rw[b1,List.length_append]
    ·rw[b1,List.map_append];exact d6
    ·intro h;have:=a1.n;have:=b8.n;rcases d0 with h6|⟨h6,h7⟩|h6
     ·exact absurd h6 h
     ·have:=a7 h6;omega
     ·omega
   ·have eg:g v.kids[j]=[]:=by rw[<-hg];simp only;rw[if_neg fun h=>b2 h.2.2]
    rw[if_neg (by simpa using b2)];simp only[wpS,T104k0,T104k2,ej];rw[b1,eg,List.append_nil];exact⟨rb,qq,kk,rfl,hL,a7,a1⟩
  ·rintro st σ4 ⟨rb,qq,kk,rfl,hL,a7,a1⟩;rw[List.take_length]at hL ⊢;unfold T104b0;simp only[wpS];rw[aB (a1.stN a2) (v:=.slice q v.kids.length k) rfl];simp only[wpS];rw[aA,if_neg (by simp)];simp only[wpS,T104k3];exact⟨_,rfl,rb,qq,kk,rfl,hL,fun h=>by have:=a7 h;have:=a4.n;omega,a4.seq a1⟩
theorem gZ{rb c:Nat}{q:Option Addr}{l:List (List UInt8)}(h:SlV σ rb q c (l.map dA)):aN σ NoB 1 (rJ σ NoB) q l:=by
 rcases h with⟨rfl,_,h0⟩|⟨off,s,rfl,hR⟩
 ·have:l=[]:=by simpa using h0
  rw[this];exact aN.nil
 ·exact aN.own (css:=l.map fun t=>[dA t]) (by
   have e:(l.map fun t=>[dA t]).flatten=l.map dA:=by
    clear hR;induction l with
    |nil=>rfl
    |cons j r ih=>rw[List.map_cons,List.flatten_cons,List.map_cons,<-ih];try rfl
   rw[e];exact hR) (fun h=>h) (by simp) (by intro cs a0;obtain⟨t,_,rfl⟩:=List.mem_map.1 a0;rfl) (fun i h1 h2=>by simp[rJ])
end
theorem ofC_spec(s:List UInt8):∀(l:List Cn) (c0:Nat) (x:Nat×Nat),ofC s c0 l=some x->c0<=x.1/\∃h:x.1-c0<l.length,l[x.1-c0].args.length=x.2
 |[],_,_,h=>by cases h
 |y::l,c0,x,h=>by
  rw[ofC]at h;split at h
  ·have hx:=ofS h;subst hx;refine⟨Nat.le_refl _,by simp,?_⟩;simp
  ·obtain⟨h1,h2,h3⟩:=ofC_spec s l (c0+1) x h;refine⟨by omega,by simp;omega,?_⟩;have e:x.1-c0=(x.1-(c0+1))+1:=by omega
   simp only[e,List.getElem_cons_succ];exact h3
theorem ze(s:List UInt8):∀(l:List Dc) (d0:Nat) (x:Nat×Nat×Nat),ofD s d0 l=some x->d0<=x.1/\∃h:x.1-d0<l.length,∃h2:x.2.1<l[x.1-d0].cons.length,l[x.1-d0].cons[x.2.1].args.length=x.2.2
 |[],_,_,h=>by cases h
 |y::l,d0,x,h=>by
  rw[ofD]at h;split at h
  ·rename_i c n hc;have hx:=ofS h;subst hx;obtain⟨_,h2,h3⟩:=ofC_spec s _ 0 _ hc;simp only[Nat.sub_zero]at h2 h3;refine⟨Nat.le_refl _,by simp,?_⟩;simp only[Nat.sub_self,List.getElem_cons_zero];exact⟨h2,h3⟩
  ·obtain⟨h1,h2,h3,h4⟩:=ze s l (d0+1) x h;have e:x.1-d0=(x.1-(d0+1))+1:=by omega
   refine⟨by omega,by simp;omega,?_⟩;simp only[e,List.getElem_cons_succ];exact⟨h3,h4⟩
def zu:Option Nat->Int
 |some e=>((e:Nat):Int)
 |none=> -1
section
variable{σ σ':aC}{N:List NV}{D:List Dc}{Y:Nat->Prop}{pn pd:Option Addr}{cn cd:Nat}
theorem wp_walk48(hN:N.length<=1000)(hK:∀v∈N,v.kids.length<=1000000)(hD:D.length<=1000000)(hC:∀d∈D,d.cons.length<=1000000):∀(n p:Nat) (pat:Bool) (σ:aC),n<=60->p<=N.length->dL σ Y pn N pd D->
  WpF aG ovD 76 [trV pn N.length cn pd D.length cd,.int .i64 ((p:Nat):Int),.bool pat,.int .i64 ((61-n:Nat):Int)] σ fun v σ'=>v=.int .i64 (zu (bY N D n p pat))/\Frm σ σ' NoB:=by
 intro n;induction n with
 |zero=>intro p pat σ hn hp hT;refine WpF.of (T76_eq _ _ _ _ _ _ _ _ _) rfl ?_;rw[T76];refine aJ fun σ1 b8 e5 b1=>?_;rw[aB b1 rfl];simp only[wpS];rw[aA,if_pos (by simp)];simp only[wpS];exact⟨_,rfl,rfl,b8⟩
 |succ n ih=>
  intro p pat σ hn hp hT;refine WpF.of (T76_eq _ _ _ _ _ _ _ _ _) rfl ?_;rw[T76];refine aJ fun σ1 b8 e5 b1=>?_;generalize hA:σ.n=A at b1;rw[aB b1 rfl];simp only[wpS];rw[aA];by_cases c5:p<N.length
  case neg=>rw[if_pos (by simp;omega)];simp only[wpS];rw[bY,List.getElem?_eq_none (by omega)];exact⟨_,rfl,rfl,b8⟩
  rw[if_neg (by simp;omega),aB b1 rfl];simp only[wpS];have d9:=hT.frm b8;have d2:N[p]?=some N[p]:=List.getElem?_eq_getElem c5;have d6:=hK _ (List.getElem_mem c5);generalize hv:N[p]=v at d2 d6;refine cX d9.nodes c5 rfl fun cs a4=>?_;rw[hv]at a4;obtain⟨q,k,rfl,c4,_⟩:=a4;simp only[wpS];refine aJ fun σ2 b7 e4 b5=>?_;refine aZ b5 rfl rfl fun σ3 d1 f1 c8=>?_;generalize f3:σ1.n=C at b5 c8 d1 e4;have a5:Frm σ1 σ3 NoB:=b7.fresh d1 fun j hj h=>by omega
  have b0:=b8.seq a5;have b6:=a5.stN b1;have d8:=d9.frm a5;have b3:=c4.step (S:=NoB) (Y':=Y) a5 (fun _ _ h=>h.elim) (fun _ _ h=>h) (fun _ _ h=>h);have a8:St σ3 C (nvC v q k):=c8;clear b5 c8 b7 d1;simp only[wpS];rw[aL a8 7 rfl];have eW:bY N D (n+1) p pat=if bT v=true/\decide (v.x.k>20)=pat/\(v.x.k=5\/v.x.k=26->∃x,ofD v.x.nm 0 D=some x/\x.2.2=v.kids.length) then
    (gN (bY N D n) (fun i=>pat||(decide (v.x.k=11)&&decide (i%2=1))) v.kids 0 (p+1)).bind fun next=>
     if v.x.k=11/\∃i,i<v.kids.length/\i%2=1/\cP (bN N N.length (v.kids.getD i 0))=true then none else some next
   else none:=by
   rw[bY,d2]
  have s9no:∀τ,Frm σ3 τ NoB->bY N D (n+1) p pat=none->Wp aG ovD (T76k9 ⟨C,0,some 0⟩ ⟨A,0,some 0⟩ ((p:Nat):Int) pat ((61-(n+1):Nat):Int) .normal [.bool true]) τ fun _ vs σ'=>∃w,vs=[w]/\w=.int .i64 (zu (bY N D (n+1) p pat))/\Frm σ σ' NoB:=by intro τ hτ h;simp only[wpS,T76k9];rw[aA,if_pos rfl];simp only[wpS];rw[h];exact⟨_,rfl,rfl,b0.seq hτ⟩
  have s7:∀τ (x0:Int),Frm σ3 τ NoB->(bT v=true/\decide (v.x.k>20)=pat/\(v.x.k=5\/v.x.k=26->∃x,ofD v.x.nm 0 D=some x/\x.2.2=v.kids.length))->Wp aG ovD (T76k7 ((p:Nat):Int) ⟨C,0,some 0⟩ ⟨A,0,some 0⟩ pat ((61-(n+1):Nat):Int) .normal [.int .i64 x0]) τ fun _ vs σ'=>∃w,vs=[w]/\w=.int .i64 (zu (bY N D (n+1) p pat))/\Frm σ σ' NoB:=by
   intro τ x0 hτ hc;rw[if_pos hc]at eW;rw[eW];have hSτ:=hτ.stN a8;have hS1τ:=hτ.stN b6;have hTτ:=d8.frm hτ;have hrowτ:=b3.step (S:=NoB) (Y':=Y) hτ (fun _ _ h=>h.elim) (fun _ _ h=>h) (fun _ _ h=>h);have hFτ:=b0.seq hτ;simp only[wpS,T76k7];have ep:aP (((p:Nat):Int)+1)=((p+1:Nat):Int):=by rw[aS (by omega)];omega
   have ed:aP (((61-(n+1):Nat):Int)+1)=((61-n:Nat):Int):=by rw[aS (by omega)];omega
   rw[ep];generalize hR:gN (bY N D n) (fun i=>pat||(decide (v.x.k=11)&&decide (i%2=1))) v.kids 0 (p+1)=R;refine Wp.count v.kids.length (fun j st σ'=>∃(next:Nat) (x1:Int),st=[.int .i64 ((j:Nat):Int),.int .i64 ((next:Nat):Int),.int .i64 x1]/\Frm τ σ' NoB/\next<=N.length/\R=gN (bY N D n) (fun i=>pat||(decide (v.x.k=11)&&decide (i%2=1))) (v.kids.drop j) j next)
    ⟨p+1,x0,rfl,Frm.refl _ _,by omega,by rw[<-hR,List.drop_zero]⟩ ?_ ?_
   ·rintro j st σ4 hj ⟨next,x1,rfl,a1,d3,a3⟩;have ej:aP ((j:Int)+1)=((j+1:Nat):Int):=by rw[aS (by omega)];omega
    have a7:=a1.stN hSτ;have a9:=a1.stN hS1τ;have a2:=hrowτ.step (S:=NoB) (Y':=Y) a1 (fun _ _ h=>h.elim) (fun _ _ h=>h) (fun _ _ h=>h);have c7:=hTτ.frm a1;rw[List.drop_eq_getElem_cons hj,gN]at a3;unfold T76b0;simp only[wpS];rw[aB a7 (v:=.slice q v.kids.length k) rfl];simp only[wpS];rw[aA,if_pos (by simp;omega),aF,aB a7 (v:=.slice q v.kids.length k) rfl];simp only[wpS];refine cN a2 hj rfl fun cs a4=>⟨_,a4,?_⟩;simp only[wpS];rw[aA];have d7:∀{x:Int} {σ':aC},Frm τ σ' NoB->R=none->Wp aG ovD (T76k2 ((j:Nat):Int) .ret [.int .i64 x,.int .i64 (-1)]) σ' fun e st' σ'=>match e with
      |.normal=>∃(next:Nat) (x1:Int),st'=[.int .i64 ((j+1:Nat):Int),.int .i64 ((next:Nat):Int),.int .i64 x1]/\Frm τ σ' NoB/\next<=N.length/\R=gN (bY N D n) (fun i=>pat||(decide (v.x.k=11)&&decide (i%2=1))) (v.kids.drop (j+1)) (j+1) next
      |e=>Wp aG ovD (T76k6 ⟨C,0,some 0⟩ ⟨A,0,some 0⟩ e st') σ' fun _ vs σ'=>∃w,vs=[w]/\w=.int .i64 (zu (R.bind fun next=>if v.x.k=11/\∃i,i<v.kids.length/\i%2=1/\cP (bN N N.length (v.kids.getD i 0))=true then none else some next))/\Frm σ σ' NoB:=by
     intro x σ' hσ h;simp only[wpS,T76k2,T76k6];rw[h];exact⟨_,rfl,rfl,hFτ.seq hσ⟩
    by_cases hk:v.kids[j]=next
    case neg=>rw[if_neg hk]at a3;rw[if_pos (bne_iff_ne.2 fun h=>hk (by omega))];simp only[wpS];exact d7 a1 a3
    rw[if_pos hk]at a3;rw[if_neg (by rw[hk];simp)];simp only[wpS];rw[aL a9 2 rfl];simp only[wpS];have back:∀σ5,Frm σ4 σ5 NoB->Wp aG ovD (T76k1 x1 .normal [.int .i64 (zu (bY N D n next (pat||(decide (v.x.k=11)&&decide (j%2=1)))))]) σ5 fun e vs σ'=>Wp aG ovD (T76k2 ((j:Nat):Int) e vs) σ' fun e st' σ'=>match e with
      |.normal=>∃(next:Nat) (x1:Int),st'=[.int .i64 ((j+1:Nat):Int),.int .i64 ((next:Nat):Int),.int .i64 x1]/\Frm τ σ' NoB/\next<=N.length/\R=gN (bY N D n) (fun i=>pat||(decide (v.x.k=11)&&decide (i%2=1))) (v.kids.drop (j+1)) (j+1) next
      |e=>Wp aG ovD (T76k6 ⟨C,0,some 0⟩ ⟨A,0,some 0⟩ e st') σ' fun _ vs σ'=>∃w,vs=[w]/\w=.int .i64 (zu (R.bind fun next=>if v.x.k=11/\∃i,i<v.kids.length/\i%2=1/\cP (bN N N.length (v.kids.getD i 0))=true then none else some next))/\Frm σ σ' NoB:=by
     intro σ5 a0;simp only[wpS,T76k1];rw[aA];cases hw:bY N D n next (pat||(decide (v.x.k=11)&&decide (j%2=1)))with
     |none=>rw[hw]at a3;rw[if_pos (by simp[zu])];simp only[wpS];exact d7 (a1.seq a0) a3
     |some e=>rw[hw]at a3;have d5:=iE hw;rw[if_neg (by rw[decide_eq_true_eq];show ¬((e:Nat):Int)<0;omega)];simp only[wpS,T76k2,ej];exact⟨e,_,rfl,a1.seq a0,d5.2,a3⟩
    have e2:(Int.tmod ((j:Nat):Int) 2==1)=decide (j%2=1):=by
     rw[Int.tmod_eq_emod_of_nonneg (by omega)];by_cases h2:j%2=1
     ·rw[decide_eq_true h2,beq_iff_eq];omega
     ·rw[decide_eq_false h2,beq_eq_false_iff_ne];omega
    have sub:∀(b:Bool),b=(pat||(decide (v.x.k=11)&&decide (j%2=1)))->WpF aG ovD 76 [trV pn N.length cn pd D.length cd,.int .i64 ((next:Nat):Int),.bool b,.int .i64 (aP (((61-(n+1):Nat):Int)+1))] σ4 fun w σ5=>w=.int .i64 (zu (bY N D n next (pat||(decide (v.x.k=11)&&decide (j%2=1)))))/\Frm σ4 σ5 NoB:=by rintro b rfl;rw[ed];exact ih next _ σ4 (by omega) d3 c7
    rw[aA];cases pat with
    |true=>rw[if_neg (by simp),aE];refine WpF.mono (sub true (by simp)) ?_;rintro _ σ5 ⟨rfl,a0⟩;simp only[wpS];exact back σ5 a0
    |false=>
     rw[if_pos (by rfl),aB a7 rfl];simp only[wpS];rw[aA];by_cases a6:v.x.k=11
     ·rw[if_pos (by simpa using a6),aE,e2];refine WpF.mono (sub _ (by simp[a6])) ?_;rintro _ σ5 ⟨rfl,a0⟩;simp only[wpS];exact back σ5 a0
     ·rw[if_neg (by simpa using a6),aE];refine WpF.mono (sub _ (by simp[a6])) ?_;rintro _ σ5 ⟨rfl,a0⟩;simp only[wpS];exact back σ5 a0
   ·rintro st σ4 ⟨next,x1,rfl,a1,d3,a3⟩;have a7:=a1.stN hSτ;have a9:=a1.stN hS1τ;have a2:=hrowτ.step (S:=NoB) (Y':=Y) a1 (fun _ _ h=>h.elim) (fun _ _ h=>h) (fun _ _ h=>h);have c7:=hTτ.frm a1;rw[List.drop_length,gN]at a3;subst a3;unfold T76b0;simp only[wpS];rw[aB a7 (v:=.slice q v.kids.length k) rfl];simp only[wpS];rw[aA,if_neg (by simp)];simp only[wpS,T76k6];rw[aB a7 rfl];simp only[wpS];rw[aA];rw[Option.bind_some];by_cases a6:v.x.k=11
    case neg=>rw[if_neg (by simpa using a6)];simp only[wpS,T76k5];rw[if_neg fun h=>a6 h.1];exact⟨_,rfl,rfl,hFτ.seq a1⟩
    rw[if_pos (by simpa using a6)];have e6:∀j (hj:j<v.kids.length),∃b' e',bY N D n v.kids[j] b'=some e':=by obtain⟨_,q2,_⟩:=rB (R:=fun _=>True) (S:=fun p b=>∃e',bY N D n p b=some e') (fun p b e h=>⟨(jD _ _ _ _ h).1,⟨e,h⟩,fun _ _ _=>trivial⟩) _ _ _ _ _ hR;intro j hj;obtain⟨_,_,e',r3⟩:=q2 j hj;exact⟨_,e',r3⟩
    refine Wp.loop (fun m st σ'=>∃(i:Nat) (x2:Int),m=v.kids.length+1-i/\i<=v.kids.length+1/\i%2=1/\st=[.int .i64 ((i:Nat):Int),.int .i64 x2]/\Frm σ4 σ' NoB/\∀j,j<i->j<v.kids.length->j%2=1->cP (bN N N.length (v.kids.getD j 0))=false) v.kids.length
     ⟨1,x1,by omega,by omega,rfl,rfl,Frm.refl _ _,fun j h1 _ h3=>by omega⟩ ?_
    rintro m st σ5 ⟨i,x2,rfl,hi,c6,rfl,a0,d4⟩;have e0:=a0.stN a7;have c9:=a0.stN a9;have b2:=a2.step (S:=NoB) (Y':=Y) a0 (fun _ _ h=>h.elim) (fun _ _ h=>h) (fun _ _ h=>h);have e8:=c7.frm a0;unfold T76b1;simp only[wpS];rw[aB e0 (v:=.slice q v.kids.length k) rfl];simp only[wpS];rw[aA];by_cases c1:i<v.kids.length
    case neg=>
     rw[if_neg (by simp;omega)];simp only[wpS,T76k4,T76k5];rw[if_neg]
     ·exact⟨_,rfl,rfl,(hFτ.seq a1).seq a0⟩
     ·rintro⟨_,j,h1,h2,h3⟩;rw[d4 j (by omega) h1 h2]at h3;cases h3
    rw[if_pos (by simp;omega),aF,aL c9 2 rfl];simp only[wpS];rw[aB e0 (v:=.slice q v.kids.length k) rfl];simp only[wpS];refine cN b2 c1 rfl fun cs a4=>⟨_,a4,?_⟩;simp only[wpS];rw[aE];obtain⟨b',e',hk⟩:=e6 i c1;refine WpF.mono (wp_binds80 hN n _ b' e' N.length σ5 hk (by omega) e8) ?_;rintro _ σ6 ⟨rb,q2,k2,rfl,hL,f0,e1⟩;simp only[wpS];rw[aE];have f2:=nE _ _ _ _ hk N.length;have d5:=iE hk;refine WpF.mono (sL (gZ hL) (by omega)) ?_;rintro _ _ ⟨rfl,rfl⟩;simp only[wpS];have eg:v.kids.getD i 0=v.kids[i]:=by simp[List.getD,c1]
    rw[aA];by_cases b9:cP (bN N N.length v.kids[i])=true
    ·rw[if_pos b9];simp only[wpS,T76k3,T76k4,T76k5];rw[if_pos ⟨a6,i,c1,c6,by rw[eg];exact b9⟩];exact⟨_,rfl,rfl,((hFτ.seq a1).seq a0).seq e1⟩
    ·rw[if_neg b9];have ei:aP (((i:Nat):Int)+2)=((i+2:Nat):Int):=by rw[aS (by omega)];omega
     simp only[wpS,T76k3,ei];refine⟨v.kids.length+1-(i+2),by omega,i+2,x2,rfl,by omega,by omega,rfl,a0.seq e1,fun j h1 h2 h3=>?_⟩;by_cases e7:j<i
     ·exact d4 j e7 h2 h3
     ·have:j=i:=by omega
      subst this;rw[eg];simpa using b9
  unfold nvC;simp only[wpS];rw[aE];refine WpF.mono (wp_shape78 v d6 q k) ?_;rintro _ τ ⟨rfl,hτ⟩;simp only[wpS];rw[aA];cases c3:bT v with
  |false=>rw[if_neg (by simp)];simp only[wpS];exact s9no τ hτ (by rw[eW,if_neg fun h=>by rw[c3]at h;exact absurd h.1 (by simp)])
  |true=>
  have hSτ:=hτ.stN a8;have hS1τ:=hτ.stN b6;rw[if_pos (by rfl),aB hSτ rfl];simp only[wpS];by_cases b4:decide (v.x.k>20)=pat
  case neg=>rw[show(!(decide (v.x.k>20)==pat))=true by simp[b4]];exact s9no τ hτ (by rw[eW,if_neg fun h=>b4 h.2.1])
  rw[show(!(decide (v.x.k>20)==pat))=false by simp[b4]];simp only[wpS,T76k9];rw[aA,if_neg (by simp)];simp only[wpS];rw[aB hSτ rfl];simp only[wpS];have s8:∀b:Bool,(b=true↔v.x.k=5\/v.x.k=26)->Wp aG ovD (T76k8 ⟨A,0,some 0⟩ ⟨C,0,some 0⟩ ((p:Nat):Int) pat ((61-(n+1):Nat):Int) .normal [.bool b]) τ fun _ vs σ'=>∃w,vs=[w]/\w=.int .i64 (zu (bY N D (n+1) p pat))/\Frm σ σ' NoB:=by
   intro b hb;simp only[wpS,T76k8];rw[aA];by_cases hk:v.x.k=5\/v.x.k=26
   case neg=>rw[if_neg fun h=>hk (hb.1 h)];simp only[wpS];exact s7 τ 0 hτ ⟨c3,b4,fun h=>absurd h hk⟩
   rw[if_pos (hb.2 hk),aL hS1τ 2 rfl];simp only[wpS];rw[aB hSτ rfl];simp only[wpS];rw[aE];have hTτ:=d8.frm hτ;refine WpF.mono (wp_Of79 hTτ.decls hD hC v.x.nm) ?_;rintro _ τ2 ⟨rfl,hτ2⟩;have b5:=hτ2.stN hSτ;have d0:=hτ2.stN hS1τ;have e9:=hTτ.frm hτ2;have b7:=hτ.seq hτ2;have bad:(¬ ∃x,ofD v.x.nm 0 D=some x/\x.2.2=v.kids.length)->Wp aG ovD (T76k0 .normal [.bool true]) τ2 fun e vs σ'=>Wp aG ovD (T76k7 ((p:Nat):Int) ⟨C,0,some 0⟩ ⟨A,0,some 0⟩ pat ((61-(n+1):Nat):Int) e vs) σ' fun _ vs σ'=>∃w,vs=[w]/\w=.int .i64 (zu (bY N D (n+1) p pat))/\Frm σ σ' NoB:=by intro h;simp only[wpS,T76k0];rw[aA,if_pos rfl];simp only[wpS,T76k7];rw[eW,if_neg fun hc=>h (hc.2.2 hk)];exact⟨_,rfl,rfl,b0.seq b7⟩
   cases c0:ofD v.x.nm 0 D with
   |none=>rw[yk];simp only[wpS];rw[aA,if_neg (by simp)];simp only[wpS];exact bad fun⟨x,hx,_⟩=>by rw[c0]at hx;cases hx
   |some x=>
    obtain⟨d,c,m⟩:=x;obtain⟨_,h1,h2,h3⟩:=ze _ _ _ _ c0;simp only[Nat.sub_zero]at h1 h2 h3;rw[sZ];simp only[wpS];rw[aA,if_pos (by rfl),aB d0 rfl];simp only[wpS];refine cR e9.decls h1 rfl (o:=1) (by decide) fun cs a4=>?_;obtain⟨q1,k1,rfl,e3⟩:=a4;refine⟨_,rfl,?_⟩;simp only[wpS];refine cR e3 h2 rfl (o:=1) (by decide) fun cs a4=>?_;obtain⟨q2,k2,rfl,_,_⟩:=a4;refine⟨_,rfl,?_⟩;simp only[wpS];rw[aB b5 (v:=.slice q v.kids.length k) rfl];simp only[wpS];rw[h3];by_cases hm:m=v.kids.length
    ·rw[show(((m:Nat):Int) !=((v.kids.length:Nat):Int))=false by simp[hm]];simp only[wpS,T76k0];rw[aA,if_neg (by simp)];simp only[wpS];exact s7 τ2 0 b7 ⟨c3,b4,fun _=>⟨_,c0,hm⟩⟩
    ·rw[show(((m:Nat):Int) !=((v.kids.length:Nat):Int))=true from bne_iff_ne.2 fun h=>hm (by omega)];exact bad fun⟨x,hx,h⟩=>by rw[c0]at hx;cases hx;exact hm h
  rw[aA];by_cases k5:v.x.k=5
  ·rw[if_neg (by simp[k5])];simp only[wpS];exact s8 true ⟨fun _=>.inl k5,fun _=>rfl⟩
  ·rw[if_pos (by simpa using k5),aB hSτ rfl];simp only[wpS];exact s8 _ (by rw[beq_iff_eq];exact⟨.inr,fun h=>h.elim (fun h=>absurd h k5) id⟩)
end
def okC(c:Cn):Bool:=conM c.nm&&decide (c.args.length<=3)
def okD(d:Dc):Bool:=uJ d.nm&&!eG d.nm&&decide (1<=d.cons.length)&&decide (d.cons.length<=20)&&d.cons.all okC
def dH(D:List Dc):List (List UInt8):=D.map (·.nm)
def cV(D:List Dc):List (List UInt8):=D.flatMap fun d=>d.cons.map (·.nm)
def qF(D:List Dc)(d:Dc):Bool:=d.cons.all fun c=>c.args.all fun a=>(dH D).contains a||eG a
theorem vW(D:List Dc):eH D=(D.all okD&&decide (D.length<=20)&&!cP (dH D)&&!cP (cV D)&&D.all (qF D)):=rfl
theorem nC{α:Type}{p:α->Bool}:∀{l:List α} {i:Nat} (hi:i<l.length),p l[i]=false->l.all p=false:=fun {l i} hi h=>by rw[Bool.eq_false_iff];intro h2;rw[List.all_eq_true]at h2;rw[h2 _ (List.getElem_mem hi)]at h;cases h
theorem zF{α:Type}{p:α->Bool}{l:List α}(h:∀i (hi:i<l.length),p l[i]=true):l.all p=true:=by rw[List.all_eq_true];intro x hx;obtain⟨i,hi,rfl⟩:=List.getElem_of_mem hx;exact h i hi
theorem in_basic(l:List (List UInt8))(a:List UInt8):(l++[[105,110,116],[98,111,111,108],[117,110,105,116]]).contains a=(l.contains a||eG a):=by
 unfold eG;rw[List.contains_eq_any_beq,List.any_append,<-List.contains_eq_any_beq]
 congr 1
 simp only[List.any_cons,List.any_nil,Bool.or_false];rw[Bool.eq_iff_iff];simp only[Bool.or_eq_true,beq_iff_eq,decide_eq_true_eq,or_assoc]
section
variable{σ τ:aC}{P:Program}{ov:Ov}
theorem aN.later{β:Type}{Y:Nat->Prop}{c:Nat}{R:List Value->β->Prop}{p:Option Addr}{ts:List β}(h:aN σ Y c R p ts)(f:Frm σ τ NoB):aN τ Y c R p ts:=aN.step (S:=NoB) f (fun _ _ h=>h.elim) (fun _ _ h=>h) (fun _ _ h=>h) h
end
section
variable{σ σ':aC}{D:List Dc}{Y:Nat->Prop}{pn pd:Option Addr}{n cn cd:Nat}
theorem wp_types47(hT:aN σ Y 2 (dcR σ Y) pd D)(hD:D.length<=1000000)(hC:∀d∈D,d.cons.length<=1000000)(hA:∀d∈D,∀c∈d.cons,c.args.length<=1000000)(l5:(cV D).length<=100000000):
  WpF aG ovD 75 [trV pn n cn pd D.length cd] σ fun v σ'=>v=.bool (eH D)/\Frm σ σ' NoB:=by
 refine WpF.of (T75_eq _ _ _ _ _ _) rfl ?_;rw[T75];refine aJ fun σ1 c7 l4 f1=>?_;generalize l9:σ.n=A at f1;have j0:∀{i:Nat} (hi:i<D.length),dH (D.take (i+1))=dH (D.take i)++[D[i].nm]/\cV (D.take (i+1))=cV (D.take i)++D[i].cons.map (·.nm):=fun {i} hi=>by
  constructor
  ·unfold dH;rw[List.take_succ_eq_append_getElem hi,List.map_append];try rfl
  ·unfold cV;rw[List.take_succ_eq_append_getElem hi,List.flatMap_append];simp
 have k4:∀i,(cV (D.take i)).length<=(cV D).length:=fun i=>by
  have:cV D=cV (D.take i)++cV (D.drop i):=by unfold cV;rw[<-List.flatMap_append,List.take_append_drop]
  rw[this,List.length_append];omega
 have no:eH D=false->∀(τ:aC),Frm σ τ NoB->∀(i:Int) (a b:Option Addr) (na nb ca cb:Nat),Wp aG ovD (T75k12 ⟨A,0,some 0⟩ .ret [.int .i64 i,.slice a na ca,.slice b nb cb,.bool false]) τ fun _ vs σ'=>∃v,vs=[v]/\v=.bool (eH D)/\Frm σ σ' NoB:=by intro h τ hτ i a b na nb ca cb;simp only[wpS,T75k12];rw[h];exact⟨_,rfl,rfl,hτ⟩
 refine Wp.count D.length (fun i st σ'=>∃(rc:Nat) (qc:Option Addr) (kc rn:Nat) (qn:Option Addr) (kn:Nat),st=[.int .i64 ((i:Nat):Int),.slice qc (cV (D.take i)).length kc,.slice qn (dH (D.take i)).length kn,.bool false]/\SlE σ' rc qc kc 1 ((cV (D.take i)).map dA)/\SlE σ' rn qn kn 1 ((dH (D.take i)).map dA)/\
   (qc≠none->σ1.n<=rc)/\(qn≠none->σ1.n<=rn)/\(qc≠none->qn≠none->rc≠rn)/\Frm σ1 σ' NoB/\∀j (hj:j<D.length),j<i->okD D[j]=true)
  ⟨0,none,0,0,none,0,rfl,.inl ⟨rfl,rfl,rfl⟩,.inl ⟨rfl,rfl,rfl⟩,fun h=>absurd rfl h,fun h=>absurd rfl h,fun h=>absurd rfl h,Frm.refl _ _,fun j _ h=>by omega⟩ ?_ ?_
 ·rintro i st σ2 hi ⟨rc,qc,kc,rn,qn,kn,rfl,e2,c6,i0,e9,f9,a8,c4⟩;have ei:aP ((i:Int)+1)=((i+1:Nat):Int):=by rw[aS (by omega)];omega
  have d7:=a8.stN f1;have c8:=c7.seq a8;have j5:=a8.n;have d5:=hC _ (List.getElem_mem hi);have bad:okD D[i]=false->eH D=false:=fun h=>by rw[vW,nC hi h];try rfl
  obtain⟨tk1,tk2⟩:=j0 hi;have i5:=k4 (i+1);rw[tk2,List.length_append,List.length_map]at i5;have j4:(dH (D.take i)).length<=D.length:=by unfold dH;rw[List.length_map,List.length_take];omega
  have b0:okD D[i]=true->∀j (hj:j<D.length),j<i+1->okD D[j]=true:=fun h j hj h2=>by
   by_cases i2:j=i
   ·subst i2;exact h
   ·exact c4 j hj (by omega)
  generalize hd:D[i]=d at d5 bad tk1 tk2 i5 b0;unfold T75b1;simp only[wpS];rw[aB d7 rfl];simp only[wpS];rw[aA,if_pos (by simp;omega),aF,aB d7 rfl];simp only[wpS];refine cX (hT.later c8) hi rfl fun cs a0=>?_;rw[hd]at a0;obtain⟨q,k,rfl,d2⟩:=a0;simp only[wpS];refine aJ fun σ3 c9 g1 g3=>?_;refine aZ g3 rfl rfl fun σ4 e4 l3 a4=>?_;generalize hB:σ2.n=C at g3 a4 e4 g1;have e5:Frm σ2 σ4 NoB:=c9.fresh e4 fun j hj h=>by omega
  clear g3 c9 e4;simp only[wpS];rw[aB a4 rfl];simp only[wpS];rw[aE];refine ye _ fun σ5 i9=>?_;simp only[wpS];have a7:=e5.seq i9;have b6:=i9.stN a4;have l2:=a7.n;have e1:SlE σ5 rc qc kc 1 ((cV (D.take i)).map dA):=SlE.frm e2 a7 fun _ h=>h;have g4:SlE σ5 rn qn kn 1 ((dH (D.take i)).map dA):=SlE.frm c6 a7 fun _ h=>h;have e6:=a8.seq a7;have l8:C<σ5.n:=b6.1;clear e5 a4;have fail:okD d=false->Wp aG ovD (T75k3 qc (cV (D.take i)).length kc qn (dH (D.take i)).length kn ⟨C,0,some 0⟩ false .normal [.bool true]) σ5 fun e vs σ'=>Wp aG ovD (T75k4 ((i:Nat):Int) e vs) σ' fun e st' σ'=>match e with
    |.normal=>∃(rc:Nat) (qc:Option Addr) (kc rn:Nat) (qn:Option Addr) (kn:Nat),st'=[.int .i64 ((i+1:Nat):Int),.slice qc (cV (D.take (i+1))).length kc,.slice qn (dH (D.take (i+1))).length kn,.bool false]/\SlE σ' rc qc kc 1 ((cV (D.take (i+1))).map dA)/\SlE σ' rn qn kn 1 ((dH (D.take (i+1))).map dA)/\
      (qc≠none->σ1.n<=rc)/\(qn≠none->σ1.n<=rn)/\(qc≠none->qn≠none->rc≠rn)/\Frm σ1 σ' NoB/\∀j (hj:j<D.length),j<i+1->okD D[j]=true
    |e=>Wp aG ovD (T75k12 ⟨A,0,some 0⟩ e st') σ' fun _ vs σ'=>∃v,vs=[v]/\v=.bool (eH D)/\Frm σ σ' NoB:=by
   intro h;simp only[wpS,T75k3];rw[aA,if_pos rfl];simp only[wpS,T75k4];exact no (bad h) σ5 (c7.seq e6) _ _ _ _ _ _ _
  have good:(uJ d.nm&&!eG d.nm&&decide (1<=d.cons.length)&&decide (d.cons.length<=20))=true->Wp aG ovD (T75k3 qc (cV (D.take i)).length kc qn (dH (D.take i)).length kn ⟨C,0,some 0⟩ false .normal [.bool false]) σ5 fun e vs σ'=>Wp aG ovD (T75k4 ((i:Nat):Int) e vs) σ' fun e st' σ'=>match e with
    |.normal=>∃(rc:Nat) (qc:Option Addr) (kc rn:Nat) (qn:Option Addr) (kn:Nat),st'=[.int .i64 ((i+1:Nat):Int),.slice qc (cV (D.take (i+1))).length kc,.slice qn (dH (D.take (i+1))).length kn,.bool false]/\SlE σ' rc qc kc 1 ((cV (D.take (i+1))).map dA)/\SlE σ' rn qn kn 1 ((dH (D.take (i+1))).map dA)/\
      (qc≠none->σ1.n<=rc)/\(qn≠none->σ1.n<=rn)/\(qc≠none->qn≠none->rc≠rn)/\Frm σ1 σ' NoB/\∀j (hj:j<D.length),j<i+1->okD D[j]=true
    |e=>Wp aG ovD (T75k12 ⟨A,0,some 0⟩ e st') σ' fun _ vs σ'=>∃v,vs=[v]/\v=.bool (eH D)/\Frm σ σ' NoB:=by
   intro hh;have d4:okD d=d.cons.all okC:=by unfold okD;rw[hh];try rfl
   simp only[wpS,T75k3];rw[aA,if_neg (by simp),aB b6 rfl];simp only[wpS];refine kV (len:=(dH (D.take i)).length) g4 (by rw[List.length_map,Nat.mul_one]) (by decide) (by decide) rfl (by intro y hy;simp at hy;subst hy;rfl) (by omega) (by omega) fun σ6 rn6 off6 s6 kn6 f4 b7 d9=>?_;have g8:Frm σ1 σ6 NoB:=e6.trans f4 (fun _ _ h=>h) fun j hj h=>by have:=e9 h.1;omega
   have l1:=f4.n;have g7:SlE σ6 rc qc kc 1 ((cV (D.take i)).map dA):=SlE.frm e1 f4 fun h h2=>f9 h h2.1 h2.2;have k6:St σ6 C [.string (mkB d.nm),.slice q d.cons.length k]:=f4.st b6 fun h=>by have:=SlE.lt c6 h.1;omega
   have d3:σ1.n<=rn6:=by
    rcases b7 with⟨h1,rfl⟩|h
    ·exact e9 h1
    ·omega
   have f8:qc≠none->rc≠rn6:=by
    intro h;rcases b7 with⟨h1,rfl⟩|h1
    ·exact f9 h h1
    ·have:=SlE.lt e1 h;omega
   have l7:C≠rn6:=by
    rcases b7 with⟨h1,rfl⟩|h1
    ·have:=SlE.lt c6 h1;omega
    ·omega
   rw[<-List.map_singleton (f:=dA),<-List.map_append,<-tk1]at d9;have f7:(dH (D.take i)).length+1=(dH (D.take (i+1))).length:=by rw[tk1];simp
   simp only[wpS,f7];have k0:∀{j:Nat} (hj:j<d.cons.length),(d.cons.take (j+1)).map (·.nm)=(d.cons.take j).map (·.nm)++[d.cons[j].nm]:=fun {j} hj=>by
    rw[List.take_succ_eq_append_getElem hj,List.map_append];try rfl
   refine Wp.count d.cons.length (fun j st σ'=>∃(rc:Nat) (qc:Option Addr) (kc:Nat),st=[.int .i64 ((j:Nat):Int),.slice qc ((cV (D.take i)).length+j) kc,.bool false]/\SlE σ' rc qc kc 1 ((cV (D.take i)++(d.cons.take j).map (·.nm)).map dA)/\SlE σ' rn6 (some ⟨rn6,off6,some s6⟩) kn6 1 ((dH (D.take (i+1))).map dA)/\St σ' C [.string (mkB d.nm),.slice q d.cons.length k]/\
     (qc≠none->σ1.n<=rc)/\(qc≠none->rc≠rn6/\rc≠C)/\Frm σ1 σ' NoB/\σ6.n<=σ'.n/\∀m (hm:m<d.cons.length),m<j->okC d.cons[m]=true)
    ⟨rc,qc,kc,rfl,by simpa using g7,.inr ⟨off6,s6,rfl,d9⟩,k6,i0,fun h=>⟨f8 h,fun h2=>by have:=SlE.lt e2 h;omega⟩,g8,Nat.le_refl _,fun m _ h=>by omega⟩ ?_ ?_
   ·rintro j st σ7 hj ⟨rc7,qc7,kc7,rfl,a3,c5,d6,a5,a2,f3,g0,b8⟩;have ej:aP ((j:Int)+1)=((j+1:Nat):Int):=by rw[aS (by omega)];omega
    have g9:=c7.seq f3;have d1:=d2.later g9;have badc:okC d.cons[j]=false->eH D=false:=fun h=>bad (by rw[d4,nC hj h]);unfold T75b0;simp only[wpS];rw[aB d6 (i:=1) (v:=.slice q d.cons.length k) rfl];simp only[wpS];rw[aA,if_pos (by simp;omega)];simp only[wpS];rw[aB d6 (i:=1) (v:=.slice q d.cons.length k) rfl];simp only[wpS];refine cR d1 hj rfl (o:=0) (by decide) fun cs a0=>?_;obtain⟨q1,k1,rfl,_⟩:=a0;refine⟨_,rfl,?_⟩;simp only[wpS];rw[aE];refine ut _ fun σ8 e3=>?_;simp only[wpS];have f0:=e3.stN d6;have a6:=f3.seq e3;have a9:=d2.later (c7.seq a6);have l0:=e3.n;have badk:okC d.cons[j]=false->Wp aG ovD (T75k0 qc7 ((cV (D.take i)).length+j) kc7 ⟨C,0,some 0⟩ ((j:Nat):Int) false .normal [.bool true]) σ8 fun e vs σ'=>Wp aG ovD (T75k1 ((j:Nat):Int) e vs) σ' fun e st' σ'=>match e with
      |.normal=>∃(rc:Nat) (qc:Option Addr) (kc:Nat),st'=[.int .i64 ((j+1:Nat):Int),.slice qc ((cV (D.take i)).length+(j+1)) kc,.bool false]/\SlE σ' rc qc kc 1 ((cV (D.take i)++(d.cons.take (j+1)).map (·.nm)).map dA)/\SlE σ' rn6 (some ⟨rn6,off6,some s6⟩) kn6 1 ((dH (D.take (i+1))).map dA)/\St σ' C [.string (mkB d.nm),.slice q d.cons.length k]/\
        (qc≠none->σ1.n<=rc)/\(qc≠none->rc≠rn6/\rc≠C)/\Frm σ1 σ' NoB/\σ6.n<=σ'.n/\∀m (hm:m<d.cons.length),m<j+1->okC d.cons[m]=true
      |e=>Wp aG ovD (T75k2 (some ⟨rn6,off6,some s6⟩) (dH (D.take (i+1))).length kn6 e st') σ' fun e vs σ'=>Wp aG ovD (T75k4 ((i:Nat):Int) e vs) σ' fun e st' σ'=>match e with
       |.normal=>∃(rc:Nat) (qc:Option Addr) (kc rn:Nat) (qn:Option Addr) (kn:Nat),st'=[.int .i64 ((i+1:Nat):Int),.slice qc (cV (D.take (i+1))).length kc,.slice qn (dH (D.take (i+1))).length kn,.bool false]/\SlE σ' rc qc kc 1 ((cV (D.take (i+1))).map dA)/\SlE σ' rn qn kn 1 ((dH (D.take (i+1))).map dA)/\
         (qc≠none->σ1.n<=rc)/\(qn≠none->σ1.n<=rn)/\(qc≠none->qn≠none->rc≠rn)/\Frm σ1 σ' NoB/\∀j (hj:j<D.length),j<i+1->okD D[j]=true
       |e=>Wp aG ovD (T75k12 ⟨A,0,some 0⟩ e st') σ' fun _ vs σ'=>∃v,vs=[v]/\v=.bool (eH D)/\Frm σ σ' NoB:=by
     intro h;simp only[wpS,T75k0];rw[aA,if_pos rfl];simp only[wpS,T75k1,T75k2,T75k4];exact no (badc h) σ8 (c7.seq a6) _ _ _ _ _ _ _
    rw[aA];cases i4:conM d.cons[j].nm with
    |false=>rw[if_neg (by simp)];simp only[wpS];exact badk (by unfold okC;rw[i4];rfl)
    |true=>
    rw[if_pos (by rfl),aB f0 (i:=1) (v:=.slice q d.cons.length k) rfl];simp only[wpS];refine cR a9 hj rfl (o:=1) (by decide) fun cs a0=>?_;obtain⟨q2,k2,rfl,_⟩:=a0;refine⟨_,rfl,?_⟩;simp only[wpS];by_cases h3:d.cons[j].args.length<=3
    case neg=>rw[decide_eq_true (show((d.cons[j].args.length:Nat):Int)>3 by omega)];exact badk (by unfold okC;rw[decide_eq_false h3,Bool.and_false])
    rw[decide_eq_false (show ¬((d.cons[j].args.length:Nat):Int)>3 by omega)];simp only[wpS,T75k0];rw[aA,if_neg (by simp),aB f0 (i:=1) (v:=.slice q d.cons.length k) rfl];simp only[wpS];refine cR a9 hj rfl (o:=0) (by decide) fun cs a0=>?_;obtain⟨q3,k3,rfl,_⟩:=a0;refine⟨_,rfl,?_⟩;simp only[wpS];have j8:(cV (D.take i)++(d.cons.take j).map (·.nm)).length=(cV (D.take i)).length+j:=by rw[List.length_append,List.length_map,List.length_take];omega
    have g6:SlE σ8 rc7 qc7 kc7 1 ((cV (D.take i)++(d.cons.take j).map (·.nm)).map dA):=SlE.frm a3 e3 fun _ h=>h;refine kV (len:=(cV (D.take i)).length+j) g6 (by rw[List.length_map,j8,Nat.mul_one]) (by decide) (by decide) rfl (by intro y hy;simp at hy;subst hy;rfl) (by omega) (by omega) fun σ9 rc9 off9 s9 kc9 f2 f5 e0=>?_;simp only[wpS,T75k1,ej];have k9:=f2.n;rw[<-List.map_singleton (f:=dA),<-List.map_append,List.append_assoc,<-k0 hj]at e0;have d8:SlE σ8 rn6 (some ⟨rn6,off6,some s6⟩) kn6 1 ((dH (D.take (i+1))).map dA):=SlE.frm c5 e3 fun _ h=>h;have i6:σ1.n<=rc9/\rc9≠rn6/\rc9≠C:=by
     rcases f5 with⟨h1,rfl⟩|h1
     ·exact⟨a5 h1,a2 h1⟩
     ·have:=SlE.lt d8 (by simp);have:=f0.1;have:=a6.n;omega
    refine⟨rc9,_,kc9,by rw[Nat.add_assoc],.inr ⟨off9,s9,rfl,e0⟩,SlE.frm d8 f2 fun _ h=>(a2 h.1).1 h.2.symm,f2.st f0 fun h=>(a2 h.1).2 h.2.symm,fun _=>i6.1,fun _=>i6.2,a6.trans f2 (fun _ _ h=>h) fun m hm h=>by have:=a5 h.1;omega,by omega,fun m hm j6=>?_⟩;by_cases j7:m=j
    ·subst j7;unfold okC;rw[i4,decide_eq_true h3];try rfl
    ·exact b8 m hm (by omega)
   ·rintro st σ7 ⟨rc7,qc7,kc7,rfl,a3,c5,d6,a5,a2,f3,g0,b8⟩;rw[List.take_length]at a3;unfold T75b0;simp only[wpS];rw[aB d6 (i:=1) (v:=.slice q d.cons.length k) rfl];simp only[wpS];rw[aA,if_neg (by simp)];simp only[wpS,T75k2,T75k4,ei];have j9:(cV (D.take i)).length+d.cons.length=(cV (D.take (i+1))).length:=by rw[tk2,List.length_append,List.length_map]
    rw[j9];rw[<-tk2]at a3;exact⟨rc7,qc7,kc7,rn6,_,kn6,rfl,a3,c5,a5,fun _=>d3,fun h _=>(a2 h).1,f3,b0 (by rw[d4];exact zF fun m hm=>b8 m hm hm)⟩
  rw[aA];cases h1:uJ d.nm with
  |false=>rw[if_neg (by simp)];simp only[wpS];exact fail (by unfold okD;rw[h1];rfl)
  |true=>
  rw[if_pos (by rfl),aB b6 rfl];simp only[wpS,bR];rw[aA];by_cases b1:d.nm=[105,110,116]
  ·rw[if_neg (by simp[b1])];simp only[wpS];exact fail (by unfold okD eG;simp[b1])
  rw[if_pos (by simpa using b1),aB b6 rfl];simp only[wpS,bR];rw[aA];by_cases b2:d.nm=[98,111,111,108]
  ·rw[if_neg (by simp[b2])];simp only[wpS];exact fail (by unfold okD eG;simp[b2])
  rw[if_pos (by simpa using b2),aB b6 rfl];simp only[wpS,bR];rw[aA];by_cases b3:d.nm=[117,110,105,116]
  ·rw[if_neg (by simp[b3])];simp only[wpS];exact fail (by unfold okD eG;simp[b3])
  rw[if_pos (by simpa using b3),aB b6 rfl];simp only[wpS];rw[aA];by_cases b4:1<=d.cons.length
  case neg=>rw[if_neg (by simp;omega)];simp only[wpS];exact fail (by unfold okD;rw[decide_eq_false b4];simp)
  rw[if_pos (by simp;omega),aB b6 rfl];simp only[wpS];by_cases b5:d.cons.length<=20
  ·rw[decide_eq_false (show ¬((d.cons.length:Nat):Int)>20 by omega)];exact good (by unfold eG;simp[h1,b1,b2,b3,b4,b5])
  ·rw[decide_eq_true (show((d.cons.length:Nat):Int)>20 by omega)];exact fail (by unfold okD;rw[decide_eq_false b5];simp)
 ·rintro st σ2 ⟨rc,qc,kc,rn,qn,kn,rfl,e2,c6,i0,e9,f9,a8,c4⟩;rw[List.take_length]at e2 c6 ⊢;have d7:=a8.stN f1;have c8:=c7.seq a8;have j5:=a8.n;have j4:(dH D).length=D.length:=by unfold dH;rw[List.length_map]
  have e8:eH D=(decide (D.length<=20)&&!cP (dH D)&&!cP (cV D)&&D.all (qF D)):=by rw[vW,zF fun i hi=>c4 i hi hi];try rfl
  unfold T75b1;simp only[wpS];rw[aB d7 rfl];simp only[wpS];rw[aA,if_neg (by simp)];simp only[wpS,T75k12];rw[aB d7 rfl];simp only[wpS];have s11no:eH D=false->Wp aG ovD (T75k11 qn (dH D).length kn false ⟨A,0,some 0⟩ .normal [.bool true]) σ2 fun _ vs σ'=>∃v,vs=[v]/\v=.bool (eH D)/\Frm σ σ' NoB:=by
   intro h;simp only[wpS,T75k11];rw[aA,if_pos rfl];simp only[wpS];rw[h];exact⟨_,rfl,rfl,c8⟩
  rw[aA];by_cases c1:D.length<=20
  case neg=>rw[if_neg (by simp;omega)];simp only[wpS];exact s11no (by rw[e8,decide_eq_false c1];rfl)
  rw[if_pos (by simp;omega),aE];refine WpF.mono (sL (gZ c6) (by omega)) ?_;rintro _ σ2a ⟨rfl,rfl⟩;simp only[wpS];rw[aA];cases c2:cP (dH D)with
  |true=>rw[if_neg (by simp)];simp only[wpS];exact s11no (by rw[e8,c2];simp)
  |false=>
  rw[if_pos (by rfl),aE];refine WpF.mono (sL (gZ e2) (by omega)) ?_;rintro _ σ2b ⟨rfl,rfl⟩;simp only[wpS];cases c3:cP (cV D)with
  |true=>exact s11no (by rw[e8,c3];simp)
  |false=>
  have d0:eH D=D.all (qF D):=by rw[e8,c2,c3,decide_eq_true c1];try rfl
  simp only[wpS,T75k11];rw[aA,if_neg (by simp),aV,cM];have c9:=Frm.new σ2b [dA [105,110,116],dA [98,111,111,108],dA [117,110,105,116]] 1 NoB;have i8:=Row.new σ2b 1 [dA [105,110,116],dA [98,111,111,108],dA [117,110,105,116]] 3 (by decide) rfl (by intro y hy;simp at hy;rcases hy with rfl|rfl|rfl<;>rfl);have g1:(σ2b.newBlk [dA [105,110,116],dA [98,111,111,108],dA [117,110,105,116]] 1).n=σ2b.n+1:=rfl;rw[show([(.string (bs [105,110,116])),(.string (bs [98,111,111,108])),(.string (bs [117,110,105,116]))]:List Value)=[dA [105,110,116],dA [98,111,111,108],dA [117,110,105,116]] from rfl];generalize σ2b.newBlk [dA [105,110,116],dA [98,111,111,108],dA [117,110,105,116]] 1=σ3 at c9 i8 g1 ⊢;simp only[wpS];have g5:SlV σ3 rn qn kn ((dH D).map dA):=SlE.frm c6 c9 fun _ h=>h;refine wp_appR g5 (by simp) (.inr ⟨0,1,rfl,i8⟩) rfl (by omega) (by omega) fun σ4 rb qb kb e4 k8 i7=>?_;have e7:Frm σ1 σ4 NoB:=(a8.seq c9).trans e4 (fun _ _ h=>h) fun j hj h=>by have:=e9 h.1;omega
  have a1:=c7.seq e7;have a4:=e7.stN f1;rw[show [dA [105,110,116],dA [98,111,111,108],dA [117,110,105,116]]=[[105,110,116],[98,111,111,108],[117,110,105,116]].map dA from rfl,<-List.map_append]at i7;have k7:=gZ i7;have i1:(dH D++[[105,110,116],[98,111,111,108],[117,110,105,116]]).length=(dH D).length+3:=by simp
  rw[<-i1];have inn:∀(s:List UInt8),WpF aG ovD 101 [.slice qb (dH D++[[105,110,116],[98,111,111,108],[117,110,105,116]]).length kb,.string (mkB s)] σ4 fun v σ'=>v=.bool ((dH D).contains s||eG s)/\σ'=σ4:=by intro s;refine WpF.mono (wp_in77 (l:=dH D++[[105,110,116],[98,111,111,108],[117,110,105,116]]) (c:=kb) k7 (by rw[i1];omega) s) ?_;rintro _ _ ⟨rfl,rfl⟩;exact⟨by rw[in_basic],rfl⟩
  have no2:eH D=false->∀i:Int,Wp aG ovD (T75k10 .ret [.int .i64 i,.bool false]) σ4 fun _ vs σ'=>∃v,vs=[v]/\v=.bool (eH D)/\Frm σ σ' NoB:=by intro h i;simp only[wpS,T75k10];rw[h];exact⟨_,rfl,rfl,a1⟩
  refine Wp.count D.length (fun i st σ'=>σ'=σ4/\st=[.int .i64 ((i:Nat):Int),.bool false]/\∀j (hj:j<D.length),j<i->qF D D[j]=true) ⟨rfl,rfl,fun j _ h=>by omega⟩ ?_ ?_
  ·rintro i st σ5 hi ⟨rfl,rfl,f6⟩;have ei:aP ((i:Int)+1)=((i+1:Nat):Int):=by rw[aS (by omega)];omega
   have d5:=hC _ (List.getElem_mem hi);have g2:=hA _ (List.getElem_mem hi);have bad:qF D D[i]=false->eH D=false:=fun h=>by rw[d0,nC hi h]
   unfold T75b4;simp only[wpS];rw[aB a4 rfl];simp only[wpS];rw[aA,if_pos (by simp;omega)];simp only[wpS];refine Wp.count D[i].cons.length (fun j st σ'=>σ'=σ5/\st=[.int .i64 ((j:Nat):Int),.bool false]/\∀m (hm:m<D[i].cons.length),m<j->(D[i].cons[m].args.all fun a=>(dH D).contains a||eG a)=true) ⟨rfl,rfl,fun j _ h=>by omega⟩ ?_ ?_
   ·rintro j st σ6 hj ⟨rfl,rfl,c0⟩;have ej:aP ((j:Int)+1)=((j+1:Nat):Int):=by rw[aS (by omega)];omega
    have k5:=g2 _ (List.getElem_mem hj);have badc:(D[i].cons[j].args.all fun a=>(dH D).contains a||eG a)=false->eH D=false:=fun h=>bad (by unfold qF;exact nC hj h);unfold T75b3;simp only[wpS];rw[aB a4 rfl];simp only[wpS];refine cR (hT.later a1) hi rfl (o:=1) (by decide) fun cs a0=>?_;obtain⟨q1,k1,rfl,j3⟩:=a0;refine⟨_,rfl,?_⟩;simp only[wpS];rw[aA,if_pos (by simp;omega)];simp only[wpS];rw[aB a4 rfl];simp only[wpS];refine cR (hT.later a1) hi rfl (o:=1) (by decide) fun cs a0=>?_;obtain⟨q2,k2,rfl,j2⟩:=a0;refine⟨_,rfl,?_⟩;simp only[wpS];refine cR (j2.later a1) hj rfl (o:=1) (by decide) fun cs a0=>?_;obtain⟨q3,k3,rfl,j1,_⟩:=a0;refine⟨_,rfl,?_⟩;simp only[wpS];refine Wp.count D[i].cons[j].args.length (fun m st σ'=>σ'=σ6/\st=[.int .i64 ((m:Nat):Int),.bool false]/\∀a (ha:a<D[i].cons[j].args.length),a<m->((dH D).contains D[i].cons[j].args[a]||eG D[i].cons[j].args[a])=true) ⟨rfl,rfl,fun j _ h=>by omega⟩ ?_ ?_
    ·rintro m st σ7 hm ⟨rfl,rfl,b9⟩;have em:aP ((m:Int)+1)=((m+1:Nat):Int):=by rw[aS (by omega)];omega
     unfold T75b2;simp only[wpS];rw[aA,if_pos (by simp;omega)];simp only[wpS];refine cN (j1.later a1) hm rfl fun cs a0=>⟨_,a0,?_⟩;simp only[wpS];rw[aE];refine WpF.mono (inn _) ?_;rintro _ _ ⟨rfl,rfl⟩;simp only[wpS];rw[aA];cases i3:((dH D).contains D[i].cons[j].args[m]||eG D[i].cons[j].args[m])with
     |false=>rw[if_pos (by rfl)];simp only[wpS,T75k5,T75k6,T75k7,T75k8,T75k9];exact no2 (badc (nC hm i3)) _
     |true=>
      rw[if_neg (by simp)];simp only[wpS,T75k5,em];refine⟨trivial,trivial,fun a ha l6=>?_⟩;by_cases h2:a=m
      ·subst h2;exact i3
      ·exact b9 a ha (by omega)
    ·rintro st σ7 ⟨rfl,rfl,b9⟩;unfold T75b2;simp only[wpS];rw[aA,if_neg (by simp)];simp only[wpS,T75k6,T75k7,ej];refine⟨trivial,trivial,fun m hm j6=>?_⟩;by_cases h2:m=j
     ·subst h2;exact zF fun a ha=>b9 a ha ha
     ·exact c0 m hm (by omega)
   ·rintro st σ6 ⟨rfl,rfl,c0⟩;unfold T75b3;simp only[wpS];rw[aB a4 rfl];simp only[wpS];refine cR (hT.later a1) hi rfl (o:=1) (by decide) fun cs a0=>?_;obtain⟨q1,k1,rfl,j3⟩:=a0;refine⟨_,rfl,?_⟩;simp only[wpS];rw[aA,if_neg (by simp)];simp only[wpS,T75k8,T75k9,ei];refine⟨trivial,trivial,fun j hj i2=>?_⟩;by_cases h2:j=i
    ·subst h2;unfold qF;exact zF fun m hm=>c0 m hm hm
    ·exact f6 j hj (by omega)
  ·rintro st σ5 ⟨rfl,rfl,f6⟩;unfold T75b4;simp only[wpS];rw[aB a4 rfl];simp only[wpS];rw[aA,if_neg (by simp)];simp only[wpS,T75k10];rw[d0,zF fun i hi=>f6 i hi hi];exact⟨_,rfl,rfl,a1⟩
end
section
variable{ws:List Wd}{e:Nat}
theorem ux:∀(n:Nat) (l:List (List UInt8)) (r:Rs) (x),pN ws e n l r=some x->x.1.length<=l.length+n
 |0,_,_,_,h=>by cases h
 |n+1,l,r,x,h=>by
  rw[pN]at h;split at h
  ·have:=ux n _ _ _ h;rw[List.length_append,List.length_singleton]at this;omega
  ·have hx:=ofS h;subst hx;simp only;omega
theorem qf:∀(n:Nat) (l:List Cn) (more:Bool) (r:Rs) (x),pB ws e n l more r=some x->x.1.length<=l.length+n/\∀c∈x.1,c∈l\/c.args.length<=n+1
 |0,_,_,_,_,h=>by cases h
 |n+1,l,more,r,x,h=>by
  rw[pB]at h;split at h
  ·obtain⟨a,h1,h⟩:=aW h;obtain⟨h2,h3⟩:=qf n _ _ _ _ h;rw[List.length_append,List.length_singleton]at h2;have h4:a.1.length<=n+1:=by
    split at h1
    ·have:=ux n _ _ _ h1;rw[List.length_singleton]at this;omega
    ·have hx:=ofS h1;subst hx;simp
   refine⟨by omega,fun c hc=>?_⟩;rcases h3 c hc with h3|h3
   ·rcases List.mem_append.1 h3 with h3|h3
    ·exact .inl h3
    ·rw[List.mem_singleton.1 h3];exact .inr (by show a.1.length<=_;omega)
   ·exact .inr (by omega)
  ·have hx:=ofS h;subst hx;exact⟨by simp only;omega,fun c hc=>.inl hc⟩
theorem xu:∀(n:Nat) (l:List Dc) (r:Rs) (x),jL ws e n l r=some x->x.1.length<=l.length+n/\∀d∈x.1,d∈l\/(d.cons.length<=n/\∀c∈d.cons,c.args.length<=n+1)
 |0,_,_,_,h=>by cases h
 |n+1,l,r,x,h=>by
  rw[jL]at h;split at h
  ·obtain⟨a,h1,h⟩:=aW h;obtain⟨h2,h3⟩:=xu n _ _ _ h;obtain⟨h4,h5⟩:=qf _ _ _ _ _ h1;rw[List.length_append,List.length_singleton]at h2;refine⟨by omega,fun d hd=>?_⟩;rcases h3 d hd with h3|h3
   ·rcases List.mem_append.1 h3 with h3|h3
    ·exact .inl h3
    ·rw[List.mem_singleton.1 h3];refine .inr ⟨by show a.1.length<=_;simp at h4;omega,fun c hc=>?_⟩;rcases h5 c hc with h5|h5
     ·cases h5
     ·omega
   ·exact .inr ⟨by omega,fun c hc=>by have:=h3.2 c hc;omega⟩
  ·have hx:=ofS h;subst hx;exact⟨by simp only;omega,fun d hd=>.inl hd⟩
theorem xt(k:Nat):∀(D:List Dc),(∀d∈D,d.cons.length<=k)->(cV D).length<=D.length*k
 |[],_=>by simp[cV]
 |d::D,h=>by have h1:=h d (by simp);have h2:=xt k D fun x hx=>h x (by simp[hx]);have e1:cV (d::D)=d.cons.map (·.nm)++cV D:=rfl;rw[e1,List.length_append,List.length_map,List.length_cons,Nat.add_mul];omega
mutual
theorem flT_kids(p:Nat):∀t:Tm,∀v∈flT p t,v.kids.length<=szT t
 |.mk x l=>by
  intro v hv;rw[flT]at hv;rw[szT];rcases List.mem_cons.1 hv with rfl|hv
  ·have:=szL_len l;simp only[oL];omega
  ·have:=flL_kids (p+1) l v hv;omega
theorem flL_kids(p:Nat):∀l:List Tm,∀v∈flL p l,v.kids.length<=szL l
 |[]=>by intro v hv;cases hv
 |t::l=>by
  intro v hv;rw[flL]at hv;rw[szL];rcases List.mem_append.1 hv with hv|hv
  ·have:=flT_kids p t v hv;omega
  ·have:=flL_kids (p+szT t) l v hv;omega
end
theorem vy{S:List UInt8}:∀{a:Nat} {ws:List Wd},chain S a ws->∀w∈ws,w.t.length<=S.length
 |_,[],_,w,hw=>by cases hw
 |_,x::r,⟨_,h2,_,h4,_,_,h7⟩,w,hw=>by
  rcases List.mem_cons.1 hw with rfl|hw
  ·omega
  ·exact vy h7 w hw
end
section
variable{σ σ':aC}{N:List NV}{D:List Dc}{Y:Nat->Prop}{pn pd:Option Addr}{cn cd:Nat}
theorem wp_Good27(hK:∀v∈N,v.kids.length<=1000000)(hD:D.length<=1000000)(hC:∀d∈D,d.cons.length<=1000000)(hA:∀d∈D,∀c∈d.cons,c.args.length<=1000000)(a6:(cV D).length<=100000000)(hT:dL σ Y pn N pd D):
  WpF aG ovD 46 [trV pn N.length cn pd D.length cd] σ fun v σ'=>v=.bool (oO N D)/\Frm σ σ' NoB:=by
 refine WpF.of (T46_eq _ _ _ _ _ _) rfl ?_;rw[T46];refine aJ fun σ1 a2 a9 a1=>?_;generalize σ.n=A at a1;have fin:∀(b:Bool) (τ:aC),Frm σ τ NoB->b=oO N D->Wp aG ovD (T46k0 .normal [.bool b]) τ fun _ vs σ'=>∃v,vs=[v]/\v=.bool (oO N D)/\Frm σ σ' NoB:=by rintro b τ hτ rfl;simp only[wpS,T46k0];exact⟨_,rfl,rfl,hτ⟩
 simp only[wpS];rw[aB a1 rfl];simp only[wpS];rw[aA];by_cases c1:1<=N.length
 case neg=>rw[if_neg (by simp;omega)];simp only[wpS];exact fin _ σ1 a2 (by unfold oO;rw[decide_eq_false c1];rfl)
 rw[if_pos (by simp;omega),aB a1 rfl];simp only[wpS];rw[aA];by_cases c2:N.length<=1000
 case neg=>rw[if_neg (by simp;omega)];simp only[wpS];exact fin _ σ1 a2 (by unfold oO;rw[decide_eq_false c2];simp)
 rw[if_pos (by simp;omega),aL a1 2 rfl];simp only[wpS];rw[aE];refine WpF.mono (wp_types47 (hT.frm a2).decls hD hC hA a6) ?_;rintro _ σ2 ⟨rfl,a5⟩;simp only[wpS];have a0:=a2.seq a5;have a3:=a5.stN a1;rw[aA];cases c3:eH D with
 |false=>rw[if_neg (by simp)];simp only[wpS];exact fin _ σ2 a0 (by unfold oO;rw[c3];simp)
 |true=>
 rw[if_pos (by rfl),aL a3 2 rfl];simp only[wpS];rw[bC,aE];have hw:=wp_walk48 (cn:=cn) (cd:=cd) c2 hK hD hC 60 0 false σ2 (Nat.le_refl _) (by omega) (hT.frm a0);refine WpF.mono hw ?_;rintro _ σ3 ⟨rfl,a4⟩;simp only[wpS];have a7:=a4.stN a3;rw[aB a7 rfl,aO];refine⟨past_ok (a3.ldF rfl),?_⟩;simp only[wpS];refine fin _ σ3 (a0.seq a4) ?_;unfold oO;rw[c3,decide_eq_true c1,decide_eq_true c2];simp only[Bool.true_and];cases a8:bY N D 60 0 false with
 |none=>rw[decide_eq_false (by simp),beq_eq_false_iff_ne];show(-1:Int)≠_;omega
 |some e=>
  by_cases he:e=N.length
  ·rw[he,decide_eq_true rfl,beq_iff_eq];try rfl
  ·rw[decide_eq_false (fun h=>he (Option.some.inj h)),beq_eq_false_iff_ne];show((e:Nat):Int)≠_;omega
theorem wcs_rows{b off s c:Nat}{ws:List Wd}{Y:Nat->Prop}(h:Row σ b off s c 4 (wcs ws))(hb:¬Y b):aN σ Y 4 (fun cs w=>cs=wc w) (some ⟨b,off,some s⟩) ws:=
 aN.own (css:=ws.map wc) (by rw[show(ws.map wc).flatten=wcs ws from(List.flatMap_def).symm];exact h) hb (by simp) (by intro cs a0;obtain⟨w,_,rfl⟩:=List.mem_map.1 a0;rfl) (fun i h1 h2=>by simp)
abbrev noTree:Value:=.agg #[.slice none 0 0,.slice none 0 0]
theorem yY(S:List UInt8){Q:Value->aC->Prop}
  (c1:zj S=none\/4000<S.length->∀e a σ',Frm σ σ' NoB->e≠0->Q (.tuple #[noTree,.int .i64 e,.int .i64 a]) σ')
  (c9:∀N D,zj S=some (N,D)->∀pn cn pd cd σ',Frm σ σ' NoB->dL σ' (fun j=>j<σ.n) pn N pd D->(∀v∈N,v.kids.length<=1000000)->D.length<=1000000->(∀d∈D,d.cons.length<=1000000)->(∀d∈D,∀c∈d.cons,c.args.length<=1000000)->(cV D).length<=100000000->Q (.tuple #[trV pn N.length cn pd D.length cd,.int .i64 0,.int .i64 0]) σ'):
  WpF aG ovD 29 [.string (mkB S)] σ Q:=by
 refine WpF.of (T29_eq _) rfl ?_;rw[T29];refine aJ fun σ1 d7 i7 d6=>?_;generalize hA:σ.n=A at d6;rw[aE];refine wp_lexD S ?_ ?_
 case refine_2=>
  intro he e a σ2 a9 h0;have b1:zj S=none\/4000<S.length:=by
   rcases he with he|⟨x,he⟩
   ·exact .inr he
   ·refine .inl ?_;unfold zj;rw[he]
  simp only[wpS];rw[aA,if_pos (by simpa using h0)];refine aZ (a9.stN d6) rfl rfl fun σ3 b8 f5 c3=>?_;rw[aL c3 2 rfl];simp only[wpS];exact⟨_,rfl,c1 b1 e a σ3 ((d7.seq a9).fresh b8 fun j hj h=>by omega) h0⟩
 intro ws hl a4 σ2 bw pw cw a9 g5 i8 i2;have e0:=d7.seq a9;have g4:=a9.stN d6;simp only[wpS];rw[aA,if_neg (by simp)];refine aJ fun σ3 b8 f5 c3=>?_;have f6:=d7.n;have i6:=a9.n;generalize hB:σ2.n=B at c3;have f9:chain S 0 ws:=(sA S _ 0 0 ws (Nat.zero_le _) (by unfold zq at a4;rw[List.drop_zero];exact a4)).1;have hW:∀w∈ws,w.t.length<=1000000:=fun w hw=>by have:=vy f9 w hw;omega
 have b0:aN σ3 (fun j=>j=B\/B<=j) 4 (fun cs w=>cs=wc w) pw ws:=by
  rcases g5 with⟨rfl,_,h0⟩|⟨off,s,rfl,hR⟩
  ·have:ws=[]:=by have:=wcs_len ws;rw[h0]at this;exact List.eq_nil_of_length_eq_zero (by simp at this;omega)
   rw[this];exact aN.nil
  ·refine wcs_rows (b8.rowN hR) ?_;have:=hR.lt;omega
 have g7:Rdr σ3 B B pw cw ws S.length ⟨0,false⟩:=⟨c3,b0,by omega,by omega,hl,Nat.zero_le _⟩;obtain⟨d,hd⟩:=xK (ws:=ws) (e:=S.length) (ws.length+2) [] ⟨0,false⟩ (Nat.zero_le _) (by unfold left;simp);have f8:=qr _ _ _ _ hd;have f7:=f8.len (Nat.zero_le _);obtain⟨t,ht⟩:=parse_some (ws:=ws) (e:=S.length) ((ws.length+2)*16) .expr d.2 f7 trivial (by
  have:left ws d.2<=ws.length+1:=by unfold left;split<;>omega
  show left ws d.2*16+13<_;omega)
 have a0:zj S=if t.2.bad=true\/t.2.p<ws.length then none else if 0<=dpT 0 1 (-1) t.1 then none else if oO (flT 0 t.1) d.1=true then some (flT 0 t.1,d.1) else none:=by unfold zj;rw[a4];simp only;rw[hd,Option.bind_some,ht,Option.bind_some]
 rw[aE];refine WpF.mono (wp_decls hd g7) ?_;rintro _ σ4 ⟨qd,kd,rfl,f0,g6,e4⟩;simp only[wpS];rw[aE];refine WpF.mono (wp_reader hW _ .expr d.2 t σ4 rfl trivial ht g6) ?_;rintro _ σ5 ⟨bt,rfl,g2,c4,c8⟩;simp only[wpS];have i5:=e4.n;have i4:=c8.n;have b7:=e4.seq c8;have a7:Frm σ σ5 NoB:=(e0.seq b8).fresh b7 fun j hj h=>by omega
 have i1:A≠B:=by omega
 have b4:St σ5 A [.slice none 0 0,.slice none 0 0]:=b7.st (b8.stN g4) i1;rw[aB c4.st rfl];simp only[wpS];have next:∀b:Bool,(b=true↔t.2.bad=true\/t.2.p<ws.length)->Wp aG ovD (T29k0 ⟨B,0,some 0⟩ ⟨A,0,some 0⟩ (some ⟨bt,0,some 0⟩) qd d.1.length kd .normal [.bool b]) σ5 fun _ vs σ'=>∃v,vs=[v]/\Q v σ':=by
  intro b hb;simp only[wpS,T29k0];rw[aA];by_cases hc:t.2.bad=true\/t.2.p<ws.length
  ·rw[if_pos hc]at a0;rw[if_pos (hb.2 hc),aE];refine WpF.mono (dX c4) ?_;rintro _ σ6 ⟨rfl,b6⟩;unfold wc;simp only[wpS];refine aZ (b6.stN b4) rfl rfl fun σ7 b5 f4 a5=>?_;rw[aL a5 2 rfl];simp only[wpS];exact⟨_,rfl,c1 (.inl a0) _ _ σ7 ((a7.seq b6).fresh b5 fun j hj h=>by omega) (by decide)⟩
  rw[if_neg hc]at a0;rw[if_neg fun h=>hc (hb.1 h)];rw[not_or]at hc;have d2:t.2.bad=false:=by simpa using hc.1
  have e9:=parse_size _ _ _ _ (show Pre ws .expr d.2 from trivial) ht d2;have e8:szT t.1<=4000:=by have h1:=e9.2;have h2:=c4.pl;simp only[Fn.acc]at h1;omega
  refine aJ fun σ6 b6 i3 d4=>?_;generalize i9:σ5.n=F at d4;rw[aE];have g1:TmB σ6 (fun j=>F<=j) bt t.1:=g2.step (S:=NoB) b6 (fun _ _ h=>h.elim) fun j hj h=>by omega
  have d1:=wp_put F F (.slice none 0 0) rfl (szT t.1) t.1 (Nat.le_refl _) σ6 bt 0 [] [] none 0 (fun j=>j<σ6.n) (-1) 1 g1 (Nat.le_refl _) (fun h=>absurd rfl h) (by omega) d4 .zero (fun _ h=>h) d4.1 (by simp;omega) (by omega);refine WpF.mono d1 ?_;rintro _ σ7 ⟨p7,c7,rb7,css7,rfl,a5,e3,b5,d0⟩;simp only[wpS];have f4:=b5.n;simp only[List.length_nil,Nat.zero_add,List.nil_append]at a5 e3;have a6:Frm σ5 σ7 NoB:=b6.fresh b5 fun j hj h=>by
   rcases h with h|⟨h,_⟩
   ·omega
   ·exact h rfl
  have d9:=a7.seq a6;have d5:=a6.stN b4;rw[aB a5 rfl];simp only[wpS];rw[aA];by_cases a1:0<=dpT 0 1 (-1) t.1
  ·rw[if_pos a1]at a0;rw[if_pos (by simpa using a1),aB a5 rfl];simp only[wpS];refine aZ d5 rfl rfl fun σ8 a8 f3 b2=>?_;rw[bC,aO];refine⟨kI ((a8.st a5 (by have:=b4.1;omega)).ldF rfl),?_⟩;rw[aL b2 2 rfl];simp only[wpS];exact⟨_,rfl,c1 (.inl a0) _ _ σ8 (d9.fresh a8 fun j hj h=>by omega) (by decide)⟩
  rw[if_neg a1]at a0;rw[if_neg (by simpa using a1)];have j0:F≠A:=by have:=b4.1;omega
  simp only[bS];refine aT a5 (by simp) rfl fun σ8 a8 f3 b2=>?_;simp only[List.set_cons_succ,List.set_cons_zero]at b2;have a3:(flT 0 t.1).length=szT t.1:=flT_len 0 t.1;rw[aV,show aadd ⟨F,0,some 0⟩ 0=⟨F,0,some 0⟩ from rfl,b2.ldN (off:=0) (k:=2) (by simp)];simp only[wpS,List.drop_zero,List.take_succ_cons,List.take_zero];have i0:Frm σ6 σ8 (· =F):=(b5.mono fun j _ h=>by rcases h with h|⟨h,_⟩;exact h;exact absurd rfl h).seq a8;have a2:Frm σ5 σ8 NoB:=a6.fresh a8 fun j hj h=>by omega
  have d8:=a7.seq a2;have f1:rb7≠F:=by
   rcases d0 with⟨h,_⟩|h
   ·exact absurd rfl h
   ·omega
  have e2:dL σ8 (fun j=>j<=A) (some p7) (flT 0 t.1) qd d.1:=by
   constructor
   ·have g8:=GR.step (Y':=fun j=>j<=A) dG e3 a8 (fun j _ h=>by show j<σ6.n;rw[h];omega) (fun j _ h=>by show j<σ6.n;omega);exact g8.close dG (by decide)
   ·exact aN.step (c8.seq a2.no) (fun j _ h=>.inl h) (fun j _ h=>.inr (by omega)) (fun _ _ h=>cW _ _ _ _ _ _ _ (c8.seq a2.no) (fun j _ h=>.inl h) (fun j _ h=>.inr (by omega)) h) f0
  have hK:∀v∈flT 0 t.1,v.kids.length<=1000000:=fun v hv=>by have:=flT_kids 0 t.1 v hv;omega
  obtain⟨l1,l2⟩:=xu _ _ _ _ hd;simp only[List.length_nil,Nat.zero_add]at l1;have e5:d.1.length<=1000000:=by omega
  have e6:∀x∈d.1,x.cons.length<=2002:=fun x hx=>by
   rcases l2 x hx with h|h
   ·cases h
   ·omega
  have e7:∀x∈d.1,∀c∈x.cons,c.args.length<=1000000:=fun x hx c hc=>by
   rcases l2 x hx with h|h
   ·cases h
   ·have:=h.2 c hc;omega
  have e1:(cV d.1).length<=100000000:=by have h1:=xt 2002 d.1 e6;have h2:d.1.length*2002<=2002*2002:=Nat.mul_le_mul_right _ (by omega);omega
  have c0:∀x∈d.1,x.cons.length<=1000000:=fun x hx=>by have:=e6 x hx;omega
  rw[<-a3];rw[aE];refine WpF.mono (wp_Good27 hK e5 c0 e7 e1 e2) ?_;rintro _ σ9 ⟨rfl,c6⟩;simp only[wpS];have g3:=c6.stN b2;have b3:=(a2.seq c6).stN b4;have b9:=d8.seq c6;rw[aA];cases hg:oO (flT 0 t.1) d.1 with
  |false=>rw[hg,if_neg (by simp)]at a0;rw[if_pos (by rfl)];refine aZ b3 rfl rfl fun σa c5 f2 d3=>?_;rw[aL d3 2 rfl];simp only[wpS];exact⟨_,rfl,c1 (.inl a0) _ _ σa (b9.fresh c5 fun j hj h=>by omega) (by decide)⟩
  |true=>
   rw[hg,if_pos rfl]at a0;rw[if_neg (by simp)];rw[aV,g3.ldN (off:=0) (k:=2) (by simp)];simp only[wpS,List.drop_zero,List.take_succ_cons,List.take_zero];refine aZ b3 rfl rfl fun σa c5 f2 d3=>?_;rw[aL d3 2 rfl];simp only[wpS];have g9:Frm σ σa NoB:=b9.fresh c5 fun j hj h=>by omega
   have g0:dL σa (fun j=>j<σ.n) (some p7) (flT 0 t.1) qd d.1:=dL.step (e2.frm c6) c5 (fun j _ h=>by show j<=A;omega) (fun j _ h=>by show j<=A;omega);have hq:=c9 (flT 0 t.1) d.1 a0 (some p7) c7 qd kd σa g9 g0 hK e5 c0 e7 e1;unfold trV at hq;rw[a3]at hq;exact⟨_,rfl,hq⟩
 rw[aA];by_cases hb:t.2.bad=true
 ·rw[if_neg (by simp[hb])];simp only[wpS];exact next true ⟨fun _=>.inl hb,fun _=>rfl⟩
 ·rw[if_pos (by simpa using hb),aB c4.st rfl];simp only[wpS];refine next _ ?_
  rw[decide_eq_true_eq];constructor
  ·intro h;exact .inr (by omega)
  ·rintro(h|h)
   ·exact absurd h hb
   ·omega
end
section
variable{σ:aC}{Y:Nat->Prop}{N:List NV}{D:List Dc}{pn pd:Option Addr}{n cn cd A:Nat}
theorem wp_Of30(h:aN σ Y 2 (dcR σ Y) pd D)(hD:D.length<=1000000)(hC:∀d∈D,d.cons.length<=1000000)(s:List UInt8):
  WpF aG ovD 111 [trV pn n cn pd D.length cd,.string (mkB s)] σ fun v σ'=>v=ofV (ofD s 0 D)/\Frm σ σ' NoB:=by
 refine WpF.of (T111_eq _ _ _ _ _ _ _) rfl ?_;rw[T111];refine aJ fun σ1 c1 c7 b2=>?_;generalize σ.n=A at b2;rw[aB b2 (v:=.slice pd D.length cd) rfl];simp only[wpS];refine Wp.count D.length (fun j st σ'=>Frm σ σ' NoB/\st=[.int .i64 ((j:Nat):Int),.bool false,.int .i64 0,.int .i64 0]/\∀i (hi:i<D.length),i<j->ofC s 0 D[i].cons=none) ⟨c1,rfl,fun i _ h=>by omega⟩ ?_ ?_
 ·rintro j st σ2 hj ⟨a8,rfl,a0⟩;have ej:aP ((j:Int)+1)=((j+1:Nat):Int):=by rw[aS (by omega)];omega
  have d0:=hC _ (List.getElem_mem hj);have h2:=h.frmM cW a8;unfold T111b1;simp only[wpS];rw[aA,if_pos (by simp;omega),aF];refine cX h2 hj rfl fun cs b1=>?_;obtain⟨q,k,rfl,a9⟩:=b1;simp only[wpS];refine aJ fun σ3 c0 c6 b6=>?_;refine aZ b6 rfl rfl fun σ4 b9 c5 b5=>?_;have a5:Frm σ2 σ4 NoB:=c0.fresh b9 fun j hj h=>by omega
  have a6:=a8.seq a5;rw[aB b5 (v:=.slice q D[j].cons.length k) rfl];simp only[wpS];have a2:=a9.frmM eB a5;refine Wp.count D[j].cons.length (fun m st σ'=>Frm σ4 σ' NoB/\st=[.int .i64 ((m:Nat):Int),.bool false,.int .i64 0,.int .i64 0]/\∀k (hk:k<D[j].cons.length),k<m->D[j].cons[k].nm≠s) ⟨Frm.refl _ _,rfl,fun k _ h=>by omega⟩ ?_ ?_
  ·rintro m st σ5 hm ⟨a4,rfl,a7⟩;have em:aP ((m:Int)+1)=((m+1:Nat):Int):=by rw[aS (by omega)];omega
   have a1:=a2.frmM eB a4;unfold T111b0;simp only[wpS];rw[aA,if_pos (by simp;omega),aF];refine cX a1 hm rfl fun cs b1=>?_;obtain⟨q2,k2,rfl,_,_⟩:=b1;simp only[wpS];refine aJ fun σ6 b8 c4 b4=>?_;refine aZ b4 rfl rfl fun σ7 b7 c3 b3=>?_;have a3:Frm σ5 σ7 NoB:=b8.fresh b7 fun j hj h=>by omega
   rw[aB b3 (v:=.string (mkB D[j].cons[m].nm)) rfl];simp only[wpS,eP];rw[aA];by_cases he:D[j].cons[m].nm=s
   ·rw[if_pos (by simpa using he)];simp only[wpS,T111k0,T111k1,T111k2,T111k3];have hc:=ofC_at s D[j].cons 0 m hm (fun i hi=>a7 i (by omega) hi) he;rw[ofD_at s D 0 j hj (fun i hi=>a0 i (by omega) hi) _ hc,sZ];simp only[Nat.zero_add];exact⟨_,rfl,rfl,(a6.seq a4).seq a3⟩
   ·rw[if_neg (by simpa using he)];simp only[wpS,T111k0,em];refine⟨a4.seq a3,trivial,fun k hk c8=>?_⟩;by_cases b0:k=m
    ·subst b0;exact he
    ·exact a7 k hk (by omega)
  ·rintro st σ5 ⟨a4,rfl,a7⟩;unfold T111b0;simp only[wpS];rw[aA,if_neg (by simp)];simp only[wpS,T111k1,T111k2,ej];refine⟨a6.seq a4,trivial,fun i hi c9=>?_⟩;by_cases h2:i=j
   ·subst h2;exact ofC_no s _ 0 fun k hk=>a7 k hk hk
   ·exact a0 i hi (by omega)
 ·rintro st σ2 ⟨a8,rfl,a0⟩;unfold T111b1;simp only[wpS];rw[aA,if_neg (by simp)];simp only[wpS,T111k3];rw[ofD_no s D 0 fun i hi=>a0 i hi hi,yk];exact⟨_,rfl,rfl,a8⟩
structure Ask(σ:aC)(A:Nat)(pn:Option Addr)(N:List NV)(cn:Nat)(pd:Option Addr)(D:List Dc)(cd:Nat)(steps:Nat):Prop where
 st:St σ A [.slice pn N.length cn,.slice pd D.length cd,.int .i64 ((steps:Nat):Int)]
 tree:dL σ (· =A) pn N pd D
 nl:N.length<=1000000
 dl:D.length<=1000000
 cl:∀d∈D,d.cons.length<=1000000
 kl:∀v∈N,v.kids.length<=1000000
 al:∀d∈D,∀c∈d.cons,c.args.length<=1000000
variable{steps:Nat}
theorem Ask.frm{σ':aC}(h:Ask σ A pn N cn pd D cd steps)(f:Frm σ σ' NoB):Ask σ' A pn N cn pd D cd steps:=⟨f.stN h.st,h.tree.frm f,h.nl,h.dl,h.cl,h.kl,h.al⟩
theorem tZ(i:Int):WpF aG ovD 49 [.int .i64 i] σ fun v σ'=>v=.bool (decide (21<=i/\i<=26))/\σ'=σ:=by
 refine WpF.of (T49_eq _) rfl ?_;rw[T49];simp only[wpS];refine⟨_,rfl,?_,trivial⟩
 congr 1
 by_cases h1:21<=i<;>by_cases h2:i<=26<;>simp[h1,h2]
theorem Ask.bump{σ σ':aC}{n n':Nat}(h:Ask σ A pn N cn pd D cd n)(f:Frm σ σ' (· =A))(hS:St σ' A [.slice pn N.length cn,.slice pd D.length cd,.int .i64 ((n':Nat):Int)]):Ask σ' A pn N cn pd D cd n':=
 ⟨hS,h.tree.step (Y':=(· =A)) f (fun _ _ h=>h) fun _ _ h=>h,h.nl,h.dl,h.cl,h.kl,h.al⟩
end
theorem wp_mkMap{P:Program}{ov:Ov}{σ:aC}{g:Option Nat->Pg}{Q:bW}(k:∀σ',Frm σ σ' NoB->σ'.n=σ.n+1->σ'.get σ.n=some (.map [])->Wp P ov (g (some σ.n)) σ' Q):Wp P ov (.act eZ fun v=>qt v g) σ Q:=by rw[aV,show eZ σ=some (.map (some σ.n),σ.push (.map [])) from rfl];simp only[asMap_map];refine k _ ⟨by simp[aC.push],rfl,fun _ hj _=>pJ σ _ hj,fun f j hj=>by simp only[aC.push]at hj;rw[aC.get_push,if_neg (by omega)];exact f j (by omega)⟩ rfl (by rw[aC.get_push,if_pos rfl])
section
variable{σ σ':aC}{Y:Nat->Prop}{N:List NV}{D:List Dc}{pn pd:Option Addr}
structure gT(σ:aC)(Y:Nat->Prop)(pn:Option Addr)(N:List NV)(pd:Option Addr)(D:List Dc):Prop where
 tree:dL σ Y pn N pd D
 nl:N.length<=1000000
 dl:D.length<=1000000
 cl:∀d∈D,d.cons.length<=1000000
 kl:∀v∈N,v.kids.length<=1000000
 al:∀d∈D,∀c∈d.cons,c.args.length<=1000000
theorem gT.step{S Y':Nat->Prop}(h:gT σ Y pn N pd D)(f:Frm σ σ' S)(hS:∀j,j<σ.n->S j->Y j)(hY:∀j,j<σ.n->Y' j->Y j):gT σ' Y' pn N pd D:=⟨h.tree.step f hS hY,h.nl,h.dl,h.cl,h.kl,h.al⟩
theorem gT.frm(h:gT σ Y pn N pd D)(f:Frm σ σ' NoB):gT σ' Y pn N pd D:=⟨h.tree.frm f,h.nl,h.dl,h.cl,h.kl,h.al⟩
end
theorem gT.low{σ:aC}{Y:Nat->Prop}{pn pd:Option Addr}{N:List NV}{D:List Dc}(h:gT σ Y pn N pd D):gT σ NoB pn N pd D:=h.step (S:=NoB) (Frm.refl _ _) (fun _ _ h=>h.elim) fun _ _ h=>h.elim
section
variable{σ:aC}{Y:Nat->Prop}
theorem keepN{β:Type}{c:Nat}{R:List Value->β->Prop}{p:Option Addr}{ts:List β}(h:aN σ Y c R p ts){i:Nat}(hi:i<ts.length):∃x cs,p=some x/\R cs ts[i]/\∀τ,Frm σ τ NoB->Go.Pg.ldN c (aadd x (i*c)) τ=some (.agg cs.toArray,τ):=by obtain⟨x,cs,rfl,h1,h2,h3⟩:=h i hi;refine⟨x,cs,rfl,h3,fun τ f=>?_⟩;unfold Go.Pg.ldN;rw[gX f h1 fun _ _ h=>h.elim,h2]
theorem cQ{a:Act}{v:Value}{l:List (Act×Value)}(h:a σ=some (v,σ))(hl:chks l σ=true):chks ((a,v)::l) σ=true:=by unfold chks pK;rw[h,hl];simp[lZ]
end
section
variable{N:List NV}{D:List Dc}
theorem kidsW_at{q:Nat->Bool->Option Nat}{R:Nat->Nat->Prop}(hq:∀p b e,q p b=some e->p<e/\∀i,p<=i->i<e->R i e)(hR:∀i a b,R i a->a<=b->R i b)(pat:Nat->Bool):
  ∀(l:List Nat) (i next e:Nat),gN q pat l i next=some e->next<=e/\∀j,next<=j->j<e->R j e
 |[],i,next,e,h=>by cases ofS h;exact⟨Nat.le_refl _,fun j h1 h2=>by omega⟩
 |k::l,i,next,e,h=>by
  rw[gN]at h;split at h
  ·rename_i hk;subst hk;obtain⟨a,h1,h⟩:=aW h;obtain⟨p1,p2⟩:=hq _ _ _ h1;obtain⟨q1,q2⟩:=kidsW_at hq hR pat l (i+1) a e h;refine⟨by omega,fun j h3 h4=>?_⟩;by_cases h5:j<a
   ·exact hR _ _ _ (p2 j h3 h5) q1
   ·exact q2 j (by omega) h4
  ·cases h
theorem walk_at:∀(n p:Nat) (pat:Bool) (e:Nat),bY N D n p pat=some e->p<e/\∀i,p<=i->i<e->∃m b e',e'<=e/\bY N D m i b=some e'
 |0,_,_,_,h=>by cases h
 |n+1,p,pat,e,h=>by
  have h0:=h;rw[bY]at h;split at h
  ·cases h
  ·rename_i v hv;split at h
   ·rename_i hs;obtain⟨a,h1,h⟩:=aW h;split at h
    ·cases h
    ·have hx:=ofS h;subst hx;obtain⟨q1,q2⟩:=kidsW_at (R:=fun i e=>∃m b e',e'<=e/\bY N D m i b=some e') (walk_at n) (fun i a b ⟨m,c,e',h1,h2⟩ h3=>⟨m,c,e',by omega,h2⟩) _ _ _ _ _ h1;refine⟨by omega,fun i h2 h3=>?_⟩;by_cases h4:i=p
     ·subst h4;exact⟨n+1,pat,_,Nat.le_refl _,h0⟩
     ·exact q2 i (by omega) h3
   ·cases h
end
def vC(v:Vl)(q:Option Addr)(c:Nat)(p:Option Addr):List Value:=[.int .i64 v.k,.int .i64 v.n,.string (mkB v.nm),.slice q v.args.length c,.int .i64 v.node,.pointer p,.int .i64 v.at_]
abbrev uO(z:Int):Value:=.int .i64 z
section
variable(w:Nat)(σ:aC)(Y:Nat->Prop)
mutual
def VlR:Vl->List Value->Prop
 |.mk k n nm l d e a,cs=>∃q c p z,cs=vC (.mk k n nm l d e a) q c p++List.map uO z/\z.length+7=w/\VsR q 0 l/\Emp σ Y q/\EnR e p
def VsR(q:Option Addr)(i:Nat):List Vl->Prop
 |[]=>True
 |v::l=>(∃x cs,q=some x/\Vis σ Y x/\σ.rdN (aadd x (i*w)) w=some cs/\VlR v cs)/\VsR q (i+1) l
def EnR:En->Option Addr->Prop
 |.nil,p=>p=none
 |.cons nm v u,p=>∃x cs pu,p=some x/\Vis σ Y x/\σ.rdN x (w+2)=some (.string (mkB nm)::(cs++[.pointer pu]))/\VlR v cs/\EnR u pu
end
def vlR(w:Nat)(σ:aC)(Y:Nat->Prop)(cs:List Value)(v:Vl):Prop:=VlR w σ Y v cs
structure VlP(v:Vl)(q p:Option Addr):Prop where
 row:aN σ Y w (vlR w σ Y) q v.args
 emp:Emp σ Y q
 env:EnR w σ Y v.env p
def LkR:List (Int×Int)->Option Addr->Prop
 |[],p=>p=none
 |c::r,p=>∃x pu,p=some x/\Vis σ Y x/\σ.rdN x 4=some [.int .i64 c.1,.int .i64 c.2,.pointer pu,.int .i64 ((r.length+1:Nat):Int)]/\LkR r pu
def atI:Option Nat->Int
 |none=> -1
 |some i=>((i:Nat):Int)
def WtR:List Wt->Option Addr->Prop
 |[],p=>p=none
 |w::r,p=>∃x pe q c pc pu,p=some x/\Vis σ Y x/\σ.rdN x 5=some [.int .i64 (atI w.at_),.pointer pe,.slice q w.vals.length c,.pointer pc,.pointer pu]/\EnR 7 σ Y w.env pe/\aN σ Y 7 (vlR 7 σ Y) q w.vals/\Emp σ Y q/\LkR σ Y w.calls pc/\WtR r pu
end
section
variable{w:Nat}{σ σ':aC}{Y Y' S:Nat->Prop}
theorem VsR_row:∀{l:List Vl} {q:Option Addr} {i:Nat},VsR w σ Y q i l↔∀j (h:j<l.length),∃x cs,q=some x/\Vis σ Y x/\σ.rdN (aadd x ((i+j)*w)) w=some cs/\VlR w σ Y l[j] cs
 |[],q,i=>by rw[VsR];exact⟨fun _ j h=>absurd h (Nat.not_lt_zero _),fun _=>trivial⟩
 |v::l,q,i=>by
  rw[VsR,VsR_row];constructor
  ·rintro⟨h1,h2⟩ j hj;cases j with
   |zero=>exact h1
   |succ j=>have:=h2 j (by simpa using hj);rwa[show i+1+j=i+(j+1) by omega]at this
  ·intro h;refine⟨h 0 (by simp),fun j hj=>?_⟩;have:=h (j+1) (by simpa using hj);rwa[show i+(j+1)=i+1+j by omega]at this
theorem VsR_of{l:List Vl}{q:Option Addr}:VsR w σ Y q 0 l↔aN σ Y w (vlR w σ Y) q l:=by rw[VsR_row];simp only[Nat.zero_add];exact Iff.rfl
theorem VlR_of{v:Vl}{cs:List Value}:VlR w σ Y v cs↔∃q c p z,cs=vC v q c p++List.map uO z/\z.length+7=w/\VlP w σ Y v q p:=by
 obtain⟨k,n,nm,l,d,e,a⟩:=v;rw[VlR];constructor
 ·rintro⟨q,c,p,z,h1,h0,h2,h3,h4⟩;exact⟨q,c,p,z,h1,h0,VsR_of.1 h2,h3,h4⟩
 ·rintro⟨q,c,p,z,h1,h0,h2⟩;exact⟨q,c,p,z,h1,h0,VsR_of.2 h2.row,h2.emp,h2.env⟩
theorem dM{v:Vl}{cs:List Value}:VlR 7 σ Y v cs↔∃q c p,cs=vC v q c p/\VlP 7 σ Y v q p:=by
 rw[VlR_of];constructor
 ·rintro⟨q,c,p,z,rfl,h0,h2⟩;obtain rfl:z=[]:=List.eq_nil_of_length_eq_zero (by omega);exact⟨q,c,p,rfl,h2⟩
 ·rintro⟨q,c,p,rfl,h2⟩;exact⟨q,c,p,[],rfl,rfl,h2⟩
theorem VlR.len{v:Vl}{cs:List Value}(h:VlR w σ Y v cs):cs.length=w:=by obtain⟨q,c,p,z,rfl,h0,_⟩:=VlR_of.1 h;simp[vC];omega
theorem zT{nm:List UInt8}{v:Vl}{u:En}{p:Option Addr}:EnR w σ Y (.cons nm v u) p↔∃x cs pu,p=some x/\Vis σ Y x/\σ.rdN x (w+2)=some (.string (mkB nm)::(cs++[.pointer pu]))/\VlR w σ Y v cs/\EnR w σ Y u pu:=by rw[EnR]
theorem kT{p:Option Addr}:EnR w σ Y .nil p↔p=none:=by rw[EnR]
mutual
theorem gC(f:Frm σ σ' S)(hS:∀j,j<σ.n->S j->Y j)(hY:∀j,j<σ.n->Y' j->Y j):∀(v:Vl) (cs:List Value),VlR w σ Y v cs->VlR w σ' Y' v cs
 |.mk k n nm l d e a,cs,h=>by rw[VlR]at h ⊢;obtain⟨q,c,p,z,h1,h0,h2,h3,h4⟩:=h;exact⟨q,c,p,z,h1,h0,VsR_step f hS hY l q 0 h2,h3.step f hS hY,EnR_step f hS hY e p h4⟩
theorem VsR_step(f:Frm σ σ' S)(hS:∀j,j<σ.n->S j->Y j)(hY:∀j,j<σ.n->Y' j->Y j):∀(l:List Vl) (q:Option Addr) (i:Nat),VsR w σ Y q i l->VsR w σ' Y' q i l
 |[],_,_,_=>by rw[VsR];trivial
 |v::l,q,i,h=>by rw[VsR]at h ⊢;obtain⟨⟨x,cs,h1,h2,h3,h4⟩,h5⟩:=h;exact⟨⟨x,cs,h1,h2.step f hY,by rw[gX f h2 hS];exact h3,gC f hS hY v cs h4⟩,VsR_step f hS hY l q (i+1) h5⟩
theorem EnR_step(f:Frm σ σ' S)(hS:∀j,j<σ.n->S j->Y j)(hY:∀j,j<σ.n->Y' j->Y j):∀(e:En) (p:Option Addr),EnR w σ Y e p->EnR w σ' Y' e p
 |.nil,_,h=>by rw[EnR]at h ⊢;exact h
 |.cons nm v u,p,h=>by rw[EnR]at h ⊢;obtain⟨x,cs,pu,h1,h2,h3,h4,h5⟩:=h;have:=gX (k:=0) (n:=w+2) f h2 hS;rw[show aadd x 0=x from rfl]at this;exact⟨x,cs,pu,h1,h2.step f hY,by rw[this];exact h3,gC f hS hY v cs h4,EnR_step f hS hY u pu h5⟩
end
theorem eR:mI (vlR w):=fun _ _ _ _ _ _ _ f hS hY h=>gC f hS hY _ _ h
theorem dJ{l:List Vl}{q:Option Addr}(f:Frm σ σ' S)(hS:∀j,j<σ.n->S j->Y j)(hY:∀j,j<σ.n->Y' j->Y j)(h:aN σ Y w (vlR w σ Y) q l):aN σ' Y' w (vlR w σ' Y') q l:=
 aN.step f hS hY (fun _ _ h=>gC f hS hY _ _ h) h
theorem VlP.step{v:Vl}{q p:Option Addr}(h:VlP w σ Y v q p)(f:Frm σ σ' S)(hS:∀j,j<σ.n->S j->Y j)(hY:∀j,j<σ.n->Y' j->Y j):VlP w σ' Y' v q p:=⟨dJ f hS hY h.row,h.emp.step f hS hY,EnR_step f hS hY _ _ h.env⟩
theorem gV(f:Frm σ σ' S)(hS:∀j,j<σ.n->S j->Y j)(hY:∀j,j<σ.n->Y' j->Y j):∀{l:List (Int×Int)} {p:Option Addr},LkR σ Y l p->LkR σ' Y' l p
 |[],_,h=>h
 |c::r,p,⟨x,pu,h1,h2,h3,h4⟩=>by have:=gX (k:=0) (n:=4) f h2 hS;rw[show aadd x 0=x from rfl]at this;exact⟨x,pu,h1,h2.step f hY,by rw[this];exact h3,gV f hS hY h4⟩
theorem lP(f:Frm σ σ' S)(hS:∀j,j<σ.n->S j->Y j)(hY:∀j,j<σ.n->Y' j->Y j):∀{l:List Wt} {p:Option Addr},WtR σ Y l p->WtR σ' Y' l p
 |[],_,h=>h
 |w::r,p,⟨x,pe,q,c,pc,pu,h1,h2,h3,h4,h5,h6,h7,h8⟩=>by have:=gX (k:=0) (n:=5) f h2 hS;rw[show aadd x 0=x from rfl]at this;exact⟨x,pe,q,c,pc,pu,h1,h2.step f hY,by rw[this];exact h3,EnR_step f hS hY _ _ h4,dJ f hS hY h5,h6.step f hS hY,gV f hS hY h7,lP f hS hY h8⟩
end
section
variable{w:Nat}{σ σ':aC}{Y:Nat->Prop}{P:Program}{ov:Ov}
def Cz(σ:aC)(Y:Nat->Prop)(x:Addr)(n:Nat)(cs:List Value):Prop:=Vis σ Y x/\σ.rdN x n=some cs/\cs.length=n
theorem Cz.step{S Y':Nat->Prop}{x:Addr}{n:Nat}{cs:List Value}(h:Cz σ Y x n cs)(f:Frm σ σ' S)(hS:∀j,j<σ.n->S j->Y j)(hY:∀j,j<σ.n->Y' j->Y j):Cz σ' Y' x n cs:=by obtain⟨h1,h2,h3⟩:=h;have:=gX (k:=0) (n:=n) f h1 hS;rw[show aadd x 0=x from rfl]at this;exact⟨h1.step f hY,by rw[this];exact h2,h3⟩
theorem Cz.frm{x:Addr}{n:Nat}{cs:List Value}(h:Cz σ Y x n cs)(f:Frm σ σ' NoB):Cz σ' Y x n cs:=Cz.step (S:=NoB) (Y':=Y) h f (fun _ _ h=>h.elim) fun _ _ h=>h
theorem Cz.kp{x:Addr}{n i:Nat}{cs:List Value}{v:Value}(h:Cz σ Y x n cs)(hv:cs[i]?=some v):Kp σ (aadd x i) v:=by intro τ f;obtain⟨h1,h2,h3⟩:=h.frm f;have hl:=(List.getElem?_eq_some_iff.1 hv).1;unfold ld1;rw[nG (o:=i) (k:=1) h2 (by omega),List.drop_eq_getElem_cons hl,List.take_succ_cons,List.take_zero,(List.getElem?_eq_some_iff.1 hv).2]
theorem Cz.ldN{x:Addr}{n i k:Nat}{cs:List Value}(h:Cz σ Y x n cs)(hk:i+k<=n):Go.Pg.ldN k (aadd x i) σ=some (.agg ((cs.drop i).take k).toArray,σ):=by obtain⟨h1,h2,h3⟩:=h;unfold Go.Pg.ldN;rw[nG (o:=i) (k:=k) h2 (by omega)]
theorem dI{x:Addr}{n i:Nat}{cs:List Value}{v:Value}(h:Cz σ Y x n cs)(hv:cs[i]?=some v)(f:Value->Pg)(Q:bW):Wp P ov (.act (ld1 (aadd x i)) f) σ Q=Wp P ov (f v) σ Q:=oS (h.kp hv) f Q
theorem Cz.ofSt{b:Nat}{cs:List Value}(h:St σ b cs)(hY:¬Y b):Cz σ Y ⟨b,0,some 0⟩ cs.length cs:=by
 refine⟨.inr ⟨h.1,hY⟩,?_,rfl⟩;unfold aC.rdN;simp only[h.2,Nat.zero_div,List.getElem?_cons_zero];have:(Nat.ble 0 0&&Nat.ble (0+cs.length) cs.length)=true:=by simp
 rw[this,cond_true];simp
theorem iF{b:Nat}{nm:List UInt8}{v:Vl}{u:En}{cs:List Value}{pu:Option Addr}(h:St σ b (.string (mkB nm)::(cs++[.pointer pu])))(hY:¬Y b)(hv:VlR w σ Y v cs)(hu:EnR w σ Y u pu):EnR w σ Y (.cons nm v u) (some ⟨b,0,some 0⟩):=by have:=Cz.ofSt h hY;have hl:=hv.len;rw[show(Value.string (mkB nm)::(cs++[.pointer pu])).length=w+2 by simp[hl]]at this;exact zT.2 ⟨_,cs,pu,rfl,this.1,this.2.1,hv,hu⟩
theorem EnR.frmN{e:En}{p:Option Addr}(h:EnR w σ Y e p)(f:Frm σ σ' NoB):EnR w σ' Y e p:=EnR_step (S:=NoB) f (fun _ _ h=>h.elim) (fun _ _ h=>h) _ _ h
theorem VlP.frmN{v:Vl}{q p:Option Addr}(h:VlP w σ Y v q p)(f:Frm σ σ' NoB):VlP w σ' Y v q p:=h.step (S:=NoB) f (fun _ _ h=>h.elim) fun _ _ h=>h
theorem LkR_new{b:Nat}{c:Int×Int}{r:List (Int×Int)}{pu:Option Addr}(h:St σ b [.int .i64 c.1,.int .i64 c.2,.pointer pu,.int .i64 ((r.length+1:Nat):Int)])(hY:¬Y b)(hr:LkR σ Y r pu):LkR σ Y (c::r) (some ⟨b,0,some 0⟩):=by have:=Cz.ofSt h hY;exact⟨_,pu,rfl,this.1,this.2.1,hr⟩
theorem WtR_new{b:Nat}{w:Wt}{r:List Wt}{pe q pc pu:Option Addr}{c:Nat}(h:St σ b [.int .i64 (atI w.at_),.pointer pe,.slice q w.vals.length c,.pointer pc,.pointer pu])(hY:¬Y b)(he:EnR 7 σ Y w.env pe)(hv:aN σ Y 7 (vlR 7 σ Y) q w.vals)(hq:Emp σ Y q)(hc:LkR σ Y w.calls pc)(hr:WtR σ Y r pu):WtR σ Y (w::r) (some ⟨b,0,some 0⟩):=by have:=Cz.ofSt h hY;exact⟨_,pe,q,c,pc,pu,rfl,this.1,this.2.1,he,hv,hq,hc,hr⟩
end
section
variable{N:List NV}{c c':Nat}
mutual
theorem zK(h:c<=c'):∀v:Vl,vOK N c v->vOK N c' v
 |.mk k n nm l d e a,hv=>by rw[vOK]at hv ⊢;exact⟨hv.1,fun hk=>⟨(hv.2.1 hk).1,by have:=(hv.2.1 hk).2;omega⟩,lOK_mono h l hv.2.2.1,eOK_mono h e hv.2.2.2⟩
theorem lOK_mono(h:c<=c'):∀l:List Vl,lOK N c l->lOK N c' l
 |[],_=>by rw[lOK];trivial
 |v::l,hv=>by rw[lOK]at hv ⊢;exact⟨zK h v hv.1,lOK_mono h l hv.2⟩
theorem eOK_mono(h:c<=c'):∀e:En,eOK N c e->eOK N c' e
 |.nil,_=>by rw[eOK];trivial
 |.cons nm v u,hv=>by rw[eOK]at hv ⊢;exact⟨zK h v hv.1,eOK_mono h u hv.2⟩
end
theorem fP:∀{l:List Vl},lOK N c l↔∀v∈l,vOK N c v
 |[]=>by rw[lOK];simp
 |v::l=>by rw[lOK,fP];simp
theorem eD{nm:List UInt8}{v:Vl}{u:En}:eOK N c (.cons nm v u)↔vOK N c v/\eOK N c u:=by rw[eOK]
theorem nV:eOK N c .nil:=by rw[eOK];trivial
theorem pP{k n:Int}{nm:List UInt8}{l:List Vl}{d:Int}{e:En}{a:Int}:vOK N c (.mk k n nm l d e a)↔(k=5->wj N d)/\(k=6->0<=a/\a<(c:Int))/\lOK N c l/\eOK N c e:=by rw[vOK]
theorem nL{k n:Int}{nm:List UInt8}{l:List Vl}(h5:k≠5)(h6:k≠6)(hl:lOK N c l):vOK N c (.mk k n nm l 0 .nil 0):=by rw[pP];exact⟨fun h=>absurd h h5,fun h=>absurd h h6,hl,nV⟩
theorem eM:lOK N c []:=by rw[lOK];trivial
theorem vG{n:Int}:vOK N c (xV n):=nL (by decide) (by decide) eM
theorem yJ{n:Int}:vOK N c (boolV n):=nL (by decide) (by decide) eM
theorem nW:vOK N c pL:=nL (by decide) (by decide) eM
theorem xZ:vOK N c cK:=nL (by decide) (by decide) eM
theorem yZ{nm:List UInt8}{l:List Vl}(h:lOK N c l):vOK N c (vd nm l):=nL (by decide) (by decide) h
theorem yQ{i:Nat}{e:En}(h:wj N ((i:Nat):Int))(he:eOK N c e):vOK N c (zt i e):=by unfold zt;rw[pP];exact⟨fun _=>h,fun h=>absurd h (by decide),eM,he⟩
theorem ok_cell{a:Nat}(h:a<c):vOK N c (vt a):=by unfold vt;rw[pP];exact⟨fun h=>absurd h (by decide),fun _=>⟨by omega,by omega⟩,eM,nV⟩
theorem vOK_args{v:Vl}(h:vOK N c v):lOK N c v.args:=by cases v;rw[pP]at h;exact h.2.2.1
theorem yA{v:Vl}(h:vOK N c v):eOK N c v.env:=by cases v;rw[pP]at h;exact h.2.2.2
theorem vOK_fun{v:Vl}(h:vOK N c v)(hk:v.k=5):wj N v.node:=by cases v;rw[pP]at h;exact h.1 hk
theorem yf{v:Vl}(h:vOK N c v)(hk:v.k=6):0<=v.at_/\v.at_<(c:Int):=by cases v;rw[pP]at h;exact h.2.1 hk
theorem find_ok{s:List UInt8}:∀{e:En} {v:Vl},eOK N c e->rV s e=some v->vOK N c v
 |.nil,_,_,h=>by cases h
 |.cons nm w u,v,he,h=>by
  rw[eD]at he;rw[rV]at h;split at h
  ·cases h;exact he.1
  ·exact find_ok he.2 h
theorem op_ok{s:List UInt8}{a b:Int}{v:Vl}(h:opV s a b=some v):vOK N c v:=by
 unfold opV at h;split at h
 ·cases h;exact vG
 split at h
 ·cases h;exact vG
 split at h
 ·cases h;exact vG
 split at h
 ·cases h;exact yJ
 split at h
 ·cases h;exact yJ
 ·cases h
mutual
theorem meets_ok:∀(f i:Nat) (v:Vl) (e e':En),vOK N c v->eOK N c e->oG N f i v e=some e'->eOK N c e'
 |0,_,_,_,_,_,_,h=>by rw[oG]at h;cases h
 |f+1,i,v,e,e',hv,he,h=>by
  rw[oG]at h;split at h
  ·cases h;exact he
  split at h
  ·cases h;rw[eD];exact⟨hv,he⟩
  split at h
  ·split at h
   ·cases h;exact he
   ·cases h
  split at h
  ·split at h
   ·cases h;exact he
   ·cases h
  split at h
  ·split at h
   ·cases h;exact he
   ·cases h
  split at h
  ·cases h
  ·exact meetsL_ok f _ _ e e' (vOK_args hv) he h
theorem meetsL_ok:∀(f:Nat) (l:List Nat) (r:List Vl) (e e':En),lOK N c r->eOK N c e->meetsL N f l r e=some e'->eOK N c e'
 |f,[],_,e,e',_,he,h=>by
  rw[meetsL]at h
  ·cases h;exact he
  ·intro i l v r h;cases h
 |f,i::l,[],e,e',_,he,h=>by
  rw[meetsL]at h
  ·cases h;exact he
  ·intro i l v r _ h;cases h
 |f,i::l,v::r,e,e',hr,he,h=>by
  rw[lOK]at hr;rw[meetsL]at h;split at h
  ·rename_i e1 h1;exact meetsL_ok f l r e1 e' hr.2 (meets_ok f i v e e1 hr.1 he h1) h
  ·cases h
end
theorem arms_ok{v:Vl}{e:En}(hv:vOK N c v)(he:eOK N c e):∀{l:List Nat} {b:Nat} {e':En},wM N v e l=some (b,e')->eOK N c e'/\∃j,∃h:j<l.length,j%2=1/\l[j]=b
 |[],_,_,h=>by cases h
 |[_],_,_,h=>by cases h
 |p::q::r,b,e',h=>by
  rw[wM]at h;split at h
  ·rename_i e1 h1;cases h;exact⟨meets_ok _ _ _ _ _ hv he h1,1,by simp,rfl,rfl⟩
  ·obtain⟨h1,j,h2,h3,h4⟩:=arms_ok hv he h;exact⟨h1,j+2,by simpa using h2,by omega,by simpa using h4⟩
theorem try_ok:∀{l:List Wt} {i:Nat} {w:Wt} {r:List Wt},xr N l=some (i,w,r)->w∈l/\w.at_=some i/\(dF N i).x.k=20/\∀x∈r,x∈l
 |[],_,_,_,h=>by cases h
 |x::l,i,w,r,h=>by
  rw[xr]at h;have go:xr N l=some (i,w,r)->w∈x::l/\w.at_=some i/\(dF N i).x.k=20/\∀y∈r,y∈x::l:=fun h=>by obtain⟨h1,h2,h3,h4⟩:=try_ok h;exact⟨by simp[h1],h2,h3,fun y hy=>by simp[h4 y hy]⟩
  split at h
  ·rename_i j hj;split at h
   ·rename_i hk;simp only[Option.some.injEq,Prod.mk.injEq]at h;obtain⟨rfl,rfl,rfl⟩:=h;exact⟨by simp,hj,hk,fun y hy=>by simp[hy]⟩
   ·exact go h
  ·exact go h
end
section
variable{N:List NV}{D:List Dc}
theorem jI{i:Nat}(h:i<N.length):dF N i=N[i]:=by unfold dF;simp[List.getD,h]
theorem kids_num{v:NV}(h:bT v=true):∀k n:Nat,v.x.k=(k:Int)->eT.getD k 0=((n:Nat):Int)->v.kids.length=n:=by
 intro k n hk hn;unfold bT at h;simp only[Bool.and_eq_true]at h;have h3:=h.1.1.1.2;unfold lN at h3;rw[hk,Int.toNat_natCast,hn,if_neg (by omega),if_neg (by omega)]at h3;have:((v.kids.length:Nat):Int)=((n:Nat):Int):=by simpa using h3
 omega
theorem bZ.kidsOf(g:bZ N D){i:Nat}(hi:i<N.length)(k n:Nat)(hk:N[i].x.k=(k:Int))(hn:eT.getD k 0=((n:Nat):Int)):N[i].kids.length=n:=kids_num (g.node i hi).shape k n hk hn
theorem bZ.kidE(g:bZ N D){i j:Nat}(hi:i<N.length)(hk:¬20<N[i].x.k)(hj:j<N[i].kids.length)(a0:N[i].x.k=11->j%2=0):okP N (fQ N[i] j):=by
 obtain⟨h1,u,h2,h3⟩:=(g.node i hi).kid j hj;obtain⟨h4,h5⟩:=List.getElem?_eq_some_iff.1 h2;have e:fQ N[i] j=N[i].kids[j]:=by unfold fQ;simp[List.getD,hj]
 rw[e];refine⟨h4,?_⟩;rw[h5];rw[decide_eq_false (by omega:¬N[i].x.k>20),Bool.false_or]at h3;intro hu;rw[decide_eq_true (by omega:u.x.k>20)]at h3;simp only[Bool.true_eq,Bool.and_eq_true,decide_eq_true_eq]at h3;have:=a0 h3.1;omega
theorem bZ.matchOdd(g:bZ N D){i:Nat}(hi:i<N.length)(hk:N[i].x.k=11):N[i].kids.length%2=1/\3<=N[i].kids.length:=by have h:=(g.node i hi).shape;unfold bT at h;simp only[Bool.and_eq_true]at h;have h3:=h.1.1.1.2;unfold lN at h3;rw[hk,if_neg (by decide),if_pos (by decide)]at h3;simp only[Bool.and_eq_true,decide_eq_true_eq]at h3;exact⟨h3.2,h3.1⟩
end
section
variable{N:List NV}{D:List Dc}{m:MS}
theorem lH{c:Nat}{l:List Vl}(h:lOK N c l)(j:Nat):vOK N c (l.getD j cK):=by
 by_cases hj:j<l.length
 ·have e:l.getD j cK=l[j]:=by simp[List.getD,hj]
  rw[e];exact fP.1 h _ (List.getElem_mem hj)
 ·have e:l.getD j cK=cK:=by simp[List.getD,hj]
  rw[e];exact xZ
theorem qN{c:Nat}{l r:List Vl}(h:lOK N c l)(k:lOK N c r):lOK N c (l++r):=fP.2 fun v hv=>by
 rcases List.mem_append.1 hv with hv|hv
 ·exact fP.1 h v hv
 ·exact fP.1 k v hv
theorem rG{c:Nat}{v:Vl}(h:vOK N c v):lOK N c [v]:=fP.2 fun x hx=>by rw[List.mem_singleton.1 hx];exact h
theorem okW_mono{c c':Nat}(h:c<=c'){w:Wt}(hw:okW N c w):okW N c' w:=⟨eOK_mono h _ hw.1,lOK_mono h _ hw.2.1,hw.2.2⟩
theorem okM.goTo(h:okM N m){i:Nat}{e:En}(hi:okP N i)(he:eOK N m.cells.length e):okM N (m.goTo i e):=⟨hi,he,h.v,h.cells,h.k⟩
theorem okM.value(h:okM N m){v:Vl}(hv:vOK N m.cells.length v):okM N (m.value v):=⟨h.at_,h.env,hv,h.cells,h.k⟩
theorem okM.stuck(h:okM N m):okM N m.stuck:=⟨h.at_,h.env,h.v,h.cells,h.k⟩
theorem okM.ks(h:okM N m){k:List Wt}(hk:∀w∈k,okW N m.cells.length w)(c:List (Int×Int)):okM N {m with k:=k,calls:=c}:=⟨h.at_,h.env,h.v,h.cells,hk⟩
theorem okM.wait(h:okM N m){w:Wt}(hw:okW N m.cells.length w):okM N {m with k:=w::m.k}:=⟨h.at_,h.env,h.v,h.cells,fun x hx=>by
 rcases List.mem_cons.1 hx with rfl|hx
 ·exact hw
 ·exact h.k x hx⟩
theorem raise_ok(g:bZ N D)(h:okM N m)(v:Vl)(hv:vOK N m.cells.length v):okM N (sR N m v):=by
 unfold sR;split
 ·exact h.stuck
 ·split
  ·rename_i i w r ht;obtain⟨h1,h2,h3,h4⟩:=try_ok ht;have hw:=h.k w h1;obtain⟨hi,hp,hl,_⟩:=hw.2.2 i h2;rw[jI hi]at h3 ⊢;have a0:=g.kidsOf hi 20 2 h3 rfl;exact(h.ks (fun x hx=>h.k x (h4 x hx)) _).goTo (g.kidE hi hp (by omega) fun h=>by omega) (eD.2 ⟨hv,hw.1⟩)
  ·exact⟨h.at_,h.env,h.v,h.cells,fun w hw=>by cases hw⟩
theorem call_ok(g:bZ N D)(h:okM N m)(i:Nat)(f a:Vl)(hf:vOK N m.cells.length f)(ha:vOK N m.cells.length a):okM N (wd N m i f a):=by
 unfold wd;split
 ·exact h.stuck
 rename_i hk;have hk:f.k=5:=by omega
 obtain⟨j,hj,a0,a1⟩:=vOK_fun hf hk;rw[hj,Int.toNat_natCast,jI a0];have hp:¬20<N[j].x.k:=by omega
 have hl:0<N[j].kids.length:=by
  rcases a1 with h6|h9
  ·have:=g.kidsOf a0 6 1 h6 rfl;omega
  ·have:=g.kidsOf a0 9 2 h9 rfl;omega
 refine(h.ks (fun w hw=>?_) _).goTo (g.kidE a0 hp hl fun h=>by omega) (eD.2 ⟨ha,?_⟩)
 ·rcases List.mem_cons.1 hw with rfl|hw
  ·exact⟨nV,eM,fun i h=>by cases h⟩
  ·exact h.k w hw
 ·split
  ·exact eD.2 ⟨hf,yA hf⟩
  ·exact yA hf
theorem cell_ok(h:okM N m)(x:NV)(l:List Vl)(hl:lOK N m.cells.length l):okM N (zO m x l):=by
 unfold zO;split
 ·have e:(m.cells++[l.getD 0 cK]).length=m.cells.length+1:=by simp
  refine⟨h.at_,?_,?_,?_,?_⟩
  ·show eOK N (m.cells++[l.getD 0 cK]).length m.env;rw[e];exact eOK_mono (Nat.le_succ _) _ h.env
  ·show vOK N (m.cells++[l.getD 0 cK]).length (vt m.cells.length);rw[e];exact ok_cell (Nat.lt_succ_self _)
  ·show lOK N (m.cells++[l.getD 0 cK]).length (m.cells++[l.getD 0 cK]);rw[e];exact lOK_mono (Nat.le_succ _) _ (qN h.cells (rG (lH hl 0)))
  ·intro w hw;show okW N (m.cells++[l.getD 0 cK]).length w;rw[e];exact okW_mono (Nat.le_succ _) (h.k w hw)
 ·split
  ·exact h.stuck
  ·split
   ·exact h.value (lH h.cells _)
   ·have e:(m.cells.set (l.getD 0 cK).at_.toNat (l.getD 1 cK)).length=m.cells.length:=by simp
    refine⟨h.at_,?_,?_,?_,?_⟩
    ·show eOK N (m.cells.set _ _).length m.env;rw[e];exact h.env
    ·exact nW
    ·show lOK N (m.cells.set _ _).length (m.cells.set _ _);rw[e];refine fP.2 fun v hv=>?_;rcases List.mem_or_eq_of_mem_set hv with hv|rfl
     ·exact fP.1 h.cells v hv
     ·exact lH hl 1
    ·intro w hw;show okW N (m.cells.set _ _).length w;rw[e];exact h.k w hw
theorem done_ok(g:bZ N D)(h:okM N m)(i:Nat)(x:NV)(l:List Vl)(hl:lOK N m.cells.length l):okM N (yS N m i x l):=by
 unfold yS;split
 ·exact call_ok g h i _ _ (lH hl 0) (lH hl 1)
 split
 ·exact h.value (yZ hl)
 split
 ·split
  ·rename_i v hv;split
   ·exact h.value (op_ok hv)
   ·exact h.stuck
  ·exact h.stuck
 split
 ·split
  ·exact⟨h.at_,h.env,nW,h.cells,h.k⟩
  ·exact h.stuck
 split
 ·exact raise_ok g h _ (lH hl 0)
 ·exact cell_ok h x l hl
theorem comes_ok(g:bZ N D)(h:okM N m){i:Nat}{w:Wt}(hw:okW N m.cells.length w)(hi:w.at_=some i){v:Vl}(hv:vOK N m.cells.length v):okM N (vV N m i w v):=by
 obtain⟨a0,hp,a3,a2⟩:=hw.2.2 i hi;unfold vV;rw[jI a0];split
 ·rename_i hk;have:=g.kidsOf a0 8 2 hk rfl;exact h.goTo (g.kidE a0 hp (by omega) fun h=>by omega) (eD.2 ⟨hv,hw.1⟩)
 split
 ·rename_i hk;have:=g.kidsOf a0 10 3 hk rfl;unfold uK;split
  ·exact h.stuck
  split
  ·exact h.goTo (g.kidE a0 hp (by omega) fun h=>by omega) hw.1
  ·exact h.goTo (g.kidE a0 hp (by omega) fun h=>by omega) hw.1
 split
 ·unfold yd;split
  ·rename_i b e ha;obtain⟨h1,j,h2,h3,h4⟩:=arms_ok hv hw.1 ha;rw[List.length_drop]at h2;have hb:fQ N[i] (1+j)=b:=by rw[<-h4,List.getElem_drop];unfold fQ;simp[List.getD,show 1+j<N[i].kids.length by omega]
   rw[<-hb];exact h.goTo (g.kidE a0 hp (by omega) fun _=>by omega) h1
  ·exact h.stuck
 rename_i a1;split
 ·rename_i hk;have:=g.kidsOf a0 12 2 hk rfl;exact h.goTo (g.kidE a0 hp (by omega) fun h=>by omega) hw.1
 split
 ·exact h.value hv
 split
 ·rename_i hl;refine(h.wait (w:=⟨some i,w.env,w.vals++[v],w.calls⟩) ⟨hw.1,qN hw.2.1 (rG hv),fun j hj=>?_⟩).goTo (g.kidE a0 hp hl fun h=>absurd h a1) hw.1;cases hj;exact⟨a0,hp,by simpa using hl,a2⟩
 ·exact done_ok g h i _ _ (qN hw.2.1 (rG hv))
theorem iK(g:bZ N D)(h:okM N m){v:Vl}(hv:vOK N m.cells.length v):okM N (eO N m v):=by
 unfold eO;split
 ·exact⟨h.at_,h.env,hv,h.cells,h.k⟩
 rename_i w r hk;have hr:∀x∈r,okW N m.cells.length x:=fun x hx=>h.k x (by rw[hk];simp[hx]);have hw:okW N m.cells.length w:=h.k w (by rw[hk];simp);split
 ·exact(h.ks hr _).value hv
 ·rename_i i hi;exact comes_ok g (m:={m with k:=r}) ⟨h.at_,h.env,h.v,h.cells,hr⟩ hw hi hv
theorem begin_ok(g:bZ N D)(h:okM N m):okM N (sW N m):=by
 obtain⟨a0,hp⟩:=h.at_;unfold sW;rw[jI a0];split
 ·exact iK g h vG
 split
 ·exact iK g h yJ
 split
 ·exact iK g h nW
 split
 ·split
  ·rename_i v hv;exact iK g h (find_ok h.env hv)
  ·exact h.stuck
 split
 ·rename_i hk;exact iK g h (yQ ⟨_,rfl,a0,.inl hk⟩ h.env)
 split
 ·rename_i hk;have:=g.kidsOf a0 9 2 hk rfl;exact h.goTo (g.kidE a0 hp (by omega) fun h=>by omega) (eD.2 ⟨yQ ⟨_,rfl,a0,.inr hk⟩ h.env,h.env⟩)
 split
 ·unfold zR;split
  ·exact⟨h.at_,h.env,h.v,h.cells,h.k⟩
  ·exact⟨h.at_,h.env,vG,h.cells,h.k⟩
 split
 ·exact iK g h (yZ eM)
 ·rename_i hn;have hl:0<N[m.at_].kids.length:=List.length_pos_iff.2 hn;refine(h.wait (w:=⟨some m.at_,m.env,[],m.calls⟩) ⟨h.env,eM,fun j hj=>?_⟩).goTo (g.kidE a0 hp hl fun _=>rfl) h.env;cases hj;exact⟨a0,hp,by simpa using hl,by assumption⟩
theorem tick_ok(h:okM N m):okM N (iV N m):=⟨h.at_,h.env,h.v,h.cells,h.k⟩
theorem step_ok(g:bZ N D)(h:okM N m):okM N (kR N m):=by
 unfold kR;split
 ·exact iK g (tick_ok h) h.v
 ·exact begin_ok g (tick_ok h)
theorem new_ok(g:bZ N D)(l:List Int):okM N (mJ l):=⟨⟨g.pos,g.root g.pos⟩,nV,xZ,eM,fun w hw=>by cases hw⟩
structure Ext(m m':MS):Prop where
 steps:m'.steps=m.steps
 stops:m'.stops=m.stops
 inp:m'.inp=m.inp
 out:m.out <+: m'.out
 out1:m'.out.length<=m.out.length+1
 read:m.read<=m'.read
 read1:m.read<=m.inp.length->m'.read<=m.inp.length
 cells:m.cells.length<=m'.cells.length
 cells1:m'.cells.length<=m.cells.length+1
 nw:m'.nw<=m.nw+1
 err:m.err=0->m'.over=0->m'.err=0
 calls:∀B,m.calls.length<=B->(∀w∈m.k,w.calls.length<=B)->m'.calls.length<=B+1/\∀w∈m'.k,w.calls.length<=B+1
theorem Ext.easy{m m':MS}(h1:m'.steps=m.steps)(h2:m'.stops=m.stops)(h3:m'.inp=m.inp)(h4:m'.out=m.out)(h5:m'.read=m.read)(h6:m'.cells.length=m.cells.length)(h7:m'.nw<=m.nw+1)(h8:m'.err=m.err)
  (h9:m'.calls=m.calls\/∃w∈m.k,m'.calls=w.calls) (a0:∀w∈m'.k,w∈m.k\/w.calls=m.calls\/∃x∈m.k,w.calls=x.calls):Ext m m' where
 steps:=h1
 stops:=h2
 inp:=h3
 out:=by rw[h4];exact List.prefix_refl _
 out1:=by rw[h4];omega
 read:=by omega
 read1:=by omega
 cells:=by omega
 cells1:=by omega
 nw:=h7
 err:=fun h _=>by rw[h8];exact h
 calls:=fun B hB hk=>by
  refine⟨?_,fun w hw=>?_⟩
  ·rcases h9 with h|⟨w,hw,h⟩
   ·rw[h];omega
   ·rw[h];have:=hk w hw;omega
  ·rcases a0 w hw with h|h|⟨x,hx,h⟩
   ·have:=hk w h;omega
   ·rw[h];omega
   ·rw[h];have:=hk x hx;omega
theorem raise_ext(m:MS)(v:Vl):Ext m (sR N m v):=by
 unfold sR;split
 ·exact .easy rfl rfl rfl rfl rfl rfl (Nat.le_succ _) rfl (.inl rfl) fun w hw=>.inl hw
 split
 ·rename_i i w r ht;obtain⟨h1,_,_,h4⟩:=try_ok ht;exact .easy rfl rfl rfl rfl rfl rfl (Nat.le_succ _) rfl (.inr ⟨w,h1,rfl⟩) fun x hx=>.inl (h4 x hx)
 ·exact⟨rfl,rfl,rfl,List.prefix_refl _,Nat.le_succ _,Nat.le_refl _,id,Nat.le_refl _,Nat.le_succ _,Nat.le_succ _,fun _ h=>absurd (show(2:Int)=0 from h) (by decide),fun B hB _=>⟨by show m.calls.length<=B+1;omega,fun w hw=>by cases hw⟩⟩
theorem call_ext(m:MS)(i:Nat)(f a:Vl):Ext m (wd N m i f a):=by
 unfold wd;split
 ·exact .easy rfl rfl rfl rfl rfl rfl (Nat.le_succ _) rfl (.inl rfl) fun w hw=>.inl hw
 ·refine⟨rfl,rfl,rfl,List.prefix_refl _,Nat.le_succ _,Nat.le_refl _,id,Nat.le_refl _,Nat.le_succ _,Nat.le_succ _,fun h _=>h,fun B hB hk=>⟨?_,fun w hw=>?_⟩⟩
  ·show(_::m.calls).length<=B+1;rw[List.length_cons];omega
  ·rcases List.mem_cons.1 hw with rfl|hw
   ·show m.calls.length<=B+1;omega
   ·have:=hk w hw;omega
theorem cell_ext(m:MS)(x:NV)(l:List Vl):Ext m (zO m x l):=by
 unfold zO;split
 ·refine⟨rfl,rfl,rfl,List.prefix_refl _,Nat.le_succ _,Nat.le_refl _,id,?_,?_,Nat.le_refl _,fun h _=>h,fun B hB hk=>⟨by show m.calls.length<=B+1;omega,fun w hw=>by have:=hk w hw;omega⟩⟩
  ·show m.cells.length<=(m.cells++[_]).length;simp
  ·show(m.cells++[_]).length<=m.cells.length+1;simp
 split
 ·exact .easy rfl rfl rfl rfl rfl rfl (Nat.le_succ _) rfl (.inl rfl) fun w hw=>.inl hw
 split
 ·exact .easy rfl rfl rfl rfl rfl rfl (Nat.le_succ _) rfl (.inl rfl) fun w hw=>.inl hw
 ·exact .easy rfl rfl rfl rfl rfl (by show(m.cells.set _ _).length=_;simp) (Nat.le_refl _) rfl (.inl rfl) fun w hw=>.inl hw
theorem done_ext(m:MS)(i:Nat)(x:NV)(l:List Vl):Ext m (yS N m i x l):=by
 have st:Ext m m.stuck:=.easy rfl rfl rfl rfl rfl rfl (Nat.le_succ _) rfl (.inl rfl) fun w hw=>.inl hw;have va:∀v,Ext m (m.value v):=fun v=>.easy rfl rfl rfl rfl rfl rfl (Nat.le_succ _) rfl (.inl rfl) fun w hw=>.inl hw;unfold yS;split
 ·exact call_ext m i _ _
 split
 ·exact va _
 split
 ·split
  ·split
   ·exact va _
   ·exact st
  ·exact st
 split
 ·split
  ·refine⟨rfl,rfl,rfl,List.prefix_append _ _,?_,Nat.le_refl _,id,Nat.le_refl _,Nat.le_succ _,Nat.le_succ _,fun h _=>h,fun B hB hk=>⟨by show m.calls.length<=B+1;omega,fun w hw=>by have:=hk w hw;omega⟩⟩;show(m.out++[_]).length<=m.out.length+1;simp
  ·exact st
 split
 ·exact raise_ext m _
 ·exact cell_ext m x l
theorem Ext.ofK{m m':MS}{w:Wt}{r:List Wt}(hk:m.k=w::r)(h:Ext {m with k:=r} m'):Ext m m':=
 ⟨h.steps,h.stops,h.inp,h.out,h.out1,h.read,h.read1,h.cells,h.cells1,h.nw,h.err,fun B hB hw=>h.calls B hB fun x hx=>hw x (by rw[hk];exact List.mem_cons_of_mem _ hx)⟩
theorem comes_ext(m:MS)(i:Nat)(w:Wt)(r:List Wt)(hk:m.k=w::r)(v:Vl):Ext m (vV N {m with k:=r} i w v):=by
 have a0:∀x∈r,x∈m.k:=fun x hx=>by rw[hk];exact List.mem_cons_of_mem _ hx
 have a1:w∈m.k:=by rw[hk];exact List.mem_cons_self
 have go:∀j e,Ext m (({m with k:=r}:MS).goTo j e):=fun j e=>.easy rfl rfl rfl rfl rfl rfl (Nat.le_succ _) rfl (.inl rfl) fun x hx=>.inl (a0 x hx);have st:Ext m (({m with k:=r}:MS).stuck):=.easy rfl rfl rfl rfl rfl rfl (Nat.le_succ _) rfl (.inl rfl) fun x hx=>.inl (a0 x hx);unfold vV;split
 ·exact go _ _
 split
 ·unfold uK;split
  ·exact st
  split
  ·exact go _ _
  ·exact go _ _
 split
 ·unfold yd;split
  ·exact go _ _
  ·exact st
 split
 ·exact go _ _
 split
 ·exact .easy rfl rfl rfl rfl rfl rfl (Nat.le_succ _) rfl (.inl rfl) fun x hx=>.inl (a0 x hx)
 split
 ·refine .easy rfl rfl rfl rfl rfl rfl (Nat.le_succ _) rfl (.inl rfl) fun x hx=>?_;rcases List.mem_cons.1 hx with rfl|hx
  ·exact .inr (.inr ⟨w,a1,rfl⟩)
  ·exact .inl (a0 x hx)
 ·exact(done_ext {m with k:=r} i _ _).ofK hk
theorem fZ(m:MS)(v:Vl):Ext m (eO N m v):=by
 unfold eO;split
 ·exact⟨rfl,rfl,rfl,List.prefix_refl _,Nat.le_succ _,Nat.le_refl _,id,Nat.le_refl _,Nat.le_succ _,Nat.le_succ _,fun _ h=>absurd (show(1:Int)=0 from h) (by decide),fun B hB hk=>⟨by show m.calls.length<=B+1;omega,fun w hw=>by have:=hk w hw;omega⟩⟩
 rename_i w r hk;split
 ·exact .easy rfl rfl rfl rfl rfl rfl (Nat.le_succ _) rfl (.inr ⟨w,by rw[hk];exact List.mem_cons_self,rfl⟩) fun x hx=>.inl (by rw[hk];exact List.mem_cons_of_mem _ hx)
 ·exact comes_ext m _ w r hk v
theorem begin_ext(m:MS):Ext m (sW N m):=by
 unfold sW;split
 ·exact fZ m _
 split
 ·exact fZ m _
 split
 ·exact fZ m _
 split
 ·split
  ·exact fZ m _
  ·exact .easy rfl rfl rfl rfl rfl rfl (Nat.le_succ _) rfl (.inl rfl) fun w hw=>.inl hw
 split
 ·exact fZ m _
 split
 ·exact .easy rfl rfl rfl rfl rfl rfl (Nat.le_succ _) rfl (.inl rfl) fun w hw=>.inl hw
 split
 ·unfold zR;split
  ·exact .easy rfl rfl rfl rfl rfl rfl (Nat.le_succ _) rfl (.inl rfl) fun w hw=>.inl hw
  ·rename_i h;exact⟨rfl,rfl,rfl,List.prefix_refl _,Nat.le_succ _,Nat.le_succ _,fun _=>by show m.read+1<=m.inp.length;omega,Nat.le_refl _,Nat.le_succ _,Nat.le_succ _,fun h _=>h,fun B hB hk=>⟨by show m.calls.length<=B+1;omega,fun w hw=>by have:=hk w hw;omega⟩⟩
 split
 ·exact fZ m _
 ·refine .easy rfl rfl rfl rfl rfl rfl (Nat.le_succ _) rfl (.inl rfl) fun x hx=>?_;rcases List.mem_cons.1 hx with rfl|hx
  ·exact .inr (.inl rfl)
  ·exact .inl hx
theorem wo(m:MS):Ext (iV N m) (kR N m):=by
 unfold kR;split
 ·exact fZ _ _
 ·exact begin_ext _
theorem step_bnd(h:bndM m):bndM (kR N m):=by
 have e:=wo (N:=N) m;have es:(iV N m).steps=m.steps+1:=rfl;have e2:=e.steps;obtain⟨c1,c2⟩:=e.calls m.steps h.calls h.k;refine⟨?_,?_,?_,?_,?_,?_,?_⟩
 ·have:=e.out1;have:=h.out;have:(iV N m).out.length=m.out.length:=rfl;omega
 ·have:=e.cells1;have:=h.cells;have:(iV N m).cells.length=m.cells.length:=rfl;omega
 ·have:=e.nw;have:=h.nw;have:(iV N m).nw=m.nw:=rfl;omega
 ·have:=e.stops;have h2:(iV N m).stops<=m.stops+1:=by unfold iV;dsimp only;split<;>omega
  have:=h.stops;omega
 ·omega
 ·intro w hw;have:=c2 w hw;omega
 ·have h1:=e.read1 h.read;rw[e.inp];exact h1
end
structure TrA where
 pn:Option Addr
 cn:Nat
 pd:Option Addr
 cd:Nat
structure Slt where
 pi:Option Addr
 ci:Nat
 po:Option Addr
 co:Nat
 ro:Nat
 pc:Option Addr
 cc:Nat
 rc:Nat
 css:List (List Value)
 pw:Option Addr
 cw:Nat
 rw_:Nat
 ws:List Value
 vq:Option Addr
 vc:Nat
 vp:Option Addr
 pe:Option Addr
 pk:Option Addr
 pl:Option Addr
def fB(T:TrA)(N:List NV)(D:List Dc)(s:Slt)(m:MS):List Value:=
 [.slice T.pn N.length T.cn,.slice T.pd D.length T.cd,.slice s.pi m.inp.length s.ci,.int .i64 ((m.read:Nat):Int),.slice s.po m.out.length s.co,.slice s.pc m.cells.length s.cc,.slice s.pw m.nw s.cw,.int .i64 ((m.steps:Nat):Int),.int .i64 ((m.stops:Nat):Int),
  .int .i64 m.over,.int .i64 m.err,.bool m.back,.int .i64 m.v.k,.int .i64 m.v.n,.string (mkB m.v.nm),.slice s.vq m.v.args.length s.vc,.int .i64 m.v.node,.pointer s.vp,.int .i64 m.v.at_,.int .i64 ((m.at_:Nat):Int),.pointer s.pe,.pointer s.pk,.pointer s.pl]
def oU(cs:List Value)(z:Int):Prop:=cs=[.int .i64 z]
def Ft(A:Nat)(s:Slt)(j:Nat):Prop:=j=A\/(s.po≠none/\j=s.ro)\/(s.pc≠none/\j=s.rc)\/(s.pw≠none/\j=s.rw_)
def FX(X:Nat->Prop)(A:Nat)(s:Slt)(j:Nat):Prop:=X j\/Ft A s j
structure Mac(σ:aC)(X:Nat->Prop)(A:Nat)(T:TrA)(N:List NV)(D:List Dc)(s:Slt)(m:MS):Prop where
 st:St σ A (fB T N D s m)
 tree:gT σ (FX X A s) T.pn N T.pd D
 inp:aN σ (FX X A s) 1 oU s.pi m.inp
 out:SlE σ s.ro s.po s.co 1 (m.out.map uO)
 cells:SlE σ s.rc s.pc s.cc 7 s.css.flatten
 clen:s.css.length=m.cells.length
 cel:∀i (h:i<s.css.length) (h':i<m.cells.length),VlR 7 σ (FX X A s) m.cells[i] s.css[i]
 wr:SlE σ s.rw_ s.pw s.cw 8 s.ws
 wl:s.ws.length=m.nw*8
 v:VlP 7 σ (FX X A s) m.v s.vq s.vp
 env:EnR 7 σ (FX X A s) m.env s.pe
 k:WtR σ (FX X A s) m.k s.pk
 calls:LkR σ (FX X A s) m.calls s.pl
 xn:∀j,X j->j<σ.n
 xA:¬X A
 xo:s.po≠none->¬X s.ro/\s.ro≠A
 xc:s.pc≠none->¬X s.rc/\s.rc≠A/\(s.po≠none->s.rc≠s.ro)
 xw:s.pw≠none->¬X s.rw_/\s.rw_≠A/\(s.po≠none->s.rw_≠s.ro)/\(s.pc≠none->s.rw_≠s.rc)
section
variable{σ σ':aC}{X S:Nat->Prop}{A:Nat}{T:TrA}{N:List NV}{D:List Dc}{s s':Slt}{m m':MS}{P:Program}{ov:Ov}
theorem Mac.fn(h:Mac σ X A T N D s m):∀j,FX X A s j->j<σ.n:=by
 rintro j (hj|rfl|⟨hp,rfl⟩|⟨hp,rfl⟩|⟨hp,rfl⟩)
 ·exact h.xn j hj
 ·exact h.st.1
 ·exact h.out.lt hp
 ·exact h.cells.lt hp
 ·exact h.wr.lt hp
theorem Mac.frm(h:Mac σ X A T N D s m)(f:Frm σ σ' S)(hS:∀j,j<σ.n->S j->X j):Mac σ' X A T N D s m:=by
 have hY:∀j,j<σ.n->S j->FX X A s j:=fun j hj hs=>.inl (hS j hj hs);have hI:∀j,j<σ.n->FX X A s j->FX X A s j:=fun _ _ h=>h;exact⟨f.st h.st fun hs=>h.xA (hS _ h.st.1 hs),h.tree.step f hY hI,h.inp.step f hY hI fun _ _ h=>h,h.out.frm f fun hp hs=>(h.xo hp).1 (hS _ (h.out.lt hp) hs),h.cells.frm f fun hp hs=>(h.xc hp).1 (hS _ (h.cells.lt hp) hs),h.clen,
  fun i h1 h2=>gC f hY hI _ _ (h.cel i h1 h2),h.wr.frm f fun hp hs=>(h.xw hp).1 (hS _ (h.wr.lt hp) hs),h.wl,h.v.step f hY hI,EnR_step f hY hI _ _ h.env,lP f hY hI h.k,gV f hY hI h.calls,fun j hj=>Nat.lt_of_lt_of_le (h.xn j hj) f.n,h.xA,h.xo,h.xc,h.xw⟩
theorem Mac.frmN(h:Mac σ X A T N D s m)(f:Frm σ σ' NoB):Mac σ' X A T N D s m:=h.frm f fun _ _ h=>h.elim
structure Same(s s':Slt)(m m':MS):Prop where
 pi:s'.pi=s.pi
 ci:s'.ci=s.ci
 po:s'.po=s.po
 co:s'.co=s.co
 ro:s'.ro=s.ro
 pc:s'.pc=s.pc
 cc:s'.cc=s.cc
 rc:s'.rc=s.rc
 css:s'.css=s.css
 pw:s'.pw=s.pw
 cw:s'.cw=s.cw
 rw_:s'.rw_=s.rw_
 ws:s'.ws=s.ws
 inp:m'.inp=m.inp
 out:m'.out=m.out
 cells:m'.cells=m.cells
 nw:m'.nw=m.nw
theorem Same.ft(h:Same s s' m m'):Ft A s'=Ft A s:=by
 funext j
 unfold Ft;rw[h.po,h.ro,h.pc,h.rc,h.pw,h.rw_]
theorem Same.fx(h:Same s s' m m'):FX X A s'=FX X A s:=by
 funext j
 unfold FX;rw[h.ft]
theorem Mac.upd(h:Mac σ X A T N D s m)(f:Frm σ σ' (· =A))(a0:St σ' A (fB T N D s' m'))(hs:Same s s' m m')(hv:VlP 7 σ (FX X A s) m'.v s'.vq s'.vp)(he:EnR 7 σ (FX X A s) m'.env s'.pe)(hk:WtR σ (FX X A s) m'.k s'.pk)(hl:LkR σ (FX X A s) m'.calls s'.pl):Mac σ' X A T N D s' m':=by
 have hY:∀j,j<σ.n->j=A->FX X A s j:=fun j _ h=>.inr (.inl h);have hI:∀j,j<σ.n->FX X A s j->FX X A s j:=fun _ _ h=>h;obtain⟨e1,e2,e3,e4,e5,e6,e7,e8,e9,e10,e11,e12,e13,e14,e15,e16,e17⟩:=id hs;have efx:FX X A s'=FX X A s:=hs.fx;refine⟨a0,?_,?_,?_,?_,?_,?_,?_,?_,?_,?_,?_,?_,fun j hj=>Nat.lt_of_lt_of_le (h.xn j hj) f.n,h.xA,?_,?_,?_⟩
 ·rw[efx];exact h.tree.step f hY hI
 ·rw[efx,e1,e14];exact h.inp.step f hY hI fun _ _ h=>h
 ·rw[e5,e3,e4,e15];exact h.out.frm f fun hp h2=>(h.xo hp).2 h2
 ·rw[e8,e6,e7,e9];exact h.cells.frm f fun hp h2=>(h.xc hp).2.1 h2
 ·rw[e9,e16];exact h.clen
 ·intro i h1 h2;have h3:i<s.css.length:=by rw[e9]at h1;exact h1
  have h4:i<m.cells.length:=by rw[e16]at h2;exact h2
  have:=gC f hY hI _ _ (h.cel i h3 h4);rw[efx];simp only[e9,e16];exact this
 ·rw[e12,e10,e11,e13];exact h.wr.frm f fun hp h2=>(h.xw hp).2.1 h2
 ·rw[e13,e17];exact h.wl
 ·rw[efx];exact hv.step f hY hI
 ·rw[efx];exact EnR_step f hY hI _ _ he
 ·rw[efx];exact lP f hY hI hk
 ·rw[efx];exact gV f hY hI hl
 ·rw[e3,e5];exact h.xo
 ·rw[e6,e8,e3,e5];exact h.xc
 ·rw[e10,e12,e3,e5,e6,e8];exact h.xw
structure Mov(σ σ':aC)(A:Nat)(s s':Slt):Prop where
 frm:Frm σ σ' (Ft A s)
 sub:∀j,j<σ.n->Ft A s' j->Ft A s j
theorem Mov.refl:Mov σ σ A s s:=⟨Frm.refl _ _,fun _ _ h=>h⟩
theorem Mov.trans{σ'':aC}{s'':Slt}(h:Mov σ σ' A s s')(k:Mov σ' σ'' A s' s''):Mov σ σ'' A s s'':=
 ⟨h.frm.trans k.frm (fun _ _ h=>h) fun j hj h2=>h.sub j hj h2,fun j hj h2=>h.sub j hj (k.sub j (Nat.lt_of_lt_of_le hj h.frm.n) h2)⟩
theorem Mov.ofN(f:Frm σ σ' NoB):Mov σ σ' A s s:=⟨f.mono fun _ _ h=>h.elim,fun _ _ h=>h⟩
theorem Mov.ofA(f:Frm σ σ' (· =A))(hs:Ft A s'=Ft A s):Mov σ σ' A s s':=⟨f.mono fun _ _ h=>.inl h,fun j _ h=>by rw[hs]at h;exact h⟩
def QM(σ:aC)(X:Nat->Prop)(A:Nat)(T:TrA)(N:List NV)(D:List Dc)(s:Slt)(m':MS):Value->aC->Prop:=fun v σ'=>v=.tuple #[]/\∃s',Mac σ' X A T N D s' m'/\Mov σ σ' A s s'
theorem QM.up{σ1:aC}{s1:Slt}(k:Mov σ σ1 A s s1){m':MS}{v:Value}(h:QM σ1 X A T N D s1 m' v σ'):QM σ X A T N D s m' v σ':=by obtain⟨rfl,s',h1,h2⟩:=h;exact⟨rfl,s',h1,k.trans h2⟩
theorem yH{b i:Nat}{cs vs:List Value}{p:Pg}{Q:bW}(h:St σ b cs)(hi:i+vs.length<=cs.length)(hv:vs.all one=true)
  (k:∀σ',Frm σ σ' (· =b)->σ'.n=σ.n->St σ' b (cs.take i++vs++cs.drop (i+vs.length))->Wp P ov p σ' Q):Wp P ov (.act (stC (aadd ⟨b,0,some 0⟩ i) vs) fun v=>bM v fun l=>aH l p) σ Q:=by
 have e:Go.Pg.stC ⟨b,0+i,some 0⟩ vs σ=some (.tuple #[],σ.put b (.blk ⟨cs.take i++vs++cs.drop (i+vs.length),0,[cs.length],0⟩)):=by
  obtain⟨_,h⟩:=h;unfold Go.Pg.stC aC.wrN;simp only[h,Nat.zero_div];have:(Nat.beq (0+1) [cs.length].length&&Nat.ble (0+i+vs.length) cs.length&&vs.all one)=true:=by simp[hv];omega
  rw[this,cond_true,Nat.zero_add]
 rw[aV,show aadd ⟨b,0,some 0⟩ i=⟨b,0+i,some 0⟩ from rfl,e];simp only[cU,aK];exact k _ (Frm.put _ _ _ h.1) rfl (h.put (by simp;omega))
theorem jH{β:Type}{Y:Nat->Prop}{c:Nat}{R:List Value->β->Prop}{p:Option Addr}{ts:List β}(h:aN σ Y c R p ts){i n o:Nat}{J:Int}(hJ:J=((i:Nat):Int))(hi:i<ts.length)(hn:n=ts.length)(ho:o<c){w:Nat}(hw:w=i*c+o){f:Value->Pg}{Q:bW}
  (k:∀cs,R cs ts[i]->∃v,cs[o]?=some v/\Wp P ov (f v) σ Q):Wp P ov (aD p fun a=>grd (decide (J<((n:Nat):Int))) (.act (ld1 (aadd a w)) f)) σ Q:=by
 obtain⟨x,cs,rfl,h2,h3⟩:=Kp.ofRow h hi;subst hw hJ hn;obtain⟨v,hv,hk⟩:=k cs h2;simp only[bP];rw[aO];refine⟨by simp;omega,?_⟩;have:=oS (h3 o v ho hv) f Q (P:=P) (ov:=ov);rw[show aadd (aadd x (i*c)) o=aadd x (i*c+o) by simp[aadd,Nat.add_assoc]]at this;rw[this];exact hk
theorem wp_rowK{β:Type}{Y:Nat->Prop}{c:Nat}{R:List Value->β->Prop}{p:Option Addr}{ts:List β}(h:aN σ Y c R p ts){i n:Nat}{J:Int}(hJ:J=((i:Nat):Int))(hi:i<ts.length)(hn:n=ts.length){w:Nat}(hw:w=i*c){f:Value->Pg}{Q:bW}
  (k:∀cs,R cs ts[i]->Wp P ov (f (.agg cs.toArray)) σ Q):Wp P ov (aD p fun a=>grd (decide (J<((n:Nat):Int))) (.act (ldN c (aadd a w)) f)) σ Q:=by
 subst hw hJ hn;obtain⟨x,cs,rfl,h1,h2⟩:=h.ldN hi;simp only[bP];rw[aO];refine⟨by simp;omega,?_⟩;rw[aV,h1];exact k cs h2
end
section
variable{σ:aC}
theorem zW{r:Int}(h:rOK r)(σ:aC):EvF aG ovD 132 [.int .i32 r] σ (.int .i64 (dU r)) σ:=by
 refine EvF.of (T132_eq _) rfl ?_;rw[T132,aF,aF,aA];by_cases h1:r=95\/r=39
 ·have a0:((r==95)||(r==39))=true:=by simpa using h1
  have hc:dU r=1:=cls_1 (by rcases h1 with h1|h1<;>simp[h1]);rw[if_neg (by rw[a0];simp),hc];simp[wp_ret,T132k0,T132k17,aX,aM,bB,aQ,aK]
 ·have a0:((r==95)||(r==39))=false:=by simpa using h1
  rw[if_pos (by rw[a0];rfl),aE,WpF.eq (uv h σ)];simp only[bB,wp_ret,T132k0,aX,aM,aK,aA];by_cases h2:isLetterU r=true
  ·rw[if_pos h2,cls_1 (.inr (.inr h2))];simp[wp_ret,T132k17,aX,aM,aQ,aK]
  ·have n1:¬(r=95\/r=39\/isLetterU r=true):=fun h=>h.elim (fun h=>h1 (.inl h)) fun h=>h.elim (fun h=>h1 (.inr h)) h2;rw[if_neg h2];by_cases h3:48<=r/\r<=57
   ·rw[if_pos (by simpa using h3),cls_2 n1 h3];simp[wp_ret,T132k17,aX,aM,aQ,aK]
   ·rw[if_neg (by simpa using h3)];simp only[T132k17,aX,jY,aM,aQ,aK];by_cases b1:r=32
    ·rw[cls_3 n1 h3 (by simp[b1])];subst b1;simp[wp_ret,aF,T132k15,T132k16,aX,aM,aQ,bB,aK]
    by_cases b2:r=9
    ·rw[cls_3 n1 h3 (by simp[b2])];subst b2;simp[wp_ret,aF,T132k15,T132k16,T132k2,aX,aM,aQ,bB,aK]
    by_cases b3:r=10
    ·rw[cls_3 n1 h3 (by simp[b3])];subst b3;simp[wp_ret,aF,T132k15,T132k16,T132k1,T132k2,aX,aM,aQ,bB,aK]
    by_cases b4:r=13
    ·rw[cls_3 n1 h3 (by simp[b4])];subst b4;simp[wp_ret,aF,T132k15,T132k16,T132k1,T132k2,aX,aM,aQ,bB,aK]
    have n3:¬(r=32\/r=9\/r=10\/r=13):=by simp only[b1,b2,b3,b4,or_self,not_false_eq_true]
    by_cases hm:r∈marks
    ·rw[cls_4 n1 h3 n3 hm];unfold marks at hm;simp only[List.mem_cons,List.mem_nil_iff,or_false]at hm;rcases hm with rfl|rfl|rfl|rfl|rfl|rfl|rfl|rfl|rfl|rfl|rfl|rfl|rfl<;>
      simp[wp_ret,aF,T132k15,T132k16,T132k1,T132k2,T132k3,T132k4,T132k5,T132k6,T132k7,T132k8,T132k9,T132k10,T132k11,T132k12,T132k13,T132k14,aX,aM,aQ,bB,aK]
    ·rw[cls_0 n1 h3 n3 hm];unfold marks at hm;simp only[List.mem_cons,List.mem_nil_iff,or_false,not_or]at hm;obtain⟨m1,m2,m3,m4,m5,m6,m7,m8,m9,m10,m11,m12,m13⟩:=hm;have q:∀k:Int,¬r=k->(r==k)=false:=fun k hk=>by simpa using hk
     simp[wp_ret,aF,aA,T132k15,T132k16,T132k1,T132k2,T132k3,T132k4,T132k5,T132k6,T132k7,T132k8,T132k9,T132k10,T132k11,T132k12,T132k13,T132k14,aX,jY,aM,aQ,bB,aK,b1,b2,b3,b4,m1,m2,m3,m4,m5,m6,m7,m8,m9,m10,m11,m12,m13]
def Cls(g:FuncId)(may:Nat->Bool):Prop:=∀(r:Nat) (σ:aC),rOK (r:Nat)->EvF aG ovD g [.int .i32 (r:Nat)] σ (.bool (may r)) σ
theorem cls_dgt:Cls 135 dig:=by intro r σ h;refine EvF.of (T135_eq _) rfl ?_;rw[T135,aE,WpF.eq (zW h σ),aQ,wp_ret];exact⟨rfl,rfl⟩
theorem cls_lod:Cls 144 lod:=by intro r σ h;refine EvF.of (T144_eq _) rfl ?_;rw[T144,aE,WpF.eq (zW h σ),aQ,wp_ret];exact⟨rfl,rfl⟩
theorem wp_run{g:FuncId}{may:Nat->Bool}(hg:Cls g may)(L:List UInt8){Q:Value->aC->Prop}(hQ:∀σ',Frm σ σ' NoB->Q (.int .i64 (run may L:Nat)) σ'):
  WpF aG ovD 134 [.string (mkB L),.func (.func g) #[] #[]] σ Q:=by
 refine WpF.of (T134_eq _ _) rfl ?_;rw[T134,aV,yX];simp only[jV,bP];refine Wp.loop (fun m st σ'=>∃p,m=L.length-p/\p<=L.length/\Frm σ σ' NoB/\σ.n<σ'.n/\σ'.get σ.n=some (.iter (mkB L) p)/\st=[.int .i64 0]/\run may L=p+run may (L.drop p)) L.length
  ⟨0,rfl,by omega,Frm.rng _ _,by rw[aC.push_n];omega,eJ _ _,rfl,by simp⟩ ?_
 rintro m st σ' ⟨p,rfl,hp,hF,hn,a1,rfl,hr⟩;simp only[T134b0,aM,aQ,aK];by_cases h1:p<L.length
 ·have a0:L.drop p≠[]:=by simp;omega
  have hw:=eI a0;rw[List.length_drop]at hw;rw[iN a1 (by rw[cC];exact h1),aF,oM,aE,oJ L p hp];simp only[List.nil_append,List.append_nil];rw[WpF.eq (hg _ _ (lW _)),bB,aA];rw[gW a0]at hr;by_cases hm:may (bV (L.drop p)).1=true
  ·rw[if_pos hm,List.drop_drop]at hr;rw[if_neg (by simp[hm]),wp_ret];simp only[T134k0,jY,aX,aM,aQ,aK];rw[wp_ret];refine⟨_,?_,p+(bV (L.drop p)).2,rfl,by omega,hF.putNew (Nat.le_refl _) hn _,hn,eC _ _ _,rfl,by omega⟩;omega
  ·rw[if_neg hm]at hr;rw[if_pos (by simp[hm]),wp_ret];simp only[T134k0,T134k1,aX,aM,aQ,aK];rw[wp_ret];simp only[wR,aX,aM,aQ,aK];rw[wp_ret];rw[Nat.add_zero]at hr;rw[<-hr];exact⟨_,rfl,hQ _ (hF.putNew (Nat.le_refl _) hn _)⟩
 ·obtain rfl:p=L.length:=by omega
  rw[oE a1 (by rw[cC];omega),wp_ret];simp only[T134k1,aX,aM,aQ,aK];rw[wp_ret,cC];rw[List.drop_length,run_nil,Nat.add_zero]at hr;rw[<-hr];exact⟨_,rfl,hQ _ hF⟩
theorem wp_upperL{L:List UInt8}(hL:L≠[]){Q:Value->aC->Prop}(hQ:∀σ',Frm σ σ' NoB->Q (.bool (isUpperU ((bV L).1:Nat))) σ'):WpF aG ovD 145 [.string (mkB L)] σ Q:=by have hl:=List.length_pos_iff.2 hL;refine WpF.of (T145_eq _) rfl ?_;rw[T145,aV,yX];simp only[jV,bP];refine Wp.count 0 (fun _ st σ'=>σ'=σ.push (.iter (mkB L) 0)/\st=[.bool false]) ⟨rfl,rfl⟩ (fun j _ _ hj _=>by omega) ?_;rintro st σ' ⟨rfl,rfl⟩;simp only[T145b0,aM,bB,aK];have e:=oJ L 0 (by omega);rw[List.drop_zero]at e;rw[iN (eJ _ _) (by rw[cC];exact hl),e,aF,aE,WpF.eq (ev_upper (lW L) _)];simp only[bB,wp_ret,T145k0,T145k1,aX,wR,aM,aK];exact⟨_,rfl,hQ _ ((Frm.rng σ _).putNew (Nat.le_refl _) (by rw[aC.push_n];omega) _)⟩
theorem ub(L p:List UInt8):EvF aG ovD 147 [.string (mkB L),.string (bs p)] σ (.bool (decide (L.take p.length=p))) σ:=by
 have a0:EvF aG ovD 150 [.string (mkB L),.string (bs p)] σ (.bool (decide (L.take p.length=p))) σ:=by
  refine EvF.of (T150_eq _ _) rfl ?_;have hs:(bs p).size=p.length:=rfl;rw[T150,aF,hs,cC,aA];by_cases h:p.length<=L.length
  ·rw[if_pos (by simp;omega),aO];refine⟨by simp;omega,?_⟩;rw[wp_ret];simp only[T150k0,aX,aM,bB,aK];rw[wp_ret,ext_0,za,tl_bs];refine⟨?_,rfl⟩
   congr 2
   by_cases e:L.take p.length=p
   ·rw[e];simp
   ·simp[e]
  ·rw[if_neg (by simp;omega),wp_ret];simp only[T150k0,aX,aM,bB,aK];rw[wp_ret];refine⟨?_,rfl⟩;have:¬L.take p.length=p:=by intro e;have:=congrArg List.length e;rw[List.length_take]at this;omega
   simp[this]
 refine EvF.of (T147_eq _ _) rfl ?_;rw[T147,aE,WpF.eq a0,bB,wp_ret];exact⟨rfl,rfl⟩
def EvB(p:Pg)(σ:aC)(b:Bool):Prop:=∀Q:bW,Wp aG ovD p σ Q=Q .normal [.bool b] σ
theorem EvB.ret(σ:aC)(b:Bool):EvB (.ret .normal [.bool b]) σ b:=fun Q=>by rw[wp_ret]
theorem EvB.cond{p:Pg}{σ:aC}{b c:Bool}(h:EvB p σ b):EvB (bif c then .ret .normal [.bool c] else p) σ (c||b):=by
 cases c with
 |true=>exact EvB.ret σ true
 |false=>exact h
theorem EvB.join{p:Pg}{k:Ex->List Value->Pg}{σ:aC}{b:Bool}(h:EvB p σ b)(hk:∀x,EvB (k .normal [.bool x]) σ x):EvB (.join p k) σ b:=fun Q=>by rw[aF,h,hk b]
theorem ev_isKey(t:List UInt8):EvF aG ovD 146 [.string (mkB t)] σ (.bool (iZ t)) σ:=by
 refine EvF.of (T146_eq _) rfl ?_;have hk:∃b,b=iZ t/\Wp aG ovD (T146k17 .normal [.bool b]) σ (fun e vs σ1=>Wp aG ovD (T146k18 e vs) σ1 fun _ vs σ1=>vs=[.bool (iZ t)]/\σ1=σ):=by
  refine⟨_,rfl,?_⟩;simp only[T146k17,aX,aM,bB,aK];rw[aA];cases iZ t with
  |true=>rw[if_pos rfl,wp_ret];simp only[T146k18,aX,aM,bB,aK];rw[wp_ret];exact⟨rfl,rfl⟩
  |false=>rw[if_neg (by simp),wp_ret];simp only[T146k18,jY,aX,aM,bB,aK];rw[wp_ret];exact⟨rfl,rfl⟩
 obtain⟨b,hb,hk⟩:=hk;rw[T146,aF,aF];have pass:∀{k:Ex->List Value->Pg},(∀x,k .normal [.bool x]=.ret .normal [.bool x])->∀x,EvB (k .normal [.bool x]) σ x:=fun h x=>by rw[h];exact EvB.ret _ _
 have passK:∀x:Bool,T146k0 .normal [.bool x]=.ret .normal [.bool x]:=fun x=>by simp only[T146k0,aX,aM,bB,aK]
 have key:∀p,(∃c,EvB p σ c/\c=b)->Wp aG ovD p σ fun e vs σ1=>Wp aG ovD (T146k17 e vs) σ1 fun e vs σ1=>Wp aG ovD (T146k18 e vs) σ1 fun _ vs σ1=>vs=[.bool (iZ t)]/\σ1=σ:=by rintro p ⟨c,hp,rfl⟩;rw[hp];exact hk
 apply key;apply Exists.intro;apply And.intro
 ·repeat' first
   |exact EvB.ret _ _
   |apply EvB.cond
   |(apply EvB.join;case hk=>exact pass fun x=>passK x)
 ·rw[hb];simp only[iZ,keys,List.any_cons,List.any_nil,za,tl_bs,Bool.or_false]
theorem wp_value(t:List UInt8)(ht:∀b∈t,48<=b.toNat/\b.toNat<=57){Q:Value->aC->Prop}(hQ:∀n σ',Frm σ σ' NoB->Q (.tuple #[.int .i64 n,.bool (nA t 0)]) σ'):
  WpF aG ovD 136 [.string (mkB t)] σ Q:=by
 refine WpF.of (T136_eq _) rfl ?_;rw[T136,aV,yX];simp only[jV,bP];refine Wp.loop (fun m st σ'=>∃(p:Nat) (n:Int),m=t.length-p/\p<=t.length/\Frm σ σ' NoB/\σ.n<σ'.n/\σ'.get σ.n=some (.iter (mkB t) p)/\0<=n/\n<=4611686018427387903/\st=[.int .i64 n,.bool false,.int .i64 0]/\nA t 0=nA (t.drop p) n) t.length
  ⟨0,0,rfl,by omega,Frm.rng _ _,by rw[aC.push_n];omega,eJ _ _,by omega,by omega,rfl,by simp⟩ ?_
 rintro m st σ' ⟨p,n,rfl,hp,hF,hn,a0,h0,h1,rfl,hv⟩;simp only[T136b0,aM,aQ,bB,aK];by_cases a1:p<t.length
 ·obtain⟨b,r,hb⟩:∃b r,t.drop p=b::r:=by
   cases hX:t.drop p with
   |nil=>simp at hX;omega
   |cons b r=>exact⟨b,r,rfl⟩
  have a4:=ht b (List.mem_of_mem_drop (by rw[hb];simp));have hr:r=t.drop (p+1):=by have:=congrArg (List.drop 1) hb;rw[List.drop_drop]at this;simpa using this.symm
  have hd:=mC (b:=b) (r:=r) (by omega);rw[iN a0 (by rw[cC];exact a1),oJ t p hp,hb,hd,aF];simp only;have e32:wi32 ((b.toNat:Int)-48)=(b.toNat:Int)-48:=wi32_in (by omega);have e64:aP ((b.toNat:Int)-48)=(b.toNat:Int)-48:=aS (by omega);have ex:aP (4611686018427387903-((b.toNat:Int)-48))=4611686018427387903-((b.toNat:Int)-48):=aS (by omega);have ed:Int.tdiv (4611686018427387903-((b.toNat:Int)-48)) 10=(4611686018427387903-((b.toNat:Int)-48))/10:=Int.tdiv_eq_ediv_of_nonneg (by omega);have ed2:aP (Int.tdiv (4611686018427387903-((b.toNat:Int)-48)) 10)=Int.tdiv (4611686018427387903-((b.toNat:Int)-48)) 10:=aS (by rw[ed];omega);rw[e32,e64,ex,ed2,aA];rw[hb,show nA (b::r) n=if n>Int.tdiv (4611686018427387903-((b.toNat:Int)-48)) 10 then false else nA r (10*n+((b.toNat:Int)-48)) from rfl]at hv;by_cases hc:n>Int.tdiv (4611686018427387903-((b.toNat:Int)-48)) 10
  ·rw[if_pos hc]at hv;rw[if_pos (by simpa using hc),wp_ret];simp only[T136k0,aX,aM,aQ,bB,aK];rw[wp_ret];simp only[T136k1,wR,aX,aM,aQ,bB,aK];rw[wp_ret,<-hv];exact⟨_,rfl,hQ _ _ (hF.putNew (Nat.le_refl _) hn _)⟩
  ·rw[if_neg hc]at hv;rw[if_neg (by simpa using hc),wp_ret];have a3:aP (10*n)=10*n:=aS (by rw[ed]at hc;omega);have a2:aP (10*n+((b.toNat:Int)-48))=10*n+((b.toNat:Int)-48):=aS (by rw[ed]at hc;omega);simp only[T136k0,jY,aX,aM,aQ,bB,aK];rw[wp_ret,a3,a2];refine⟨t.length-(p+1),by omega,p+1,10*n+((b.toNat:Int)-48),rfl,by omega,hF.putNew (Nat.le_refl _) hn _,hn,eC _ _ _,by omega,by rw[ed]at hc;omega,rfl,?_⟩;rw[hv,hr]
 ·obtain rfl:p=t.length:=by omega
  rw[oE a0 (by rw[cC];omega),wp_ret];simp only[T136k1,aX,aM,aQ,bB,aK];rw[List.drop_length]at hv;have:nA t 0=true:=hv;rw[wp_ret,<-this];exact⟨_,rfl,hQ _ _ hF⟩
theorem wp_marked{L:List UInt8}(hL:L≠[]){Q:Value->aC->Prop}(hQ:∀σ',Frm σ σ' NoB->Q (wv (oW L).1 (oW L).2 0 0) σ'):WpF aG ovD 137 [.string (mkB L)] σ Q:=by
 refine WpF.of (T137_eq _) rfl ?_;rw[T137];refine aJ fun σ1 b2 a2 b1=>?_;rw[aV,cM];simp only[bO];have a5:Frm σ1 (σ1.newBlk [.string (bs [58,61]),.string (bs [45,62])] 1) NoB:=Frm.new _ _ _ _;have a4:=Row.new σ1 1 [.string (bs [58,61]),.string (bs [45,62])] 2 (by decide) rfl (by intro x hx;simp at hx;rcases hx with rfl|rfl<;>rfl);generalize σ1.newBlk [.string (bs [58,61]),.string (bs [45,62])] 1=σ2 at a5 a4;have b0:=a5.stN b1;have a6:=b2.seq a5;have done:∀(σ3:aC) (x:List Value) (k:Int) (t:List UInt8),Frm σ σ3 NoB->St σ3 σ.n [.int .i64 k,.string (mkB t),.int .i64 0,.int .i64 0]->oW L=(k,t)->
   Wp aG ovD (.act (ldN 4 ⟨σ.n,0,some 0⟩) fun v40=>.ret .ret [v40]) σ3 fun _ vs σ'=>∃v,vs=[v]/\Q v σ':=by
  intro σ3 x k t a1 a0 he;rw[aL a0 4 rfl,wp_ret];have:=hQ σ3 a1;rw[he]at this;exact⟨_,rfl,this⟩
 have setW:∀(k:Int) (t:List UInt8) (p:Pg) (R:bW),(∀σ3,Frm σ σ3 NoB->St σ3 σ.n [.int .i64 k,.string (mkB t),.int .i64 0,.int .i64 0]->Wp aG ovD p σ3 R)->
   Wp aG ovD (.act (stC ⟨σ.n,0,some 0⟩ [.int .i64 k,.string (mkB t),.int .i64 0,.int .i64 0]) fun v=>bM v fun l=>aH l p) σ2 R:=by
  intro k t p R h;refine aZ b0 rfl rfl fun σ3 a1 b3 a0=>h σ3 (a6.fresh a1 fun j hj e=>by omega) a0
 refine Wp.count 2 (fun j st σ'=>σ'=σ2/\st=[.int .i64 ((j:Nat):Int)]/\(1<=j->L.take 2≠[58,61])/\(2<=j->L.take 2≠[45,62])) ⟨rfl,rfl,by omega,by omega⟩ ?_ ?_
 ·rintro j st σ' hj ⟨rfl,rfl,a2,a7⟩;have ej:aP ((j:Int)+1)=((j+1:Nat):Int):=by rw[aS (by omega)];omega
  simp only[T137b0,aM,aQ,aK,bP];rw[aA,if_pos (by simp;omega),aF,aO];refine⟨by simp;omega,?_⟩;rw[Int.toNat_natCast];have a8:j=0\/j=1:=by omega
  rcases a8 with rfl|rfl
  ·rw[mQ a4 (v:=.string (bs [58,61])) rfl,fH,aE,WpF.eq (ub _ _),bB,aA];by_cases h1:L.take 2=[58,61]
   ·rw[if_pos (by simpa using h1)];refine setW 5 [58,61] _ _ fun σ3 a1 a0=>?_;rw[wp_ret];simp only[T137k0,aX,aK];rw[wp_ret];simp only[T137k2,wR,aX,aM,aQ,aK];exact done σ3 [] 5 [58,61] a1 a0 (by unfold oW;rw[if_pos h1])
   ·rw[if_neg (by simpa using h1),wp_ret];simp only[T137k0,jY,aX,aK];rw[wp_ret,ej];exact⟨rfl,rfl,fun _=>h1,by omega⟩
  ·rw[mQ a4 (v:=.string (bs [45,62])) rfl,fH,aE,WpF.eq (ub _ _),bB,aA];by_cases h1:L.take 2=[45,62]
   ·rw[if_pos (by simpa using h1)];refine setW 5 [45,62] _ _ fun σ3 a1 a0=>?_;rw[wp_ret];simp only[T137k0,aX,aK];rw[wp_ret];simp only[T137k2,wR,aX,aM,aQ,aK];exact done σ3 [] 5 [45,62] a1 a0 (by unfold oW;rw[if_neg (a2 (by omega)),if_pos h1])
   ·rw[if_neg (by simpa using h1),wp_ret];simp only[T137k0,jY,aX,aK];rw[wp_ret,ej];exact⟨rfl,rfl,fun _=>a2 (by omega),fun _=>h1⟩
 ·rintro st σ' ⟨rfl,rfl,a2,a7⟩;have h1:=a2 (by omega);have h2:=a7 (by omega);obtain⟨b,r,rfl⟩:∃b r,L=b::r:=by
   cases L with
   |nil=>exact absurd rfl hL
   |cons b r=>exact⟨b,r,rfl⟩
  have a9:cJ (mkB (b::r)) 0=(b.toNat:Int):=rfl;have a3:(mkB (b::r)).size=r.length+1:=rfl;simp only[T137b0,aM,aQ,aK,bP];rw[aA,if_neg (by simp),wp_ret];simp only[T137k2,aX,aM,aQ,aK];rw[aF,aO];refine⟨by simp[a3],?_⟩;rw[a9,aA];have bad:b=62\/b=58->Wp aG ovD (T137k1 ⟨σ.n,0,some 0⟩ (mkB (b::r)) .normal [.bool true]) σ' fun _ vs σ'=>∃v,vs=[v]/\Q v σ':=by intro hb;simp only[T137k1,aX,aM,bB,aK];rw[aA,if_pos rfl];refine setW 0 [] _ _ fun σ3 a1 a0=>?_;exact done σ3 [] 0 [] a1 a0 (by unfold oW;rw[if_neg h1,if_neg h2,if_pos (by simpa using hb)])
  by_cases c1:b=62
  ·subst c1;rw[if_neg (by simp),wp_ret];exact bad (.inl rfl)
  ·have n1:¬((b.toNat:Int)=62):=fun e=>c1 (UInt8.toNat_inj.1 (by show b.toNat=62;omega));rw[if_pos (by simpa using n1),aO];refine⟨by simp[a3],?_⟩;rw[wp_ret];by_cases c2:b=58
   ·subst c2;exact bad (.inr rfl)
   ·have n2:¬((b.toNat:Int)=58):=fun e=>c2 (UInt8.toNat_inj.1 (by show b.toNat=58;omega));have e2:((b.toNat:Int)==58)=false:=by simpa using n2
    rw[e2];simp only[T137k1,aX,aM,bB,aK];rw[aA,if_neg (by simp),aO];refine⟨by simp[a3];omega,?_⟩;rw[ext_0];refine setW 5 _ _ _ fun σ3 a1 a0=>?_;exact done σ3 [] 5 _ a1 a0 (by unfold oW;rw[if_neg h1,if_neg h2,if_neg (by simp[c1,c2])])
theorem wp_named{L:List UInt8}(hL:L≠[]){Q:Value->aC->Prop}(hQ:∀σ',Frm σ σ' NoB->Q (wv (wH L).1 (wH L).2 0 0) σ'):WpF aG ovD 133 [.string (mkB L)] σ Q:=by
 refine WpF.of (T133_eq _) rfl ?_;have b5:=qJ (may:=lod) L;rw[T133];refine aJ fun σ1 c1 c6 b9=>?_;rw[aE];refine wp_run cls_lod L fun σ2 a9=>?_;have b8:=a9.stN b9;rw[aQ,aO];refine⟨by simp[cC];omega,?_⟩;rw[Int.toNat_natCast,ext_0];refine aJ fun σ3 b3 c5 b1=>?_;have a7:=b3.stN b8;generalize hA:σ2.n=A at b1;have c7:σ.n<A:=by rw[<-hA];have:=a9.n;omega
 refine aZ b1 rfl rfl fun σ4 b2 c4 b7=>?_;have a6:=b2.st a7 (by omega);have b0:Frm σ σ4 NoB:=((c1.seq a9).seq b3).fresh b2 fun j hj e=>by omega
 rw[aF,aE];refine wp_upperL hL fun σ5 a8=>?_;have a4:=a8.stN b7;have a0:=a8.stN a6;have a2:=b0.seq a8;have fin:∀(σ6:aC) (k:Int),Frm σ σ6 NoB->St σ6 A [.int .i64 k,.string (mkB (L.take (run lod L))),.int .i64 0,.int .i64 0]->St σ6 σ.n [.int .i64 0,.string (bs []),.int .i64 0,.int .i64 0]->(wH L).1=k->
   Wp aG ovD (T133k2 ⟨A,0,some 0⟩ ⟨σ.n,0,some 0⟩ .normal []) σ6 fun _ vs σ'=>∃v,vs=[v]/\Q v σ':=by
  intro σ6 k a1 a3 a5 hk;simp only[T133k2,aX,aK];rw[aL a3 4 rfl];simp only[nF,aM,aQ,fH,aK];refine aZ a5 rfl rfl fun σ7 c0 c3 b6=>?_;rw[aL b6 4 rfl,wp_ret];have:=hQ σ7 (a1.fresh c0 fun j hj e=>by omega);rw[hk]at this;exact⟨_,rfl,this⟩
 rw[bB,aF,aA];by_cases hu:isUpperU ((bV L).1:Nat)=true
 ·rw[if_pos hu];refine aT a4 (by simp) rfl fun σ6 a1 b4 a3=>?_;rw[wp_ret];simp only[T133k1,aX,aK];rw[wp_ret];refine fin σ6 3 (a2.fresh a1 fun j hj e=>by omega) a3 (a1.st a0 (by omega)) ?_;unfold wH;rw[if_pos hu]
 ·rw[if_neg hu,aB a4 (v:=.string (mkB (L.take (run lod L)))) rfl,fH,aE,WpF.eq (ev_isKey _),bB,aF,aA];by_cases hk:iZ (L.take (run lod L))=true
  ·rw[if_pos hk];refine aT a4 (by simp) rfl fun σ6 a1 b4 a3=>?_;rw[wp_ret];simp only[T133k0,T133k1,aX,aK];rw[wp_ret];simp only[aX,aK];rw[wp_ret];refine fin σ6 4 (a2.fresh a1 fun j hj e=>by omega) a3 (a1.st a0 (by omega)) ?_;unfold wH;rw[if_neg hu,if_pos hk]
  ·rw[if_neg hk,wp_ret];simp only[T133k0,T133k1,aX,aK];rw[wp_ret];simp only[aX,aK];rw[wp_ret];refine fin σ5 2 a2 a4 a0 ?_;unfold wH;rw[if_neg hu,if_neg hk]
theorem vm:∀(n:Nat) (L:List UInt8),L.length<=n->∀b∈L.take (run dig L),48<=b.toNat/\b.toNat<=57
 |0,L,h,b,hb=>by have:L=[]:=List.eq_nil_of_length_eq_zero (by omega);subst this;simp at hb
 |n+1,L,h,b,hb=>by
  by_cases hL:L=[]
  ·subst hL;simp at hb
  ·rw[gW hL]at hb;split at hb
   ·rename_i hm;have hc:dU ((bV L).1:Nat)=2:=by simpa[dig]using hm
    have hd:=cls_dig hc;obtain⟨a,r,rfl,ha,hw⟩:=yL hL (by omega);rw[hw,Nat.add_comm,List.take_succ_cons,List.drop_succ_cons,List.drop_zero]at hb;rcases List.mem_cons.1 hb with rfl|hb
    ·omega
    ·exact vm n r (by simpa using h) b hb
   ·simp at hb
theorem wp_word{L:List UInt8}(hL:L≠[]){Q:Value->aC->Prop}(hQ:∀σ',Frm σ σ' NoB->Q (wv (dE L).1 (dE L).2 0 0) σ'):WpF aG ovD 119 [.string (mkB L)] σ Q:=by
 refine WpF.of (T119_eq _) rfl ?_;rw[T119];refine aJ fun σ1 a5 b2 a4=>?_;rw[aE,WpF.eq (ev_decode hL _)];simp only[cU,aM,aQ,aK];rw[aE,WpF.eq (zW (lW L) _),aQ,aF,aF];have fin:∀(σ2:aC) (k:Int) (t:List UInt8),Frm σ σ2 NoB->St σ2 σ.n [.int .i64 k,.string (mkB t),.int .i64 0,.int .i64 0]->dE L=(k,t)->
   Wp aG ovD (T119k2 ⟨σ.n,0,some 0⟩ .ret []) σ2 fun _ vs σ'=>∃v,vs=[v]/\Q v σ':=by
  intro σ2 k t a0 a9 he;simp only[T119k2,aX,aK];rw[aL a9 4 rfl,wp_ret];have:=hQ σ2 a0;rw[he]at this;exact⟨_,rfl,this⟩
 have no:∀(σ2:aC),Frm σ1 σ2 NoB->dE L=(0,[])->Wp aG ovD (T119k2 ⟨σ.n,0,some 0⟩ .normal []) σ2 fun _ vs σ'=>∃v,vs=[v]/\Q v σ':=by intro σ2 a0 he;simp only[T119k2,jY,aX,aK];refine aZ (a0.stN a4) rfl rfl fun σ3 a1 a6 a3=>?_;rw[aL a3 4 rfl,wp_ret];have:=hQ σ3 ((a5.seq a0).fresh a1 fun j hj e=>by omega);rw[he]at this;exact⟨_,rfl,this⟩
 rw[aA];by_cases h1:dU ((bV L).1:Nat)=1
 ·rw[if_pos (by simpa using h1),aA];by_cases h2:(bV L).1=39
  ·rw[if_neg (by simp[h2]),wp_ret];simp only[T119k1,jY,aX,aK];rw[wp_ret];exact no σ1 (Frm.refl _ _) (by unfold dE;rw[if_pos h1,if_pos h2])
  ·rw[if_pos (by simp;omega),aE];refine wp_named hL fun σ2 a0=>?_;unfold wv;simp only[nF,aM,aQ,fH,aK];refine aZ (a0.stN a4) rfl rfl fun σ3 a1 a6 a3=>?_;rw[wp_ret];simp only[T119k1,aX,aK];rw[wp_ret];exact fin σ3 _ _ ((a5.seq a0).fresh a1 fun j hj e=>by omega) a3 (by unfold dE;rw[if_pos h1,if_neg h2])
 ·rw[if_neg (by simpa using h1),aF,aA];by_cases h2:dU ((bV L).1:Nat)=2
  ·have a7:=qJ (may:=dig) L;rw[if_pos (by simpa using h2),aE];refine wp_run cls_dgt L fun σ2 a0=>?_;rw[aQ,aO];refine⟨by simp[cC];omega,?_⟩;rw[Int.toNat_natCast,ext_0,aE];refine wp_value _ (vm _ L (Nat.le_refl _)) fun n σ3 a1=>?_;simp only[cU,aM,aQ,bB,aK];rw[aA];have a2:=a0.seq a1;by_cases h3:nA (L.take (run dig L)) 0=true
   ·rw[if_pos h3,aO];refine⟨by simp[cC];omega,?_⟩;refine aZ (a2.stN a4) rfl rfl fun σ4 b0 b1 a8=>?_;rw[wp_ret];simp only[T119k0,T119k1,aX,aK];rw[wp_ret];simp only[aX,aK];rw[wp_ret];exact fin σ4 _ _ ((a5.seq a2).fresh b0 fun j hj e=>by omega) a8 (by unfold dE;rw[if_neg h1,if_pos h2,if_pos h3])
   ·rw[if_neg h3,wp_ret];simp only[T119k0,T119k1,jY,aX,aK];rw[wp_ret];simp only[jY,aX,aK];rw[wp_ret];exact no σ3 a2 (by unfold dE;rw[if_neg h1,if_pos h2,if_neg h3])
  ·rw[if_neg (by simpa using h2),aA];by_cases h3:dU ((bV L).1:Nat)=4
   ·rw[if_pos (by simpa using h3),aE];refine wp_marked hL fun σ2 a0=>?_;unfold wv;simp only[nF,aM,aQ,fH,aK];refine aZ (a0.stN a4) rfl rfl fun σ3 a1 a6 a3=>?_;rw[wp_ret];simp only[T119k0,T119k1,aX,aK];rw[wp_ret];simp only[aX,aK];rw[wp_ret];exact fin σ3 _ _ ((a5.seq a0).fresh a1 fun j hj e=>by omega) a3 (by unfold dE;rw[if_neg h1,if_neg h2,if_pos h3])
   ·rw[if_neg (by simpa using h3),wp_ret];simp only[T119k0,T119k1,jY,aX,aK];rw[wp_ret];simp only[jY,aX,aK];rw[wp_ret];exact no σ1 (Frm.refl _ _) (by unfold dE;rw[if_neg h1,if_neg h2,if_neg h3])
end
theorem EvB.wp{p:Pg}{σ:aC}{b:Bool}(h:EvB p σ b){Q:bW}(k:Q .normal [.bool b] σ):Wp aG ovD p σ Q:=by rw[h];exact k
def justM(k:Int)(s:List UInt8):Bool:=decide (s≠[])&&(decide (s.length<=4000)&&decide (dE s=(k,s)))
theorem justM_of{k:Int}{s:List UInt8}(h:xR k s=true):justM k s=true:=by
 unfold xR at h;split at h
 ·cases h
 rename_i hl;split at h
 ·rename_i w hw;simp only[Bool.and_eq_true,decide_eq_true_eq]at h;obtain⟨h1,h2⟩:=h;have hc:=(sA s (s.length+1) 0 0 [w] (Nat.zero_le _) (by rw[List.drop_zero];exact hw)).1;obtain⟨_,c1,c2,c3,_,c4,_⟩:=hc;rw[h2]at c1 c2 c4;have e:w.fr=0:=by omega
  rw[e,List.drop_zero,h1]at c4;unfold justM;simp only[Bool.and_eq_true,decide_eq_true_eq];exact⟨c2,by omega,c4.eq⟩
 ·cases h
section
variable{σ:aC}
theorem qj{k:Int}{s:List UInt8}(hj:justM k s=true){Q:Value->aC->Prop}(hQ:∀σ',Frm σ σ' NoB->Q (.bool true) σ'):WpF aG ovD 105 [.string (mkB s),.int .i64 k] σ Q:=by unfold justM at hj;simp only[Bool.and_eq_true,decide_eq_true_eq]at hj;obtain⟨h0,h1,h2⟩:=hj;refine WpF.of (T105_eq _ _) rfl ?_;rw[T105,aF,bR,aA,if_pos (by simp[h0])];simp only[wpS,T105k1,cC];rw[aA,if_neg (by simp;omega),aE];refine wp_word h0 fun σ1 a5=>?_;unfold wv;simp only[wpS];refine aJ fun σ2 a4 a7 a2=>?_;refine aZ a2 rfl rfl fun σ3 a3 a6 a1=>?_;have a0:=a5.seq (a4.fresh a3 fun j hj h=>by omega);rw[aF,aB a1 rfl];simp only[wpS,h2];rw[aA,if_pos (by simp),aB a1 rfl];simp only[wpS,T105k0,h2,eP];exact⟨_,rfl,by simpa using hQ σ3 a0⟩
theorem kE{s:List UInt8}(h:uJ s=true){Q:Value->aC->Prop}(hQ:∀σ',Frm σ σ' NoB->Q (.bool true) σ'):WpF aG ovD 77 [.string (mkB s)] σ Q:=by unfold uJ at h;simp only[Bool.and_eq_true,decide_eq_true_eq]at h;refine WpF.of (T77_eq _) rfl ?_;rw[T77,aF,bR,aA,if_pos (by simp[h.2]),aE];refine qj (justM_of h.1) fun σ1 a0=>?_;simp only[wpS,T77k0];exact⟨_,rfl,hQ σ1 a0⟩
theorem zZ{s:List UInt8}(h:conM s=true){Q:Value->aC->Prop}(hQ:∀σ',Frm σ σ' NoB->Q (.bool true) σ'):WpF aG ovD 79 [.string (mkB s)] σ Q:=by refine WpF.of (T79_eq _) rfl ?_;rw[T79,aE];refine qj (justM_of h) fun σ1 a0=>?_;simp only[wpS];exact⟨_,rfl,hQ σ1 a0⟩
theorem wp_number85{v:NV}(q:Option Addr)(c:Nat)(h:nK v.x.k v.x.n=true):WpF aG ovD 108 [.agg (nvC v q c).toArray] σ fun w σ'=>w=.bool true/\Frm σ σ' NoB:=by
 refine WpF.of (T108_eq _ _ _ _ _ _ _ _ _) rfl ?_;rw[T108];refine aJ fun σ1 a1 a2 a0=>?_;generalize σ.n=A at a0;have a0:St σ1 A (nvC v q c):=a0;rw[aB a0 rfl];simp only[wpS];refine EvB.wp (EvB.cond (EvB.ret _ _)) ?_;simp only[wpS,T108k3];unfold nK at h;rw[aA];by_cases h1:v.x.k=1\/v.x.k=23
 ·rw[if_pos h1]at h;simp only[Bool.and_eq_true,decide_eq_true_eq]at h;rw[if_pos (by simpa using h1),aF,aB a0 rfl];simp only[wpS];rw[aA,if_pos (by simpa using h.1),aB a0 rfl];simp only[wpS,T108k0,T108k4];exact⟨_,rfl,by simpa using h.2,a1⟩
 ·rw[if_neg h1]at h;rw[if_neg (by simpa using h1),aF];refine EvB.wp (EvB.cond (EvB.ret _ _)) ?_;simp only[wpS,T108k2];rw[aA];by_cases h2:v.x.k=2\/v.x.k=24
  ·rw[if_pos h2]at h;rw[if_pos (by simpa using h2),aF,aB a0 rfl];simp only[wpS];rw[aA];simp only[Bool.or_eq_true,decide_eq_true_eq]at h;by_cases h3:v.x.n=0
   ·rw[if_neg (by simp[h3])];simp only[wpS,T108k1,T108k4];exact⟨_,rfl,rfl,a1⟩
   ·rw[if_pos (by simpa using h3),aB a0 rfl];simp only[wpS,T108k1,T108k4];exact⟨_,rfl,by rcases h with h|h;exact absurd h h3;simp[h],a1⟩
  ·rw[if_neg h2]at h;rw[if_neg (by simpa using h2)];simp only[wpS,T108k4];rw[aB a0 rfl];simp only[wpS];exact⟨_,rfl,by simpa using h,a1⟩
def uj(k:Int):Int×Int:=
 if k=5\/k=26 then(0,3) else if k=11 then(3,1000) else if k=6\/k=15\/k=16\/k=17\/k=19 then(1,1)
 else if k=7\/k=8\/k=9\/k=12\/k=13\/k=14\/k=20 then(2,2) else if k=10 then(3,3) else(0,0)
theorem EvB.pass{k:Ex->List Value->Pg}(h:∀x,k .normal [.bool x]=.ret .normal [.bool x])(x:Bool):EvB (k .normal [.bool x]) σ x:=by rw[h];exact EvB.ret _ _
theorem ev_kids87(k:Int):EvF aG ovD 110 [.int .i64 k] σ (.tuple #[.int .i64 (uj k).1,.int .i64 (uj k).2]) σ:=by
 refine EvF.of (T110_eq _) rfl ?_;have p:∀{K:Ex->List Value->Pg},(∀x,K .normal [.bool x]=.ret .normal [.bool x])->∀x,EvB (K .normal [.bool x]) σ x:=fun h=>EvB.pass h;rw[T110,aF];refine EvB.wp (EvB.cond (EvB.ret _ _)) ?_;unfold uj;simp only[wpS,T110k10];rw[aA];by_cases c1:k=5\/k=26
 ·rw[if_pos (by simpa using c1),if_pos c1];simp only[wpS,T110k11];exact⟨trivial,trivial⟩
 rw[if_neg (by simpa using c1),if_neg c1,aA];by_cases c2:k=11
 ·rw[if_pos (by simpa using c2),if_pos c2];simp only[wpS,T110k11];exact⟨trivial,trivial⟩
 rw[if_neg (by simpa using c2),if_neg c2,aF];refine EvB.wp (EvB.cond (EvB.join (EvB.cond (EvB.join (EvB.cond (EvB.join (EvB.cond (EvB.ret _ _)) (p fun x=>by simp only[wpS,T110k0]))) (p fun x=>by simp only[wpS,T110k1]))) (p fun x=>by simp only[wpS,T110k2]))) ?_;simp only[wpS,T110k9];rw[aA];by_cases c3:k=6\/k=15\/k=16\/k=17\/k=19
 ·rw[if_pos (by simpa using c3),if_pos c3];simp only[wpS,T110k11];exact⟨trivial,trivial⟩
 rw[if_neg (by simpa using c3),if_neg c3,aF];refine EvB.wp (EvB.cond (EvB.join (EvB.cond (EvB.join (EvB.cond (EvB.join (EvB.cond (EvB.join (EvB.cond (EvB.join (EvB.cond (EvB.ret _ _)) (p fun x=>by simp only[wpS,T110k3]))) (p fun x=>by simp only[wpS,T110k4]))) (p fun x=>by simp only[wpS,T110k5]))) (p fun x=>by simp only[wpS,T110k6]))) (p fun x=>by simp only[wpS,T110k7]))) ?_;simp only[wpS,T110k8];rw[aA];by_cases c4:k=7\/k=8\/k=9\/k=12\/k=13\/k=14\/k=20
 ·rw[if_pos (by simpa using c4),if_pos c4];simp only[wpS,T110k11];exact⟨trivial,trivial⟩
 rw[if_neg (by simpa using c4),if_neg c4,aA];by_cases c5:k=10
 ·rw[if_pos (by simpa using c5),if_pos c5];simp only[wpS,T110k11];exact⟨trivial,trivial⟩
 ·rw[if_neg (by simpa using c5),if_neg c5];simp only[wpS,T110k11];exact⟨trivial,trivial⟩
theorem kidsR_ok{k:Int}{n:Nat}(h1:1<=k)(h2:k<=26)(h:lN k n=true)(hn:n<=1000):(uj k).1<=(n:Int)/\(n:Int)<=(uj k).2/\(k=11->n%2=1):=by
 have e:∃i:Nat,i<27/\k=(i:Int):=⟨k.toNat,by omega,by omega⟩;obtain⟨i,hi,rfl⟩:=e;have:∀i:Fin 27,1<=i.1->(uj (i.1:Int)=if eT.getD i.1 0= -2 then(0,3) else if eT.getD i.1 0= -3 then(3,1000) else(eT.getD i.1 0,eT.getD i.1 0))/\(((i.1:Int)=11)->eT.getD i.1 0= -3):=by decide
 obtain⟨e1,e2⟩:=this ⟨i,hi⟩ (by show 1<=i;omega);rw[e1];unfold lN at h;rw[Int.toNat_natCast]at h;dsimp only at e2 ⊢;split at h
 ·rename_i c;rw[if_pos c];have h:n<=3:=by simpa using h
  refine⟨by show(0:Int)<=n;omega,by show(n:Int)<=3;omega,fun a0=>?_⟩;rw[e2 a0]at c;exact absurd c (by decide)
 ·rename_i c;rw[if_neg c];split at h
  ·rename_i c2;rw[if_pos c2];simp only[Bool.and_eq_true,decide_eq_true_eq]at h;exact⟨by show(3:Int)<=n;omega,by show(n:Int)<=1000;omega,fun _=>h.2⟩
  ·rename_i c2;rw[if_neg c2];have h:(n:Int)=eT.getD i 0:=by simpa using h
   refine⟨by simp only;omega,by simp only;omega,fun a0=>absurd (e2 a0) c2⟩
theorem yu{Y:Nat->Prop}{p:Option Addr}{c:Nat}{l:List (List UInt8)}(h:aN σ Y 1 (rJ σ Y) p l)(hl:l.length<=1000000000)(s:List UInt8):
  WpF aG ovD 81 [.slice p l.length c,.string (mkB s)] σ fun v σ'=>v=.bool (l.contains s)/\σ'=σ:=by
 refine WpF.of (T81_eq _ _ _ _) rfl ?_;rw[T81,aE];refine WpF.of (T106_eq _ _ _ _) rfl ?_;rw[T106];refine Wp.count l.length (fun j st σ'=>σ'=σ/\st=[.int .i64 ((j:Nat):Int),.int .i64 0]/\∀i (hi:i<l.length),i<j->l[i]≠s) ⟨rfl,rfl,fun i _ h=>by omega⟩ ?_ ?_
 ·rintro j st σ' hj ⟨rfl,rfl,a0⟩;have ej:aP ((j:Int)+1)=((j+1:Nat):Int):=by rw[aS (by omega)];omega
  unfold T106b0;simp only[wpS];rw[aA,if_pos (by simp;omega),aF];refine cN h hj rfl fun cs a1=>⟨_,a1,?_⟩;simp only[wpS,eP];rw[aA];by_cases he:s=l[j]
  ·rw[if_pos (by simpa using he)];simp only[wpS,T106k0,T106k1];refine⟨_,rfl,?_⟩;simp only[wpS];refine⟨_,rfl,?_,trivial⟩;rw[show l.contains s=true from List.contains_iff_mem.2 (by rw[he];exact List.getElem_mem hj)];simp
  ·rw[if_neg (by simpa using he)];simp only[wpS,T106k0,ej];refine⟨trivial,trivial,fun i hi a2=>?_⟩;by_cases h2:i=j
   ·subst h2;exact fun h=>he h.symm
   ·exact a0 i hi (by omega)
 ·rintro st σ' ⟨rfl,rfl,a0⟩;unfold T106b0;simp only[wpS];rw[aA,if_neg (by simp)];simp only[wpS,T106k1];refine⟨_,rfl,?_⟩;simp only[wpS];refine⟨_,rfl,?_,trivial⟩;have:l.contains s=false:=by rw[Bool.eq_false_iff];intro h;obtain⟨i,hi,he⟩:=List.mem_iff_getElem.1 (List.contains_iff_mem.1 h);exact a0 i hi hi he
  rw[this];try rfl
end
section
variable{σ:aC}
theorem past_kd{h:Act}{v:Value}{σ τ:aC}(e:h σ=some (v,τ)):past h v [σ]=true:=by simp[past,pK,e,lZ]
theorem wp_texts86{v:NV}(q:Option Addr)(c:Nat)(hn:kK v.x.k v.x.nm=true)(hp:tK v.x.k v.x.pm=true):WpF aG ovD 109 [.agg (nvC v q c).toArray] σ fun w σ'=>w=.bool true/\Frm σ σ' NoB:=by
 have p:∀{σ:aC} {K:Ex->List Value->Pg},(∀x,K .normal [.bool x]=.ret .normal [.bool x])->∀x,EvB (K .normal [.bool x]) σ x:=fun h=>EvB.pass h;refine WpF.of (T109_eq _ _ _ _ _ _ _ _ _) rfl ?_;rw[T109];refine aJ fun σ1 a3 a4 a0=>?_;generalize σ.n=A at a0;have a0:St σ1 A (nvC v q c):=a0;rw[aB a0 rfl];simp only[wpS];rw[aB a0 rfl];simp only[wpS];rw[aB a0 rfl];simp only[wpS];have fin:∀τ,Frm σ1 τ NoB->Wp aG ovD (T109k9 .normal [.bool true,.bool true]) τ fun _ vs σ'=>∃w,vs=[w]/\w=.bool true/\Frm σ σ' NoB:=by intro τ hτ;simp only[wpS,T109k9];exact⟨_,rfl,rfl,a3.seq hτ⟩
 refine EvB.wp (EvB.cond (EvB.join (EvB.cond (EvB.ret _ _)) (p fun x=>by simp only[wpS,T109k0]))) ?_;simp only[wpS,T109k8];unfold kK at hn;unfold tK at hp;rw[aA];by_cases c1:v.x.k=4\/v.x.k=8\/v.x.k=22
 ·rw[if_pos (by omega)]at hn;rw[if_neg (by omega)]at hp;rw[if_pos (by simpa using c1),aB a0 rfl];simp only[wpS];rw[aE];refine kE hn fun τ hτ=>?_;simp only[wpS,bR,hp,T109k7];exact fin τ hτ
 rw[if_neg (by simpa using c1),aF,aA];by_cases c2:v.x.k=9
 ·rw[if_pos (by omega)]at hn;rw[if_pos (by omega)]at hp;rw[if_pos (by simpa using c2),aB a0 rfl];simp only[wpS];rw[bC,aE];refine kE hn fun τ hτ=>?_;simp only[wpS];rw[aB (hτ.stN a0) rfl,aO];refine⟨past_kd (a0.ldF rfl),?_⟩;simp only[wpS];rw[aE];refine kE hp fun τ2 hτ2=>?_;simp only[wpS,T109k6,T109k7];exact fin τ2 (hτ.seq hτ2)
 rw[if_neg (by simpa using c2),aF];refine EvB.wp (EvB.cond (EvB.ret _ _)) ?_;simp only[wpS,T109k5];rw[aA];by_cases c3:v.x.k=6\/v.x.k=20
 ·rw[if_neg (by omega),if_neg (by omega),if_neg (by omega)]at hn;rw[if_pos (by omega)]at hp;rw[if_pos (by simpa using c3),aB a0 rfl];simp only[wpS];rw[aE];refine kE hp fun τ hτ=>?_;simp only[wpS,bR,hn,T109k4,T109k6,T109k7];exact fin τ hτ
 rw[if_neg (by omega)]at hp;rw[if_neg (by simpa using c3),aF];refine EvB.wp (EvB.cond (EvB.ret _ _)) ?_;simp only[wpS,T109k3];rw[if_neg (by omega)]at hn;rw[aA];by_cases c4:v.x.k=5\/v.x.k=26
 ·rw[if_pos c4]at hn;rw[if_pos (by simpa using c4),aB a0 rfl];simp only[wpS];rw[aE];refine zZ hn fun τ hτ=>?_;simp only[wpS,bR,hp,T109k2,T109k4,T109k6,T109k7];exact fin τ hτ
 rw[if_neg c4]at hn;rw[if_neg (by simpa using c4),aF,aA];by_cases c5:v.x.k=14
 ·rw[if_pos c5]at hn;rw[if_pos (by simpa using c5),aV,cM];have a1:Frm σ1 (σ1.newBlk (([[43],[45],[42],[60],[61]]:List (List UInt8)).map fun t=>Value.string (mkB t)) 1) NoB:=Frm.new _ _ _ _;have a2:=Row.new σ1 1 (([[43],[45],[42],[60],[61]]:List (List UInt8)).map fun t=>Value.string (mkB t)) 5 (by decide) rfl (by intro y hy;obtain⟨t,_,rfl⟩:=List.mem_map.1 hy;rfl);rw[show([(.string (bs [43])),(.string (bs [45])),(.string (bs [42])),(.string (bs [60])),(.string (bs [61]))]:List Value)=([[43],[45],[42],[60],[61]]:List (List UInt8)).map fun t=>Value.string (mkB t) from rfl];generalize σ1.newBlk (([[43],[45],[42],[60],[61]]:List (List UInt8)).map fun t=>Value.string (mkB t)) 1=σ2 at a1 a2 ⊢;simp only[wpS];rw[aB (a1.stN a0) rfl];simp only[wpS];rw[aE];refine WpF.mono (yu (l:=[[43],[45],[42],[60],[61]]) (gZ (.inr ⟨0,1,rfl,a2⟩)) (by decide) v.x.nm) ?_;rintro _ _ ⟨rfl,rfl⟩;have e:([[43],[45],[42],[60],[61]]:List (List UInt8)).contains v.x.nm=true:=by simp only[Bool.or_eq_true,decide_eq_true_eq]at hn;rw[List.contains_iff_mem];simp only[List.mem_cons,List.not_mem_nil,or_false];rcases hn with(((h|h)|h)|h)|h<;>simp[h]
  simp only[wpS,e,bR,hp,T109k1,T109k2,T109k4,T109k6,T109k7];exact fin _ a1
 ·rw[if_neg c5]at hn;rw[if_neg (by simpa using c5)];simp only[wpS,bR,hn,hp,T109k1,T109k2,T109k4,T109k6,T109k7];exact fin σ1 (Frm.refl _ _)
theorem wp_alone62{Y:Nat->Prop}{pn pd:Option Addr}{N:List NV}{D:List Dc}{cn cd:Nat}(hT:dL σ Y pn N pd D)(hD:D.length<=1000000)(hC:∀d∈D,d.cons.length<=1000000){v:NV}(q:Option Addr)(k:Nat)(hs:bT v=true)(hk:v.kids.length<=1000)(hc:v.x.k=5\/v.x.k=26->∃x,ofD v.x.nm 0 D=some x/\x.2.2=v.kids.length):
  WpF aG ovD 84 [trV pn N.length cn pd D.length cd,.agg (nvC v q k).toArray] σ fun w σ'=>w=.bool true/\Frm σ σ' NoB:=by
 unfold bT at hs;simp only[Bool.and_eq_true,decide_eq_true_eq]at hs;obtain⟨⟨⟨⟨⟨h1,h2⟩,h3⟩,h4⟩,h5⟩,h6⟩:=hs;obtain⟨k1,k2,k3⟩:=kidsR_ok h1 h2 h3 hk;refine WpF.of (T84_eq _ _ _ _ _ _ _ _ _ _ _ _ _ _ _) rfl ?_;rw[T84];refine aJ fun σ1 c0 c3 b5=>?_;generalize σ.n=A at b5;refine aJ fun σ2 b6 c1 a1=>?_;have a8:=b6.stN b5;generalize σ1.n=B at a1;have a1:St σ2 B (nvC v q k):=a1;have b1:=c0.seq b6;rw[aF,aB a1 rfl];simp only[wpS];rw[aA,if_pos (by simp;omega),aB a1 rfl];simp only[wpS];rw[aA,if_pos (by simp;omega),aL a1 7 rfl];have ev:∀{f:List Value->Pg},asAgg (.agg (nvC v q k).toArray) f=f (nvC v q k):=fun {f}=>by rw[nF]
 unfold nvC at a1 ⊢;simp only[wpS];rw[aE];refine WpF.mono (wp_number85 q k h4) ?_;rintro _ σ3 ⟨rfl,b0⟩;simp only[wpS];have b4:=b0.stN a1;rw[aA,if_pos (by rfl),aL b4 7 rfl];simp only[wpS];rw[aE];refine WpF.mono (wp_texts86 q k h5 h6) ?_;rintro _ σ4 ⟨rfl,a9⟩;have a0:=a9.stN b4;have a3:=(b0.seq a9).stN a8;have a2:=b1.seq (b0.seq a9);have b3:=hT.frm a2;simp only[wpS,T84k3,Bool.not_true];rw[aA,if_neg (by simp),aB a0 rfl];simp only[wpS];rw[aE,WpF.eq (ev_kids87 v.x.k)];simp only[wpS];rw[aB a0 (i:=4) rfl];simp only[wpS];rw[aA,if_pos (by simp;omega),aB a0 (i:=4) rfl];simp only[wpS];rw[aA,if_pos (by simp;omega),aB a0 (i:=0) rfl];simp only[wpS];have next:Wp aG ovD (T84k2 ⟨B,0,some 0⟩ ⟨A,0,some 0⟩ .normal [.bool false]) σ4 fun _ vs σ'=>∃w,vs=[w]/\w=.bool true/\Frm σ σ' NoB:=by
  simp only[wpS,T84k2];rw[aA,if_neg (by simp),aF,aB a0 (i:=0) rfl];simp only[wpS];have cont:∀b:Bool,(b=true↔¬(v.x.k=5\/v.x.k=26))->Wp aG ovD (T84k1 ⟨A,0,some 0⟩ ⟨B,0,some 0⟩ .normal [.bool b]) σ4 fun _ vs σ'=>∃w,vs=[w]/\w=.bool true/\Frm σ σ' NoB:=by
   intro b hb;simp only[wpS,T84k1];rw[aA];by_cases a5:v.x.k=5\/v.x.k=26
   case neg=>rw[if_pos (hb.2 a5)];simp only[wpS];exact⟨_,rfl,rfl,a2⟩
   rw[if_neg fun h=>hb.1 h a5,aL a3 2 rfl];simp only[wpS];rw[aB a0 (i:=2) rfl];simp only[wpS];rw[aE];refine WpF.mono (wp_Of30 b3.decls hD hC v.x.nm) ?_;rintro _ σ5 ⟨rfl,a4⟩;obtain⟨⟨d,c,m⟩,b2,hm⟩:=hc a5;have b9:=a4.stN a0;have a7:=a4.stN a3;have b8:=b3.frm a4;obtain⟨_,g1,g2,g3⟩:=ze _ _ _ _ b2;simp only[Nat.sub_zero]at g1 g2 g3 hm;rw[b2,sZ];simp only[wpS];rw[aA,if_pos (by rfl),aB a7 rfl];simp only[wpS];refine cR b8.decls g1 rfl (o:=1) (by decide) fun cs a6=>?_;obtain⟨q1,k1,rfl,b7⟩:=a6;refine⟨_,rfl,?_⟩;simp only[wpS];refine cR b7 g2 rfl (o:=1) (by decide) fun cs a6=>?_;obtain⟨q2,k2,rfl,_,_⟩:=a6;refine⟨_,rfl,?_⟩;simp only[wpS];rw[aB b9 (i:=4) rfl];simp only[wpS,T84k0];exact⟨_,rfl,by rw[g3,hm];simp,a2.seq a4⟩
  rw[aA];by_cases k5:v.x.k=5
  ·rw[if_neg (by simp[k5])];simp only[wpS];exact cont false ⟨fun h=>Bool.noConfusion h,fun h=>absurd (Or.inl k5) h⟩
  ·rw[if_pos (by simpa using k5),aB a0 (i:=0) rfl];simp only[wpS];refine cont _ ?_;rw[bne_iff_ne];constructor
   ·rintro h (h'|h')
    ·exact k5 h'
    ·exact h h'
   ·exact fun h h'=>h (.inr h')
 rw[aA];by_cases k11:v.x.k=11
 ·rw[if_pos (by simpa using k11),aB a0 (i:=4) rfl];simp only[wpS];rw[aE];refine WpF.of (T85_eq _) rfl ?_;rw[T85];simp only[wpS];refine⟨_,rfl,?_⟩;have e:(Int.tmod ((v.kids.length:Nat):Int) 2==1)=true:=by rw[Int.tmod_eq_emod_of_nonneg (by omega),beq_iff_eq];have:=k3 k11;omega
  simp only[wpS,e,Bool.not_true];exact next
 ·rw[if_neg (by simpa using k11)];simp only[wpS];exact next
theorem same_str(a b:List UInt8):Instr.sameNow .string (.string (mkB a)) (.string (mkB b))=some (decide (a=b)):=by
 show some (a.toArray==b.toArray)=_;by_cases h:a=b
 ·simp[h]
 ·simp[h]
def esT(l:List (List UInt8)):List (Value×Value):=l.map fun s=>(.string (mkB s),.bool true)
theorem find_esT(s:List UInt8):∀l:List (List UInt8),s∉l->dK .string (.string (mkB s)) (esT l)=some none
 |[],_=>rfl
 |t::l,h=>by unfold esT;rw[List.map_cons,dK,same_str,decide_eq_false fun e=>h (by simp[e])];exact find_esT s l fun h2=>h (by simp[h2])
theorem set_esT(s:List UInt8):∀l:List (List UInt8),s∉l->iL .string (.string (mkB s)) (.bool true) (esT l)=some (esT (l++[s]))
 |[],_=>rfl
 |t::l,h=>by unfold esT;rw[List.map_cons,iL,same_str,decide_eq_false fun e=>h (by simp[e])];simp only;have:=set_esT s l fun h2=>h (by simp[h2]);unfold esT at this;rw[this];try rfl
theorem twiceM_ne{l:List (List UInt8)}(h:cP l=false){j:Nat}(hj:j<l.length):l[j]∉l.take j:=by intro hm;obtain⟨i,hi,he⟩:=List.mem_iff_getElem.1 hm;rw[List.getElem_take]at he;rw[List.length_take]at hi;rw[wJ hj (by omega:i<j) he.symm]at h;cases h
theorem sN{Y:Nat->Prop}{l:List (List UInt8)}{p:Option Addr}{c:Nat}(h:aN σ Y 1 (rJ σ Y) p l)(hl:l.length<=1000000000)(ht:cP l=false):
  WpF aG ovD 50 [.slice p l.length c] σ fun v σ'=>v=.bool false/\Frm σ σ' NoB:=by
 refine WpF.of (T50_eq _ _ _) rfl ?_;rw[T50];refine wp_mkMap fun σ1 a7 a5 a4=>?_;generalize hA:σ.n=A at a4 a5;refine Wp.count l.length (fun j st σ'=>st=[.int .i64 ((j:Nat):Int),.bool false]/\Frm σ σ' NoB/\σ'.get A=some (.map (esT (l.take j)))/\A<σ'.n) ⟨rfl,a7,by simpa[esT]using a4,by omega⟩ ?_ ?_
 ·rintro j st σ2 hj ⟨rfl,a0,a2,a1⟩;have ej:aP ((j:Int)+1)=((j+1:Nat):Int):=by rw[aS (by omega)];omega
  have a3:=twiceM_ne ht hj;unfold T50b0;simp only[wpS];rw[aA,if_pos (by simp;omega),aF];refine cN (h.later a0) hj rfl fun cs a6=>⟨_,a6,?_⟩;simp only[wpS];have e1:lkp .string (.bool false) (some A) (.string (mkB l[j])) false σ2=some (.bool false,σ2):=by unfold lkp aC.getMap;simp only[a2,Option.map_some,find_esT _ _ a3];try rfl
  rw[aV,e1];simp only[wpS];rw[aA,if_neg (by simp)];have e2:mup .string (some A) (.string (mkB l[j])) (.bool true) σ2=some (.tuple #[],σ2.put A (.map (esT (l.take (j+1))))):=by unfold mup aC.getMapW;simp only[a2,set_esT _ _ a3];rw[List.take_succ_eq_append_getElem hj]
  rw[aV,e2];simp only[wpS,T50k0,ej];exact⟨trivial,a0.putNew (by omega) a1 _,eC _ _ _,a1⟩
 ·rintro st σ2 ⟨rfl,a0,a2,a1⟩;unfold T50b0;simp only[wpS];rw[aA,if_neg (by simp)];simp only[wpS,T50k1];exact⟨_,rfl,rfl,a0⟩
end
def asD(D:List Dc):List (List UInt8):=D.flatMap fun d=>d.cons.flatMap (·.args)
section
variable{σ σ':aC}{X:Nat->Prop}{lo b c:Nat}{p:Option Addr}{l:List (List UInt8)}{P:Program}{ov:Ov}
structure mU(lo:Nat)(σ:aC)(X:Nat->Prop)(b:Nat)(p:Option Addr)(c:Nat)(l:List (List UInt8)):Prop where
 row:SlE σ b p c 1 (l.map dA)
 lo:p≠none->lo<=b
 no:p≠none->¬X b
theorem mU.nil:mU lo σ X b none 0 []:=⟨.inl ⟨rfl,rfl,rfl⟩,fun h=>absurd rfl h,fun h=>absurd rfl h⟩
theorem mU.frm{S:Nat->Prop}(h:mU lo σ X b p c l)(f:Frm σ σ' S)(hS:p≠none->¬S b):mU lo σ' X b p c l:=⟨h.row.frm f hS,h.lo,h.no⟩
theorem mU.x{X':Nat->Prop}(h:mU lo σ X b p c l)(hX:p≠none->b<σ.n->X' b->X b):mU lo σ X' b p c l:=⟨h.row,h.lo,fun hp h2=>h.no hp (hX hp (h.row.lt hp) h2)⟩
theorem wp_own1(h:mU lo σ X b p c l)(hX:∀j,X j->j<σ.n)(hlo:lo<=σ.n)(hl:l.length<=1000000)(t:List UInt8){g:Option Addr->Nat->Nat->Pg}{Q:bW}
  (K:∀σ' b' p' c',Frm σ σ' (fun j=>p≠none/\j=b)->((p≠none/\b'=b)\/σ.n<=b')->mU lo σ' X b' p' c' (l++[t])->Wp P ov (g p' (l++[t]).length c') σ' Q):
  Wp P ov (.act (tU 1 1 [.string (mkB t)]) fun v=>aI v fun p1 n1 c1=>.act (apS 1 16 p l.length c p1 n1 c1) fun w=>aI w g) σ Q:=by
 refine kV (len:=l.length) h.row (by rw[List.length_map,Nat.mul_one]) (by decide) (by decide) rfl (by intro y hy;simp at hy;subst hy;rfl) (by omega) (by omega) fun σ1 b' off s c' hF hb hR=>?_;have:=K σ1 b' (some ⟨b',off,some s⟩) c' hF hb ⟨.inr ⟨off,s,rfl,by rw[List.map_append];exact hR⟩,fun _=>by
  rcases hb with⟨h1,rfl⟩|h1
  ·exact h.lo h1
  ·omega,fun _=>by
  rcases hb with⟨h1,rfl⟩|h1
  ·exact h.no h1
  ·intro h2;have:=hX _ h2;omega⟩
 rw[List.length_append]at this;exact this
theorem wp_ownX{Y:Nat->Prop}{q:Option Addr}{ts:List (List UInt8)}{n k:Nat}(h:mU lo σ X b p c l)(hX:∀j,X j->j<σ.n)(hlo:lo<=σ.n)(hl:l.length+ts.length<=1000000)(hr:aN σ Y 1 (rJ σ Y) q ts)(he:Emp σ Y q)(hn:n=ts.length){g:Option Addr->Nat->Nat->Pg}{Q:bW}
  (K:∀σ' b' p' c',Frm σ σ' (fun j=>p≠none/\j=b)->(p'≠none->(p≠none/\b'=b)\/σ.n<=b')->mU lo σ' X b' p' c' (l++ts)->Wp P ov (g p' (l++ts).length c') σ' Q):
  Wp P ov (.act (apS 1 16 p l.length c q n k) fun w=>aI w g) σ Q:=by
 subst hn;refine yG (n:=ts.length) h.row (by rw[List.length_map]) (aN.src (f:=dA) (fun _ _ h=>h) hr he) (by rw[List.length_map]) (by intro y hy;obtain⟨t,_,rfl⟩:=List.mem_map.1 hy;rfl) (by omega) (by omega) fun σ1 b' p' c' hF hb hR=>?_;have a0:p'≠none->(p≠none/\b'=b)\/σ.n<=b':=fun h=>hb.resolve_left h;have:=K σ1 b' p' c' hF a0 ⟨by rw[List.map_append];exact hR,fun h0=>by
  rcases a0 h0 with⟨h1,rfl⟩|h1
  ·exact h.lo h1
  ·omega,fun h0=>by
  rcases a0 h0 with⟨h1,rfl⟩|h1
  ·exact h.no h1
  ·intro h2;have:=hX _ h2;omega⟩
 rw[List.length_append]at this;exact this
end
section
variable{σ σ':aC}{Y:Nat->Prop}
theorem zd(s:List UInt8):EvF aG ovD 78 [.string (mkB s)] σ (.bool (eG s)) σ:=by refine EvF.of (T78_eq _) rfl ?_;rw[T78];simp only[wpS,bR];exact⟨rfl,trivial⟩
theorem wp_ld0{P:Program}{ov:Ov}{b:Nat}{v:Value}{cs:List Value}(h:St σ b (v::cs))(g:Value->Pg)(Q:bW):Wp P ov (.act (ld1 ⟨b,0,some 0⟩) g) σ Q=Wp P ov (g v) σ Q:=aB (i:=0) h rfl g Q
theorem vu(f:FuncId)(x y:Array Value)(g:FuncId->List Value->List Value->Pg):oM (.func (.func f) x y) g=g f x.toList y.toList:=rfl
theorem wp_all61{p:Option Addr}{c A B:Nat}{l ns:List (List UInt8)}{q:Option Addr}{k:Nat}(h:aN σ Y 1 (rJ σ Y) p l)(hl:l.length<=1000000000)(hA:St σ A [.slice q ns.length k])(hN:aN σ NoB 1 (rJ σ NoB) q ns)(a1:ns.length<=1000000)(hB:St σ B [.func (.func 80) #[] #[.pointer (some ⟨A,0,some 0⟩)]])
  (ha:∀t∈l,(ns.contains t||eG t)=true):
  WpF aG ovD 83 [.slice p l.length c,.func (.func 82) #[] #[.pointer (some ⟨B,0,some 0⟩)]] σ fun v σ'=>v=.bool false/\σ'=σ:=by
 refine WpF.of (T83_eq _ _ _ _) rfl ?_;rw[T83,aE];refine WpF.of (T107_eq _ _ _ _) rfl ?_;rw[T107];refine Wp.count l.length (fun j st σ'=>σ'=σ/\st=[.int .i64 ((j:Nat):Int),.int .i64 0]) ⟨rfl,rfl⟩ ?_ ?_
 ·rintro j st σ' hj ⟨rfl,rfl⟩;have ej:aP ((j:Int)+1)=((j+1:Nat):Int):=by rw[aS (by omega)];omega
  have hk:=ha _ (List.getElem_mem hj);unfold T107b0;simp only[wpS];rw[aA,if_pos (by simp;omega),aF];refine cN h hj rfl fun cs a0=>⟨_,a0,?_⟩;simp only[wpS,vu,List.nil_append,List.singleton_append];rw[aE];refine WpF.of (T82_eq _ _) rfl ?_;rw[T82,wp_ld0 hB];simp only[vu,List.nil_append,List.singleton_append];rw[aE];refine WpF.of (T80_eq _ _) rfl ?_;have key:Wp aG ovD (T80k0 .normal [.bool true]) σ' fun _ vs σ'_1=>∃v,vs=[v]/\Wp aG ovD (eF v fun b7=>.ret .ret [.bool !b7]) σ'_1 fun _ vs σ'_2=>∃v,vs=[v]/\Wp aG ovD (eF v fun b18=>bif b18 then .ret .ret [.int .i64 ((j:Nat):Int)] else .ret .normal [.int .i64 0]) σ'_2 fun e vs σ'_3=>Wp aG ovD (T107k0 ((j:Nat):Int) e vs) σ'_3 fun e st' σ'_4=>match e with
    |.normal=>σ'_4=σ'/\st'=[.int .i64 ((j+1:Nat):Int),.int .i64 0]
    |e=>Wp aG ovD (T107k1 e st') σ'_4 fun _ vs σ'_5=>∃v,vs=[v]/\Wp aG ovD (asInt .i64 v fun i5=>.ret .ret [.bool (decide (i5>=0))]) σ'_5 fun _ vs σ'_6=>∃v,vs=[v]/\v=.bool false/\σ'_6=σ':=by
   simp only[wpS,T80k0];refine⟨_,rfl,?_⟩;simp only[wpS,Bool.not_true];refine⟨_,rfl,?_⟩;simp only[wpS];rw[aA,if_neg (by simp)];simp only[wpS,T107k0,ej];exact⟨trivial,trivial⟩
  rw[T80,aF,aE,WpF.eq (zd _)];simp only[wpS];rw[aA];cases hb:eG l[j]with
  |true=>rw[if_neg (by simp)];simp only[wpS];exact key
  |false=>rw[hb,Bool.or_false]at hk;rw[if_pos (by rfl),wp_ld0 hA];simp only[wpS];rw[aE];refine WpF.mono (yu hN (by omega) l[j]) ?_;rintro _ _ ⟨rfl,rfl⟩;simp only[wpS,hk];exact key
 ·rintro st σ' ⟨rfl,rfl⟩;unfold T107b0;simp only[wpS];rw[aA,if_neg (by simp)];simp only[wpS,T107k1];refine⟨_,rfl,?_⟩;simp only[wpS];exact⟨_,rfl,rfl,trivial⟩
theorem asD_len{D:List Dc}{m:Nat}(h:∀d∈D,d.cons.length<=m/\∀c∈d.cons,c.args.length<=3):(asD D).length<=D.length*(m*3):=by
 have h1:∀l:List Cn,(∀c∈l,c.args.length<=3)->(l.flatMap (·.args)).length<=l.length*3:=by
  intro l;induction l with
  |nil=>intro _;simp
  |cons c l ih=>intro h;rw[List.flatMap_cons,List.length_append,List.length_cons];have:=ih fun x hx=>h x (by simp[hx]);have:=h c (by simp);omega
 induction D with
 |nil=>simp[asD]
 |cons d D ih=>unfold asD at ih ⊢;rw[List.flatMap_cons,List.length_append,List.length_cons,Nat.succ_mul];have h2:=ih fun x hx=>h x (by simp[hx]);obtain⟨h3,h4⟩:=h d (by simp);have h5:=h1 d.cons h4;have h6:d.cons.length*3<=m*3:=Nat.mul_le_mul_right 3 h3;omega
theorem wp_decls31{D:List Dc}{pd:Option Addr}{cd:Nat}(hT:aN σ Y 2 (dcR σ Y) pd D)(ht:eH D=true):WpF aG ovD 47 [.slice pd D.length cd] σ fun v σ'=>v=.bool true/\Frm σ σ' NoB:=by
 rw[vW]at ht;simp only[Bool.and_eq_true,decide_eq_true_eq,Bool.not_eq_true',List.all_eq_true]at ht;obtain⟨⟨⟨⟨i5,i2⟩,j5⟩,j7⟩,d0⟩:=ht;have a9:∀d∈D,uJ d.nm=true/\eG d.nm=false/\1<=d.cons.length/\d.cons.length<=20/\∀c∈d.cons,conM c.nm=true/\c.args.length<=3:=by intro d hd;have:=i5 d hd;unfold okD okC at this;simp only[Bool.and_eq_true,decide_eq_true_eq,Bool.not_eq_true',List.all_eq_true]at this;obtain⟨⟨⟨⟨a1,a2⟩,a3⟩,a4⟩,a5⟩:=this;exact⟨a1,a2,a3,a4,a5⟩
 clear i5;have k7:(cV D).length<=400:=Nat.le_trans (xt 20 D fun d hd=>(a9 d hd).2.2.2.1) (by omega);have k9:(asD D).length<=1200:=Nat.le_trans (asD_len (m:=20) fun d hd=>⟨(a9 d hd).2.2.2.1,fun c hc=>((a9 d hd).2.2.2.2 c hc).2⟩) (by omega);have j6:∀{i:Nat} (hi:i<D.length),dH (D.take (i+1))=dH (D.take i)++[D[i].nm]/\cV (D.take (i+1))=cV (D.take i)++D[i].cons.map (·.nm)/\asD (D.take (i+1))=asD (D.take i)++D[i].cons.flatMap (·.args):=fun {i} hi=>by
  unfold dH cV asD;rw[List.take_succ_eq_append_getElem hi,List.map_append,List.flatMap_append,List.flatMap_append];simp
 have c9:∀i,(dH (D.take i)).length<=20/\(cV (D.take i)).length<=400/\(asD (D.take i)).length<=1200:=fun i=>by
  have e1:cV D=cV (D.take i)++cV (D.drop i):=by unfold cV;rw[<-List.flatMap_append,List.take_append_drop]
  have e2:asD D=asD (D.take i)++asD (D.drop i):=by unfold asD;rw[<-List.flatMap_append,List.take_append_drop]
  rw[e1,List.length_append]at k7;rw[e2,List.length_append]at k9;refine⟨?_,by omega,by omega⟩;unfold dH;rw[List.length_map,List.length_take];omega
 refine WpF.of (T47_eq _ _ _) rfl ?_;rw[T47];refine aJ fun σ1 l8 k5 i9=>?_;generalize n4:σ.n=A at i9 k5;refine Wp.count D.length (fun i st σ'=>∃ra qa ka rc qc kc rn qn kn,st=[.int .i64 ((i:Nat):Int),.slice qa (asD (D.take i)).length ka,.slice qc (cV (D.take i)).length kc,.bool false]/\St σ' A [.slice qn (dH (D.take i)).length kn]/\
   mU A σ' (· =A) rn qn kn (dH (D.take i))/\mU A σ' (fun j=>j=A\/qn≠none/\j=rn) rc qc kc (cV (D.take i))/\mU A σ' (fun j=>j=A\/(qn≠none/\j=rn)\/qc≠none/\j=rc) ra qa ka (asD (D.take i))/\Frm σ σ' NoB)
  ⟨0,none,0,0,none,0,0,none,0,rfl,i9,.nil,.nil,.nil,l8⟩ ?_ ?_
 ·rintro i st σ2 hi ⟨ra,qa,ka,rc,qc,kc,rn,qn,kn,rfl,d3,d5,f0,e3,e7⟩;have ei:aP ((i:Int)+1)=((i+1:Nat):Int):=by rw[aS (by omega)];omega
  obtain⟨o1,o2,o3,o4,o5⟩:=a9 _ (List.getElem_mem hi);obtain⟨tk1,tk2,tk3⟩:=j6 hi;obtain⟨b1,b2,b3⟩:=c9 i;obtain⟨c1,c2,c3⟩:=c9 (i+1);rw[tk2,List.length_append,List.length_map]at c2;rw[tk3,List.length_append]at c3;have m9:=d3.1;unfold T47b1;simp only[wpS];rw[aA,if_pos (by simp;omega),aF];refine cX (hT.later e7) hi rfl fun cs f6=>?_;obtain⟨q,k,rfl,c8⟩:=f6;generalize hd:D[i]=d at o1 o2 o3 o4 o5 tk1 tk2 tk3 c2 c3 c8;simp only[wpS];refine aJ fun σ3 e6 f5 c0=>?_;refine aZ c0 rfl rfl fun σ4 c7 k4 b8=>?_;generalize hB:σ2.n=B at c0 b8 c7 f5;have a0:Frm σ2 σ4 NoB:=e6.fresh c7 fun j hj h=>by omega
  clear c0 e6 c7;rw[aF,aB b8 rfl];simp only[wpS];rw[aE];refine kE o1 fun σ5 c6=>?_;have a6:=a0.seq c6;have b7:=c6.stN b8;have b6:=a6.stN d3;simp only[wpS];rw[aA,if_pos (by rfl),aB b7 rfl];simp only[wpS];rw[aE,WpF.eq (zd _),o2];simp only[wpS];rw[aA,if_pos (by rfl),aB b7 (i:=1) rfl];simp only[wpS];rw[aA,if_pos (by simp;omega),aB b7 (i:=1) rfl];simp only[wpS,T47k3];rw[decide_eq_false (show ¬((d.cons.length:Nat):Int)>20 by omega),aA,if_neg (by simp),wp_ld0 b6];simp only[wpS];rw[aB b7 (i:=0) rfl];simp only[wpS];have e4:=d5.frm a6 fun _ h=>h;have e9:=f0.frm a6 fun _ h=>h;have e0:=e3.frm a6 fun _ h=>h;have m2:=a6.n;have n2:=b7.1;refine wp_own1 e4 (fun j h=>by omega) (by omega) (by omega) d.nm fun σ6 rn6 qn6 kn6 b0 b4 g6=>?_;have i0:Frm σ σ6 NoB:=(e7.seq a6).trans b0 (fun _ _ h=>h) fun j hj h=>by have:=e4.lo h.1;omega
  have d1:=b0.st b6 fun h=>e4.no h.1 h.2.symm;have f1:qn≠none->rn<B:=fun h=>by have:=d5.row.lt h;omega
  have i8:=b0.st b7 fun h=>by have:=f1 h.1;omega
  have i3:mU A σ6 (fun j=>j=A\/qn6≠none/\j=rn6) rc qc kc (cV (D.take i)):=(e9.frm b0 fun hp h=>e9.no hp (.inr h)).x fun hp i6 h=>by
   rcases h with h|⟨_,h⟩
   ·exact .inl h
   ·rcases b4 with⟨h1,h2⟩|h1
    ·exact .inr ⟨h1,by omega⟩
    ·have:=e9.row.lt hp;omega
  have g4:mU A σ6 (fun j=>j=A\/(qn6≠none/\j=rn6)\/qc≠none/\j=rc) ra qa ka (asD (D.take i)):=(e0.frm b0 fun hp h=>e0.no hp (.inr (.inl h))).x fun hp i6 h=>by
   rcases h with h|⟨_,h⟩|h
   ·exact .inl h
   ·rcases b4 with⟨h1,h2⟩|h1
    ·exact .inr (.inl ⟨h1,by omega⟩)
    ·have:=e0.row.lt hp;omega
   ·exact .inr (.inr h)
  have k3:=b0.n;refine aZ d1 rfl rfl fun σ7 c5 m8 g1=>?_;have j0:=g6.frm c5 fun hp h=>g6.no hp h;have m0:=i3.frm c5 fun hp h=>i3.no hp (.inl h);have l3:=g4.frm c5 fun hp h=>g4.no hp (.inl h);have l1:=c5.st i8 (by omega);have g9:Frm σ σ7 NoB:=i0.fresh c5 fun j hj h=>by omega
  rw[aB l1 (i:=1) rfl];simp only[wpS];have k6:A<=σ7.n:=by omega
  have n3:A<σ7.n:=by omega
  have f3:∀j,(j=A\/qn6≠none/\j=rn6)->j<σ7.n:=by
   rintro j (h|⟨h,h2⟩)
   ·omega
   ·have:=j0.row.lt h;omega
  clear c5 b0 i8 b7 b8 d1 b6 g6 i3 g4 e4 e9 e0 a6 c6 a0 b4;refine Wp.count d.cons.length (fun j st σ'=>∃ra qa ka rc qc kc,st=[.int .i64 ((j:Nat):Int),.slice qa (asD (D.take i)++(d.cons.take j).flatMap (·.args)).length ka,.slice qc (cV (D.take i)++(d.cons.take j).map (·.nm)).length kc,.bool false]/\St σ' A [.slice qn6 (dH (D.take i)++[d.nm]).length kn6]/\
    mU A σ' (· =A) rn6 qn6 kn6 (dH (D.take i)++[d.nm])/\mU A σ' (fun j=>j=A\/qn6≠none/\j=rn6) rc qc kc (cV (D.take i)++(d.cons.take j).map (·.nm))/\mU A σ' (fun j=>j=A\/(qn6≠none/\j=rn6)\/qc≠none/\j=rc) ra qa ka (asD (D.take i)++(d.cons.take j).flatMap (·.args))/\Frm σ σ' NoB/\σ7.n<=σ'.n)
   ⟨ra,qa,ka,rc,qc,kc,by simp,g1,j0,by simpa using m0,by simpa using l3,g9,Nat.le_refl _⟩ ?_ ?_
  ·rintro j st σ8 hj ⟨ra8,qa8,ka8,rc8,qc8,kc8,rfl,b5,g5,d7,d9,e5,k2⟩;have ej:aP ((j:Int)+1)=((j+1:Nat):Int):=by rw[aS (by omega)];omega
   obtain⟨p1,p2⟩:=o5 _ (List.getElem_mem hj);have kt1:(d.cons.take (j+1)).map (·.nm)=(d.cons.take j).map (·.nm)++[d.cons[j].nm]:=by rw[List.take_succ_eq_append_getElem hj,List.map_append];try rfl
   have kt2:(d.cons.take (j+1)).flatMap (·.args)=(d.cons.take j).flatMap (·.args)++d.cons[j].args:=by rw[List.take_succ_eq_append_getElem hj,List.flatMap_append];simp
   have kl1:(cV (D.take i)++(d.cons.take j).map (·.nm)).length<=400:=by rw[List.length_append,List.length_map,List.length_take];omega
   have kl2:((d.cons.take j).flatMap (·.args)).length<=(d.cons.flatMap (·.args)).length:=by
    conv=>rhs;rw[<-List.take_append_drop j d.cons,List.flatMap_append,List.length_append]
    omega
   unfold T47b0;simp only[wpS];rw[aA,if_pos (by simp;omega),aF];refine cX (c8.later e5) hj rfl fun cs f6=>?_;obtain⟨q1,k1,rfl,i4,i7⟩:=f6;generalize d.cons[j]=cn at p1 p2 kt1 kt2 i4 i7;simp only[wpS];refine aJ fun σ9 j3 k0 g2=>?_;refine aZ g2 rfl rfl fun σa g7 m7 f7=>?_;generalize hC:σ8.n=C at g2 f7 g7 k0;have g8:Frm σ8 σa NoB:=j3.fresh g7 fun j hj h=>by omega
   clear g2 j3 g7;rw[aF,aB f7 rfl];simp only[wpS];rw[aE];refine zZ p1 fun σb j2=>?_;have a7:=g8.seq j2;have d8:=j2.stN f7;have g0:=a7.stN b5;have l7:=g5.frm a7 fun _ h=>h;have e8:=d7.frm a7 fun _ h=>h;have g3:=d9.frm a7 fun _ h=>h;have m6:=a7.n;have n1:=d8.1;have i1:=e5.seq a7;have f4:∀j,(j=A\/qn6≠none/\j=rn6)->j<σb.n:=fun j h=>by have:=f3 j h;omega
   simp only[wpS];rw[aA,if_pos (by rfl),aB d8 (i:=1) rfl];simp only[wpS,T47k0];rw[decide_eq_false (show ¬((cn.args.length:Nat):Int)>3 by omega),aA,if_neg (by simp),aB d8 (i:=0) rfl];simp only[wpS];refine wp_own1 e8 f4 (by omega) (by omega) cn.nm fun σc rcc qcc kcc c4 f2 j4=>?_;have k8:qc8≠none->rc8<C:=fun h=>by have:=d7.row.lt h;omega
   have m5:=c4.n;have b9:Frm σ σc NoB:=i1.trans c4 (fun _ _ h=>h) fun j hj h=>by have:=e8.lo h.1;omega
   have l0:=c4.st d8 fun h=>by have:=k8 h.1;omega
   have f9:=c4.st g0 fun h=>e8.no h.1 (.inl h.2.symm);have l6:=l7.frm c4 fun hp h=>e8.no h.1 (.inr ⟨hp,h.2.symm⟩);have d4:mU A σc (fun j=>j=A\/(qn6≠none/\j=rn6)\/qcc≠none/\j=rcc) ra8 qa8 ka8 (asD (D.take i)++(d.cons.take j).flatMap (·.args)):=(g3.frm c4 fun hp h=>g3.no hp (.inr (.inr h))).x fun hp i6 h=>by
    rcases h with h|h|⟨_,h⟩
    ·exact .inl h
    ·exact .inr (.inl h)
    ·rcases f2 with⟨h1,h2⟩|h1
     ·exact .inr (.inr ⟨h1,by omega⟩)
     ·have:=g3.row.lt hp;omega
   have j9:∀j,(j=A\/(qn6≠none/\j=rn6)\/qcc≠none/\j=rcc)->j<σc.n:=by
    rintro j (h|h|⟨h,h2⟩)
    ·have:=f4 j (.inl h);omega
    ·have:=f4 j (.inr h);omega
    ·have:=j4.row.lt h;omega
   rw[aB l0 (i:=1) rfl];simp only[wpS];refine wp_ownX d4 j9 (by omega) (by rw[List.length_append];omega) ((i4.later b9)) (i7.step (Y':=Y) b9 (fun _ _ h=>h.elim) fun _ _ h=>h) rfl fun σd rad qad kad d6 j8 l2=>?_;simp only[wpS,T47k1,ej];have m4:=d6.n;have l9:=j4.frm d6 fun hp h=>d4.no h.1 (.inr (.inr ⟨hp,h.2.symm⟩));have l5:=l6.frm d6 fun hp h=>d4.no h.1 (.inr (.inl ⟨hp,h.2.symm⟩));have f8:=d6.st f9 fun h=>d4.no h.1 (.inl h.2.symm);rw[kt1,kt2,<-List.append_assoc,<-List.append_assoc];exact⟨rad,qad,kad,rcc,qcc,kcc,rfl,f8,l5,l9,l2,b9.trans d6 (fun _ _ h=>h) fun j hj h=>by have:=d4.lo h.1;omega,by omega⟩
  ·rintro st σ8 ⟨ra8,qa8,ka8,rc8,qc8,kc8,rfl,b5,g5,d7,d9,e5,k2⟩;rw[List.take_length]at d7 d9 ⊢;unfold T47b0;simp only[wpS];rw[aA,if_neg (by simp)];simp only[wpS,T47k2,T47k4,ei];rw[tk1,tk2,tk3];exact⟨ra8,qa8,ka8,rc8,qc8,kc8,rn6,qn6,kn6,rfl,b5,g5,d7,d9,e5⟩
 ·rintro st σ2 ⟨ra,qa,ka,rc,qc,kc,rn,qn,kn,rfl,d3,d5,f0,e3,e7⟩;rw[List.take_length]at d3 d5 f0 e3 ⊢;unfold T47b1;simp only[wpS];rw[aA,if_neg (by simp)];simp only[wpS,T47k6];refine aJ fun σ3 e6 f5 c0=>?_;refine aZ c0 rfl rfl fun σ4 c7 k4 b8=>?_;generalize hB:σ2.n=B at c0 b8 c7 f5;have a0:Frm σ2 σ4 NoB:=e6.fresh c7 fun j hj h=>by omega
  have d2:=a0.stN d3;have j1:=d5.frm a0 fun _ h=>h;have m1:=f0.frm a0 fun _ h=>h;have l4:=e3.frm a0 fun _ h=>h;have m3:(dH D).length<=20:=by unfold dH;rw[List.length_map];exact i2
  rw[aF,aA,if_pos (by simp;omega),wp_ld0 d2];simp only[wpS];rw[aE];refine WpF.mono (sN (gZ j1.row) (by omega) j5) ?_;rintro _ σ5 ⟨rfl,c6⟩;simp only[wpS];rw[aA,if_pos (by rfl),aE];refine WpF.mono (sN (gZ (m1.frm c6 fun _ h=>h).row) (by omega) j7) ?_;rintro _ σ6 ⟨rfl,b0⟩;have a8:=c6.seq b0;simp only[wpS];rw[aA,if_pos (by rfl),aE];have hk:∀t∈asD D,((dH D).contains t||eG t)=true:=by intro t ht;unfold asD at ht;obtain⟨d,hd,ht⟩:=List.mem_flatMap.1 ht;obtain⟨c,hc,ht⟩:=List.mem_flatMap.1 ht;have:=d0 d hd;unfold qF at this;exact List.all_eq_true.1 (List.all_eq_true.1 this c hc) t ht
  refine WpF.mono (wp_all61 (gZ (l4.frm a8 fun _ h=>h).row) (by omega) (a8.stN d2) (gZ (j1.frm a8 fun _ h=>h).row) (by omega) (a8.stN b8) hk) ?_;rintro _ _ ⟨rfl,rfl⟩;simp only[wpS,T47k5];exact⟨_,rfl,rfl,(e7.seq a0).seq a8⟩
end
section
variable{σ σ':aC}{N:List NV}{D:List Dc}{Y:Nat->Prop}{pn pd:Option Addr}{cn cd A:Nat}
theorem wt{w p:Nat}{b:Bool}{e:Nat}(h:bY N D (w+1) p b=some e){v:NV}(hv:N[p]?=some v):v.kids.length<=N.length:=by
 have a0:=iE h;have hr:=h;rw[bY,hv]at hr;simp only at hr;split at hr
 ·obtain⟨a,h1,hr⟩:=aW hr;have:=rA (g:=fun _=>[()]) (fun p' b' e' h'=>by have:=iE h';simp;omega) _ _ _ _ _ h1;have h2:∀l:List Nat,(l.flatMap fun _=>[()]).length=l.length:=fun l=>by
   induction l with
   |nil=>rfl
   |cons x l ih=>rw[List.flatMap_cons,List.length_append,ih];simp;omega
  have h2:=h2 v.kids;split at hr
  ·cases hr
  ·cases ofS hr;omega
 ·cases hr
theorem wp_binds35(hN:N.length<=1000):∀(w p:Nat) (b:Bool) (e m:Nat) (σ:aC),bY N D w p b=some e->N.length<=m+p->dL σ Y pn N pd D->
  WpF aG ovD 51 [trV pn N.length cn pd D.length cd,.int .i64 ((p:Nat):Int)] σ fun v σ'=>∃rb q k,v=.slice q (bN N m p).length k/\SlV σ' rb q k ((bN N m p).map dA)/\(q≠none->σ.n<=rb)/\Frm σ σ' NoB:=by
 intro w;induction w with
 |zero=>intro p b e m σ h;cases h
 |succ w ih=>
  intro p b e m σ h hm hT;obtain⟨v,hv,a5⟩:=vF h;have d0:=nE _ _ _ _ h;have d9:=iE h;obtain⟨m,rfl⟩:∃m',m=m'+1:=⟨m-1,by omega⟩;have b8:p<N.length:=by omega
  have c6:N[p]=v:=by rw[List.getElem?_eq_getElem b8]at hv;exact Option.some.inj hv
  have e1:=wt h hv;refine WpF.of (T51_eq _ _ _ _ _ _ _) rfl ?_;rw[T51];refine aJ fun σ1 c5 d8 b5=>?_;generalize hA:σ.n=A at b5;rw[aB b5 rfl];simp only[wpS];have b9:=hT.frm c5;refine cX b9.nodes b8 rfl fun cs a7=>?_;rw[c6]at a7;obtain⟨q,k,rfl,b1,_⟩:=a7;simp only[wpS];refine aJ fun σ2 d6 c9 c1=>?_;refine aZ c1 rfl rfl fun σ3 c4 d7 c0=>?_;generalize hC:σ1.n=C at c1 c0 c4 c9;have a2:Frm σ1 σ3 NoB:=d6.fresh c4 fun j hj h=>by omega
  have a0:=c5.seq a2;have b4:=a2.stN b5;have d2:=b9.frm a2;have a4:=b1.later a2;have a1:St σ3 C (nvC v q k):=c0;rw[aB a1 rfl];simp only[wpS];rw[aA];have hb:=d0 (m+1);by_cases a9:v.x.k=22
  ·have eb:bN N (m+1) p=[v.x.nm]:=by rw[bN,hv];simp only;rw[if_pos a9]
   rw[if_pos (by simpa using a9),aB a1 rfl];simp only[wpS];rw[aV,cM];simp only[wpS];rw[eb];refine⟨_,rfl,σ3.n,_,1,rfl,.inr ⟨0,1,rfl,Row.new σ3 1 [dA v.x.nm] 1 (by decide) rfl (by intro y hy;simp at hy;subst hy;rfl)⟩,fun _=>by have:=a0.n;omega,a0.seq (Frm.new _ _ _ _)⟩
  have eb:bN N (m+1) p=v.kids.flatMap fun k=>if p<k/\k<N.length/\v.x.k=26 then bN N m k else []:=by rw[bN,hv];simp only;rw[if_neg a9]
  rw[if_neg (by simpa using a9),eb,aB a1 rfl];simp only[wpS];rw[eb]at hb;rw[aA];by_cases a8:v.x.k=26
  case neg=>
   have e0:(v.kids.flatMap fun k=>if p<k/\k<N.length/\v.x.k=26 then bN N m k else [])=[]:=by rw[List.flatMap_eq_nil_iff];intro k _;rw[if_neg fun h=>a8 h.2.2]
   rw[if_neg (by simpa using a8)];simp only[wpS,T51k2];rw[e0];exact⟨_,rfl,0,none,0,rfl,.inl ⟨rfl,rfl,rfl⟩,fun h=>absurd rfl h,a0⟩
  generalize hg:(fun k=>if p<k/\k<N.length/\v.x.k=26 then bN N m k else [])=g at hb;have b2:∀j,((v.kids.take j).flatMap g).length<=(v.kids.flatMap g).length:=fun j=>by
   conv=>rhs;rw[<-List.take_append_drop j v.kids,List.flatMap_append,List.length_append]
   omega
  rw[if_pos (by simpa using a8),aB a1 (i:=4) rfl];simp only[wpS];refine Wp.count v.kids.length (fun j st σ'=>∃rb qq kk,st=[.int .i64 ((j:Nat):Int),.slice qq ((v.kids.take j).flatMap g).length kk]/\SlV σ' rb qq kk (((v.kids.take j).flatMap g).map dA)/\(qq≠none->σ3.n<=rb)/\Frm σ3 σ' NoB)
   ⟨0,none,0,by simp,.inl ⟨rfl,rfl,by simp⟩,fun h=>absurd rfl h,Frm.refl _ _⟩ ?_ ?_
  ·rintro j st σ4 hj ⟨rb,qq,kk,rfl,hL,a6,a3⟩;obtain⟨k1,k2,b',e',k3⟩:=a5 j hj;have ej:aP ((j:Int)+1)=((j+1:Nat):Int):=by rw[aS (by omega)];omega
   have b3:=a3.stN b4;have d1:=d2.frm a3;unfold T51b0;simp only[wpS];rw[aA,if_pos (by simp;omega),aF];refine cN (a4.later a3) hj rfl fun cs a7=>⟨_,a7,?_⟩;simp only[wpS];have b0:(v.kids.take (j+1)).flatMap g=(v.kids.take j).flatMap g++g v.kids[j]:=by rw[List.take_succ_eq_append_getElem hj,List.flatMap_append];simp
   have eg:g v.kids[j]=bN N m v.kids[j]:=by rw[<-hg];simp only;rw[if_pos ⟨k1,k2,a8⟩]
   rw[aL b3 2 rfl];simp only[wpS];rw[aE];refine WpF.mono (ih v.kids[j] b' e' m σ4 k3 (by omega) d1) ?_;rintro _ σ5 ⟨rb2,q2,kk2,rfl,c3,c7,b6⟩;simp only[wpS];have d4:=hL.frm b6 fun _ h=>h;have p1:=b2 (j+1);rw[b0,eg,List.length_append]at p1;rw[<-eg]at c3 ⊢;refine wp_appR d4 (by simp) c3 (by simp) (by rw[eg];omega) (by rw[eg];omega) fun σ6 rb6 q6 kk6 d5 c8 d3=>?_;simp only[wpS,T51k0,ej];have b7:Frm σ3 σ6 NoB:=(a3.seq b6).trans d5 (fun _ _ h=>h) fun i hi h=>by have:=a6 h.1;omega
   refine⟨rb6,q6,kk6,?_,?_,?_,b7⟩
   ·rw[b0,List.length_append]
   ·rw[b0,List.map_append];exact d3
   ·intro h;have:=a3.n;have:=b6.n;rcases c8 with h6|⟨h6,h7⟩|h6
    ·exact absurd h6 h
    ·have:=a6 h6;omega
    ·omega
  ·rintro st σ4 ⟨rb,qq,kk,rfl,hL,a6,a3⟩;rw[List.take_length]at hL ⊢;unfold T51b0;simp only[wpS];rw[aA,if_neg (by simp)];simp only[wpS,T51k1,T51k2];exact⟨_,rfl,rb,qq,kk,rfl,hL,fun h=>by have:=a6 h;have:=a0.n;omega,a0.seq a3⟩
theorem wp_walk32(hN:N.length<=1000):∀(n p:Nat) (pat:Bool) (e:Nat) (σ:aC),n<=60->bY N D n p pat=some e->Ask σ A pn N cn pd D cd p->
  WpF aG ovD 48 [bI A,.bool pat,.int .i64 ((60-n:Nat):Int)] σ fun v σ'=>v=.bool true/\Ask σ' A pn N cn pd D cd e/\Frm σ σ' (· =A):=by
 intro n;induction n with
 |zero=>intro p pat e σ _ h;cases h
 |succ n ih=>
  intro p pat e σ hn h hA;have e3:=iE h;have b7:p<N.length:=by omega
  obtain⟨v,hv⟩:∃v,N[p]?=some v:=⟨_,List.getElem?_eq_getElem b7⟩;have d0:N[p]=v:=by rw[List.getElem?_eq_getElem b7]at hv;exact Option.some.inj hv
  have e4:=wt h hv;have hw:=h;rw[bY,hv]at hw;simp only at hw;split at hw
  case isFalse=>cases hw
  rename_i hc;obtain⟨b0,d1,b8⟩:=hc;obtain⟨e1,c4,hw⟩:=aW hw;split at hw
  ·cases hw
  obtain rfl:=ofS hw;refine WpF.of (T48_eq _ _ _) rfl ?_;have e5:=hA.st.1;rw[T48];simp only[wpS];rw[aB hA.st (i:=2) rfl];simp only[wpS];rw[bS,aB hA.st (v:=.slice pn N.length cn) rfl];simp only[wpS];rw[aA,if_neg (by simp;omega),aB hA.st (v:=.slice pn N.length cn) rfl];simp only[wpS];refine cX hA.tree.nodes b7 rfl fun cs b1=>?_;rw[d0]at b1;obtain⟨q,k,rfl,b6,_⟩:=b1;simp only[wpS];refine aJ fun σ1 c6 d3 c0=>?_;refine aZ c0 rfl rfl fun σ2 c1 e0 a1=>?_;generalize hC:σ.n=C at c0 a1 c1 d3;have a3:Frm σ σ2 NoB:=c6.fresh c1 fun j hj h=>by omega
  have a1:St σ2 C (nvC v q k):=a1;clear c0 c6 c1;have a4:=hA.frm a3;rw[aF,aB a1 (i:=0) rfl];simp only[wpS];rw[aE];refine WpF.mono (tZ _) ?_;rintro _ _ ⟨rfl,rfl⟩;simp only[wpS];have epat:decide (21<=v.x.k/\v.x.k<=26)=pat:=by
   have d8:v.x.k<=26:=by unfold bT at b0;simp only[Bool.and_eq_true,decide_eq_true_eq]at b0;exact b0.1.1.1.1.2
   rw[<-d1];by_cases c8:v.x.k>20
   ·rw[decide_eq_true c8,decide_eq_true ⟨by omega,d8⟩]
   ·rw[decide_eq_false c8,decide_eq_false (by omega)]
  rw[epat];rw[aA,if_pos (by simp),aV,show aadd ⟨A,0,some 0⟩ 0=⟨A,0,some 0⟩ from rfl,a4.st.ldN (off:=0) (k:=2) (by simp)];simp only[wpS,List.drop_zero,List.take_succ_cons,List.take_zero];rw[aL a1 7 rfl];simp only[nvC,wpS];rw[aE];refine WpF.mono (wp_alone62 a4.tree a4.dl a4.cl q k b0 (by omega) b8) ?_;rintro _ σ3 ⟨rfl,b2⟩;have c5:=b2.stN a1;have b4:=a4.frm b2;have a2:=a3.seq b2;have c7:C≠A:=by omega
  simp only[wpS,T48k3,Bool.not_true];rw[aA,if_neg (by simp),aB b4.st (i:=2) rfl];simp only[wpS];have ep:aP (((p:Nat):Int)+1)=((p+1:Nat):Int):=by rw[aS (by omega)];omega
  have ed:aP (((60-(n+1):Nat):Int)+1)=((60-n:Nat):Int):=by rw[aS (by omega)];omega
  rw[ep];refine aT b4.st (by simp) rfl fun σ4 a9 d9 d4=>?_;have d7:Ask σ4 A pn N cn pd D cd (p+1):=b4.bump a9 d4;have a7:=a9.st c5 c7;have a6:aN σ4 (· =A) 1 gE q v.kids:=(b6.later a2).step (Y':=(· =A)) a9 (fun _ _ h=>h) (fun _ _ h=>h) fun _ _ h=>h;have c3:Frm σ σ4 (· =A):=(a2.mono fun _ _ h=>h.elim).trans a9 (fun _ _ h=>h) fun _ _ h=>h;clear b4 c5 a4 a1 b2 a9 a2 a3;rw[aB a7 (i:=4) (v:=.slice q v.kids.length k) rfl];simp only[wpS];generalize hR:(fun i=>pat||(decide (v.x.k=11)&&decide (i%2=1)))=pt at c4;refine Wp.count v.kids.length (fun j st σ'=>∃next,st=[.int .i64 ((j:Nat):Int),.bool false]/\Ask σ' A pn N cn pd D cd next/\gN (bY N D n) pt (v.kids.drop j) j next=some e/\Frm σ4 σ' (· =A))
   ⟨p+1,rfl,d7,by rw[List.drop_zero];exact c4,Frm.refl _ _⟩ ?_ ?_
  ·rintro j st σ5 hj ⟨next,rfl,b3,a0,a8⟩;have ej:aP ((j:Int)+1)=((j+1:Nat):Int):=by rw[aS (by omega)];omega
   have b9:=a8.st a7 c7;have a5:=a6.step (Y':=(· =A)) a8 (fun _ _ h=>h) (fun _ _ h=>h) fun _ _ h=>h;rw[List.drop_eq_getElem_cons hj,gN]at a0;split at a0
   case isFalse=>cases a0
   rename_i d2;obtain⟨e2,c9,a0⟩:=aW a0;unfold T48b0;simp only[wpS];rw[aA,if_pos (by simp;omega),aF];refine cN a5 hj rfl fun cs b1=>⟨_,b1,?_⟩;simp only[wpS];rw[aB b3.st (i:=2) rfl];simp only[wpS];rw[aA,if_pos (by rw[d2];simp),ed];have back:∀(b:Bool),b=pt j->Wp aG ovD (.call 48 [.pointer (some ⟨A,0,some 0⟩),.bool b,.int .i64 ((60-n:Nat):Int)] fun v=>eF v fun b124=>.ret .normal [.bool (!b124)]) σ5 fun e_1 vs σ'=>Wp aG ovD (T48k0 false e_1 vs) σ' fun e_1 vs σ'=>Wp aG ovD (T48k1 ((j:Nat):Int) e_1 vs) σ' fun e_1 st' σ'=>match e_1 with
     |.normal=>∃next,st'=[.int .i64 ((j+1:Nat):Int),.bool false]/\Ask σ' A pn N cn pd D cd next/\gN (bY N D n) pt (v.kids.drop (j+1)) (j+1) next=some e/\Frm σ4 σ' (· =A)
     |e_2=>Wp aG ovD (T48k2 e_2 st') σ' fun _ vs σ'=>∃w,vs=[w]/\w=.bool true/\Ask σ' A pn N cn pd D cd e/\Frm σ σ' (· =A):=by
    rintro b rfl;rw[aE];refine WpF.mono (ih next (pt j) e2 σ5 (by omega) c9 b3) ?_;rintro _ σ6 ⟨rfl,d6,d5⟩;simp only[wpS,T48k0,Bool.not_true];rw[aA,if_neg (by simp)];simp only[wpS,T48k1,ej];exact⟨e2,trivial,d6,a0,a8.trans d5 (fun _ _ h=>h) fun _ _ h=>h⟩
   rw[aA];cases pat with
   |true=>rw[if_neg (by simp)];exact back true (by rw[<-hR];simp)
   |false=>
    rw[if_pos (by rfl),aB b9 (i:=0) rfl];simp only[wpS];rw[aA];by_cases b5:v.x.k=11
    ·rw[if_pos (by simpa using b5),aE];refine WpF.of (T85_eq _) rfl ?_;rw[T85];simp only[wpS];refine⟨_,rfl,?_⟩;simp only[wpS];refine back _ ?_;rw[<-hR,Int.tmod_eq_emod_of_nonneg (by omega)];simp only[Bool.false_or,b5,decide_true,Bool.true_and];by_cases h2:j%2=1
     ·rw[decide_eq_true h2,beq_iff_eq];omega
     ·rw[decide_eq_false h2,beq_eq_false_iff_ne];omega
    ·rw[if_neg (by simpa using b5)];exact back false (by rw[<-hR];simp[b5])
  ·rintro st σ5 ⟨next,rfl,b3,a0,a8⟩;rw[List.drop_length,gN]at a0;obtain rfl:=ofS a0;unfold T48b0;simp only[wpS];rw[aA,if_neg (by simp)];simp only[wpS,T48k2];exact⟨_,rfl,rfl,b3,c3.trans a8 (fun _ _ h=>h) fun _ _ h=>h⟩
end
theorem uQ:∀l:List (List UInt8),cP l=false↔l.Nodup
 |[]=>by simp[cP]
 |s::l=>by
  rw[cP,Bool.or_eq_false_iff,uQ l,List.nodup_cons];constructor
  ·rintro⟨h1,h2⟩;exact⟨fun h=>(by rw[List.contains_iff_mem.2 h]at h1;cases h1),h2⟩
  ·rintro⟨h1,h2⟩;exact⟨by rw[Bool.eq_false_iff];exact fun h=>h1 (List.contains_iff_mem.1 h),h2⟩
theorem wN{α β:Type}(f:α->List β){a:α}:∀{l:List α},a∈l->(f a).Sublist (l.flatMap f)
 |x::l,h=>by
  rw[List.flatMap_cons];rcases List.mem_cons.1 h with rfl|h
  ·exact List.sublist_append_left _ _
  ·exact(wN f h).trans (List.sublist_append_right _ _)
section
variable{N:List NV}{D:List Dc}
theorem yR:∀(m m' p:Nat),N.length<=m+p->N.length<=m'+p->bN N m p=bN N m' p
 |0,0,_,_,_=>rfl
 |0,m'+1,p,h,_=>by rw[bN,bN,List.getElem?_eq_none (by omega)]
 |m+1,0,p,_,h=>by rw[bN,bN,List.getElem?_eq_none (by omega)]
 |m+1,m'+1,p,h,h'=>by
  rw[bN,bN];cases hv:N[p]? with
  |none=>rfl
  |some v=>
   simp only;split
   ·rfl
   ·congr 1
    funext k
    split
    ·rename_i hk;exact yR m m' k (by omega) (by omega)
    ·rfl
theorem uX{q:Nat->Bool->Option Nat}(hq:∀p b e,q p b=some e->p<e)(pat:Nat->Bool):∀(l:List Nat) (i next e:Nat),gN q pat l i next=some e->∀x,next<=x->x<e->∃j,∃hj:j<l.length,∃e',q l[j] (pat (i+j))=some e'/\l[j]<=x/\x<e'
 |[],i,next,e,h,x,h1,h2=>by cases ofS h;omega
 |k::l,i,next,e,h,x,h1,h2=>by
  rw[gN]at h;split at h
  ·rename_i hk;obtain⟨a,ha,h⟩:=aW h;by_cases hx:x<a
   ·exact⟨0,by simp,a,by rw[List.getElem_cons_zero,hk];exact ha,by rw[List.getElem_cons_zero];omega,hx⟩
   ·obtain⟨j,hj,e',p1,p2,p3⟩:=uX hq pat l (i+1) a e h x (by omega) h2;refine⟨j+1,by simpa using hj,e',?_,?_,p3⟩
    ·rw[List.getElem_cons_succ,show i+(j+1)=i+1+j by omega];exact p1
    ·rw[List.getElem_cons_succ];exact p2
  ·cases h
theorem vl{n p:Nat}{pat:Bool}{e:Nat}(h:bY N D (n+1) p pat=some e):∃v,N[p]?=some v/\bT v=true/\decide (v.x.k>20)=pat/\gN (bY N D n) (fun i=>pat||(decide (v.x.k=11)&&decide (i%2=1))) v.kids 0 (p+1)=some e/\(v.x.k=11->∀i (hi:i<v.kids.length),i%2=1->cP (bN N N.length v.kids[i])=false):=by
 rw[bY]at h;split at h
 ·cases h
 rename_i v hv;split at h
 case isFalse=>cases h
 rename_i hc;obtain⟨e1,hk,h⟩:=aW h;split at h
 ·cases h
 rename_i a0;obtain rfl:=ofS h;refine⟨v,hv,hc.1,hc.2.1,hk,fun a1 i hi h2=>?_⟩;cases ht:cP (bN N N.length v.kids[i])with
 |false=>rfl
 |true=>exact absurd ⟨a1,i,hi,h2,by simpa[List.getD,hi]using ht⟩ a0
theorem pat_kids{v:NV}(h:bT v=true)(hk:v.x.k>20)(hl:v.kids≠[]):v.x.k=26:=by
 unfold bT at h;simp only[Bool.and_eq_true,decide_eq_true_eq]at h;obtain⟨⟨⟨⟨⟨h1,h2⟩,h3⟩,_⟩,_⟩,_⟩:=h;have hn:v.kids.length≠0:=fun h=>hl (List.eq_nil_of_length_eq_zero h);obtain⟨i,hi⟩:∃i:Nat,v.x.k=(i:Int):=⟨v.x.k.toNat,by omega⟩;rw[hi]at h3 hk h2 ⊢;unfold lN at h3;rw[Int.toNat_natCast]at h3;have:i=21\/i=22\/i=23\/i=24\/i=25\/i=26:=by omega
 rcases this with rfl|rfl|rfl|rfl|rfl|rfl
 all_goals first
  |rfl
  |(exfalso;apply hn;simpa[eT]using h3)
theorem binds_kid{p:Nat}{v:NV}(hv:N[p]?=some v)(hk:v.x.k=26){k:Nat}(hm:k∈v.kids)(hp:p<k)(hN:k<N.length):(bN N N.length k).Sublist (bN N N.length p):=by
 obtain⟨m,a0⟩:∃m,N.length=m+1:=⟨N.length-1,by omega⟩;have e:bN N N.length p=v.kids.flatMap fun k=>if p<k/\k<N.length/\v.x.k=26 then bN N m k else []:=by
  conv=>lhs;rw[a0]
  rw[bN,hv];simp only;rw[if_neg (by omega)]
 rw[e,yR N.length m k (by omega) (by omega)];have:=wN (fun k=>if p<k/\k<N.length/\v.x.k=26 then bN N m k else []) hm;rwa[if_pos ⟨hp,hN,hk⟩]at this
theorem walk_pat:∀(n p e:Nat),bY N D n p true=some e->∀i,p<=i->i<e->(bN N N.length i).Sublist (bN N N.length p)
 |0,_,_,h,_,_,_=>by cases h
 |n+1,p,e,h,i,h1,h2=>by
  by_cases hi:i=p
  ·subst hi;exact .refl _
  have a5:=iE h;obtain⟨v,hv,hs,hk,a3,_⟩:=vl h;obtain⟨j,hj,e',p1,p2,p3⟩:=uX (fun p b e h=>(iE h).1) _ _ _ _ _ a3 i (by omega) h2;rw[Bool.true_or]at p1;have a0:=List.getElem_mem hj;have a2:v.kids≠[]:=fun h=>by rw[h]at hj;exact absurd hj (Nat.not_lt_zero _)
  obtain⟨v2,a1,a4⟩:=vF h;rw[hv]at a1;cases a1;obtain⟨q1,q2,_⟩:=a4 j hj;exact(walk_pat n _ _ p1 i p2 p3).trans (binds_kid hv (pat_kids hs (by simpa using hk) a2) a0 q1 q2)
theorem wi:∀(n p e:Nat),bY N D n p false=some e->∀i,p<=i->i<e->∀hN:i<N.length,20<N[i].x.k->cP (bN N N.length i)=false
 |0,_,_,h,_,_,_,_,_=>by cases h
 |n+1,p,e,h,i,h1,h2,hN,hk=>by
  obtain⟨v,hv,hs,a2,a1,a0⟩:=vl h;have hi:i≠p:=by rintro rfl;rw[List.getElem?_eq_getElem hN]at hv;rw[Option.some.inj hv]at hk;simp at a2;omega
  obtain⟨j,hj,e',p1,p2,p3⟩:=uX (fun p b e h=>(iE h).1) _ _ _ _ _ a1 i (by omega) h2;rw[Bool.false_or,Nat.zero_add]at p1;cases hb:(decide (v.x.k=11)&&decide (j%2=1))with
  |false=>rw[hb]at p1;exact wi n _ _ p1 i p2 p3 hN hk
  |true=>rw[hb]at p1;simp only[Bool.and_eq_true,decide_eq_true_eq]at hb;have:=a0 hb.1 j hj hb.2;rw[uQ]at this ⊢;exact(walk_pat n _ _ p1 i p2 p3).nodup this
theorem bZ.binds(g:bZ N D){i:Nat}(hi:i<N.length)(hk:20<N[i].x.k):cP (bN N N.length i)=false:=wi _ _ _ g.walk i (Nat.zero_le _) hi hi hk
end
section
variable{σ σ':aC}{N:List NV}{D:List Dc}{Y:Nat->Prop}{pn pd:Option Addr}{cn cd:Nat}
theorem wp_Good21(g:bZ N D)(h:gT σ Y pn N pd D):WpF aG ovD 32 [trV pn N.length cn pd D.length cd] σ fun v σ'=>v=.bool true/\Frm σ σ' NoB:=by
 have hN:=g.most;refine WpF.of (T32_eq _ _ _ _ _ _) rfl ?_;rw[T32];refine aJ fun σ1 b1 b4 a3=>?_;generalize hA:σ.n=A at a3 b4;have h1:=h.frm b1;rw[aF,aB a3 rfl];simp only[wpS];have hp:=g.pos;rw[aA,if_pos (by simp;omega),aB a3 rfl];simp only[wpS];rw[aA,if_pos (by simp;omega),aB a3 rfl];simp only[wpS];rw[aE];refine WpF.mono (wp_decls31 (aN.later h1.tree.decls (Frm.refl _ _):aN σ1 Y 2 (dcR σ1 Y) pd D) g.types) ?_;rintro _ σ2 ⟨rfl,a8⟩;have a6:=a8.stN a3;have h2:=h1.frm a8;simp only[wpS,T32k4,Bool.not_true];rw[aA,if_neg (by simp),aL a6 2 rfl];simp only[wpS];refine aJ fun σ3 a7 b3 b0=>?_;generalize hB:σ2.n=B at b0 b3;have b9:=a7.stN a6;have h3:gT σ3 (· =B) pn N pd D:=h2.step (S:=NoB) a7 (fun _ _ h=>h.elim) fun j hj h=>by omega
 have c8:Ask σ3 B pn N cn pd D cd 0:=⟨b0,h3.tree,h3.nl,h3.dl,h3.cl,h3.kl,h3.al⟩;rw[aF,aE];refine WpF.mono (wp_walk32 hN 60 0 false N.length σ3 (Nat.le_refl _) g.walk c8) ?_;rintro _ σ4 ⟨rfl,c7,c6⟩;have a1:Frm σ2 σ4 NoB:=(a7).fresh c6 fun j hj h=>by omega
 have a4:=a1.stN a6;have h4:=h2.frm a1;simp only[wpS];rw[aA,if_pos (by rfl),aB c7.st (i:=2) rfl];simp only[wpS];rw[aB a4 (v:=.slice pn N.length cn) rfl];simp only[wpS,T32k3];rw[show(((N.length:Nat):Int) !=((N.length:Nat):Int))=false by simp,aA,if_neg (by simp),aB a4 (v:=.slice pn N.length cn) rfl];simp only[wpS];have a9:=(b1.seq a8).seq a1;refine Wp.count N.length (fun i st σ'=>st=[.int .i64 ((i:Nat):Int),.bool false]/\Frm σ4 σ' NoB) ⟨rfl,Frm.refl _ _⟩ ?_ ?_
 ·rintro i st σ5 hi ⟨rfl,a2⟩;have ei:aP ((i:Int)+1)=((i+1:Nat):Int):=by rw[aS (by omega)];omega
  have h5:=h4.frm a2;have b8:=a2.stN a4;unfold T32b0;simp only[wpS];rw[aA,if_pos (by simp;omega),aF];refine cX h5.tree.nodes hi rfl fun cs b5=>?_;obtain⟨q,k,rfl,b2,_⟩:=b5;simp only[wpS];refine aJ fun σ6 c5 d0 b7=>?_;refine aZ b7 rfl rfl fun σ7 c4 c9 b6=>?_;have a0:Frm σ5 σ7 NoB:=c5.fresh c4 fun j hj h=>by omega
  have a5:=a0.stN b8;have h7:=h5.frm a0;rw[aF,aB b6 (i:=0) rfl];simp only[wpS];rw[aE];refine WpF.mono (tZ _) ?_;rintro _ _ ⟨rfl,rfl⟩;simp only[wpS];rw[aA];by_cases hk:21<=N[i].x.k/\N[i].x.k<=26
  case neg=>rw[if_neg (by simp;omega)];simp only[wpS,T32k0];rw[aA,if_neg (by simp)];simp only[wpS,T32k1,ei];exact⟨trivial,a2.seq a0⟩
  rw[if_pos (by simp;omega),aL a5 2 rfl];simp only[wpS];rw[aE];obtain⟨m,b',e',_,hw⟩:=(walk_at _ _ _ _ g.walk).2 i (Nat.zero_le _) hi;refine WpF.mono (wp_binds35 hN m i b' e' N.length _ hw (by omega) h7.tree) ?_;rintro _ σ8 ⟨rb,q8,k8,rfl,c0,_,c3⟩;simp only[wpS];rw[aE];have d2:=nE _ _ _ _ hw N.length;have d1:=iE hw;refine WpF.mono (sN (gZ c0) (by omega) (g.binds hi (by omega))) ?_;rintro _ σ9 ⟨rfl,c1⟩;simp only[wpS,T32k0];rw[aA,if_neg (by simp)];simp only[wpS,T32k1,ei];exact⟨trivial,a2.seq (a0.seq (c3.seq c1))⟩
 ·rintro st σ5 ⟨rfl,a2⟩;unfold T32b0;simp only[wpS];rw[aA,if_neg (by simp)];simp only[wpS,T32k2];exact⟨_,rfl,rfl,a9.seq a2⟩
end
section
variable{σ σ':aC}{Y:Nat->Prop}
theorem VlP.plain{w:Nat}{v:Vl}(h1:v.args=[])(h2:v.env=.nil):VlP w σ Y v none none:=⟨by rw[h1];exact aN.nil,Emp.none,by rw[h2];exact kT.2 rfl⟩
abbrev zC:List Value:=[.int .i64 0,.int .i64 0,.string (bs []),.slice none 0 0,.int .i64 0,.pointer none,.int .i64 0]
theorem vx(n:Int):EvF aG ovD 31 [.int .i64 n] σ (.int .i64 (w63 n)) σ:=by refine EvF.of (T31_eq _) rfl ?_;rw[T31,wp_ret];exact⟨rfl,rfl⟩
theorem vj(n:Int):EvF aG ovD 18 [.int .i64 n] σ (.int .i64 (w63 n)) σ:=by refine EvF.of (T18_eq _) rfl ?_;rw[T18,wp_ret];exact⟨rfl,rfl⟩
def inpB(l:List Int):Bool:=decide (∀x∈l,w63 x=x)&&decide (l.length<=20)
theorem pQ(n:Int){Q:Value->aC->Prop}(hQ:∀σ',Frm σ σ' NoB->Q (.agg (vC (xV n) none 0 none).toArray) σ'):WpF aG ovD 61 [.int .i64 n] σ Q:=by refine WpF.of (T61_eq _) rfl ?_;rw[T61];refine aJ fun σ1 a3 a5 a1=>?_;rw[aE,WpF.eq (vx n)];simp only[wpS];refine aZ a1 rfl rfl fun σ2 a2 a4 a0=>?_;rw[aL a0 7 rfl];simp only[wpS];exact⟨_,rfl,hQ σ2 (a3.fresh a2 fun j hj h=>by omega)⟩
theorem vR{Q:Value->aC->Prop}(hQ:∀σ',Frm σ σ' NoB->Q (.agg (vC pL none 0 none).toArray) σ'):WpF aG ovD 62 [] σ Q:=by refine WpF.of T62_eq rfl ?_;rw[T62];refine aJ fun σ1 a3 a5 a1=>?_;refine aZ a1 rfl rfl fun σ2 a2 a4 a0=>?_;rw[aL a0 7 rfl];simp only[wpS];exact⟨_,rfl,hQ σ2 (a3.fresh a2 fun j hj h=>by omega)⟩
theorem wp_truth114(b:Bool){Q:Value->aC->Prop}(hQ:∀σ',Frm σ σ' NoB->Q (.agg (vC (pO b) none 0 none).toArray) σ'):WpF aG ovD 114 [.bool b] σ Q:=by
 refine WpF.of (T114_eq _) rfl ?_;rw[T114];refine aJ fun σ1 a3 b1 a6=>?_;generalize hA:σ.n=A at a6 b1;refine aJ fun σ2 a9 b0 a5=>?_;have a2:=a9.stN a6;generalize hB:σ1.n=B at a5 b0;refine aZ a5 rfl rfl fun σ3 a8 b7 a4=>?_;have a0:=a8.st a2 (by omega);have a1:Frm σ σ3 NoB:=(a3.seq a9).fresh a8 fun j hj h=>by have:=a3.n;omega
 have fin:∀(τ:aC) (z:Int),Frm σ τ NoB->St τ A zC->St τ B [.int .i64 2,.int .i64 z,.string (bs []),.slice none 0 0,.int .i64 0,.pointer none,.int .i64 0]->z=(if b=true then 1 else 0)->Wp aG ovD (T114k0 ⟨B,0,some 0⟩ ⟨A,0,some 0⟩ .normal []) τ fun _ vs σ'=>∃v,vs=[v]/\Q v σ':=by rintro τ z hτ hA hB rfl;simp only[wpS,T114k0];rw[aL hB 7 rfl];simp only[wpS];refine aZ hA rfl rfl fun σ5 b4 b5 b2=>?_;rw[aL b2 7 rfl];simp only[wpS];exact⟨_,rfl,hQ σ5 (hτ.fresh b4 fun j hj h=>by omega)⟩
 rw[aF,aA];cases b with
 |true=>rw[if_pos rfl];refine aT a4 (by simp) rfl fun σ4 a7 b6 b3=>?_;simp only[wpS];exact fin σ4 1 (a1.fresh a7 fun j hj h=>by have:=a3.n;omega) (a7.st a0 (by omega)) b3 rfl
 |false=>rw[if_neg (by simp)];simp only[wpS];exact fin σ3 0 a1 a0 a4 rfl
theorem wp_op89(t:List UInt8)(a b:Int){Q:Value->aC->Prop}(hQ:∀σ',Frm σ σ' NoB->Q (.tuple #[.agg (vC ((opV t a b).getD cK) none 0 none).toArray,.bool (opV t a b).isSome]) σ'):WpF aG ovD 89 [.string (mkB t),.int .i64 a,.int .i64 b] σ Q:=by
 refine WpF.of (T89_eq _ _ _) rfl ?_;rw[T89];refine aJ fun σ1 a3 a5 a1=>?_;generalize hA:σ.n=A at a1 a5;have fin:∀(τ:aC) (v:Vl),Frm σ1 τ NoB->v.args=[]->opV t a b=some v->Wp aG ovD (.act (stC ⟨A,0,some 0⟩ (vC v none 0 none)) fun v31=>bM v31 fun l32=>aH l32 (.ret .ret [.bool true])) τ fun e vs σ'=>Wp aG ovD (T89k0 ⟨A,0,some 0⟩ e vs) σ' fun _ vs σ'=>∃v,vs=[v]/\Q v σ':=by intro τ v hτ ha hv;refine aZ (hτ.stN a1) rfl rfl fun σ3 a2 a4 a0=>?_;simp only[wpS,T89k0];rw[aL a0 7 rfl];simp only[wpS];have:=hQ σ3 ((a3.seq hτ).fresh a2 fun j hj h=>by omega);rw[hv]at this;exact⟨_,rfl,this⟩
 have num:∀n:Int,opV t a b=some (xV n)->Wp aG ovD (.call 61 [.int .i64 n] fun v6=>asAgg v6 fun l7=>aU l7 fun v8 l9=>asInt .i64 v8 fun i10=>aU l9 fun v11 l12=>asInt .i64 v11 fun i13=>aU l12 fun v14 l15=>kF v14 fun s16=>aU l15 fun v17 l18=>aI v17 fun p19 n20 n21=>aU l18 fun v22 l23=>asInt .i64 v22 fun i24=>aU l23 fun v25 l26=>aR v25 fun p27=>aU l26 fun v28 l29=>asInt .i64 v28 fun i30=>aH l29 (.act (stC ⟨A,0,some 0⟩ [.int .i64 i10,.int .i64 i13,.string s16,.slice p19 n20 n21,.int .i64 i24,.pointer p27,.int .i64 i30]) fun v31=>bM v31 fun l32=>aH l32 (.ret .ret [.bool true]))) σ1 fun e vs σ'=>Wp aG ovD (T89k0 ⟨A,0,some 0⟩ e vs) σ' fun _ vs σ'=>∃v,vs=[v]/\Q v σ':=by intro n hn;rw[aE];refine pQ n fun τ hτ=>?_;have:=fin τ (xV n) hτ rfl hn;unfold vC at this ⊢;simp only[wpS];exact this
 have tru:∀c:Bool,opV t a b=some (pO c)->Wp aG ovD (.call 114 [.bool c] fun v6=>asAgg v6 fun l7=>aU l7 fun v8 l9=>asInt .i64 v8 fun i10=>aU l9 fun v11 l12=>asInt .i64 v11 fun i13=>aU l12 fun v14 l15=>kF v14 fun s16=>aU l15 fun v17 l18=>aI v17 fun p19 n20 n21=>aU l18 fun v22 l23=>asInt .i64 v22 fun i24=>aU l23 fun v25 l26=>aR v25 fun p27=>aU l26 fun v28 l29=>asInt .i64 v28 fun i30=>aH l29 (.act (stC ⟨A,0,some 0⟩ [.int .i64 i10,.int .i64 i13,.string s16,.slice p19 n20 n21,.int .i64 i24,.pointer p27,.int .i64 i30]) fun v31=>bM v31 fun l32=>aH l32 (.ret .ret [.bool true]))) σ1 fun e vs σ'=>Wp aG ovD (T89k0 ⟨A,0,some 0⟩ e vs) σ' fun _ vs σ'=>∃v,vs=[v]/\Q v σ':=by intro c hc;rw[aE];refine wp_truth114 c fun τ hτ=>?_;have:=fin τ (pO c) hτ rfl hc;unfold vC at this ⊢;simp only[wpS];exact this
 rw[aF,bR,aA];unfold opV at num tru hQ;by_cases c1:t=[43]
 ·rw[if_pos (by simpa using c1)];exact num _ (by rw[if_pos c1])
 rw[if_neg (by simpa using c1),bR,aA];by_cases c2:t=[45]
 ·rw[if_pos (by simpa using c2)];exact num _ (by rw[if_neg c1,if_pos c2])
 rw[if_neg (by simpa using c2),bR,aA];by_cases c3:t=[42]
 ·rw[if_pos (by simpa using c3)];exact num _ (by rw[if_neg c1,if_neg c2,if_pos c3])
 rw[if_neg (by simpa using c3),bR,aA];by_cases c4:t=[60]
 ·rw[if_pos (by simpa using c4)];exact tru _ (by rw[if_neg c1,if_neg c2,if_neg c3,if_pos c4])
 rw[if_neg (by simpa using c4),bR,aA];by_cases c5:t=[61]
 ·rw[if_pos (by simpa using c5)];exact tru _ (by rw[if_neg c1,if_neg c2,if_neg c3,if_neg c4,if_pos c5])
 rw[if_neg (by simpa using c5)];simp only[wpS,T89k0];refine aZ a1 rfl rfl fun σ3 a2 a4 a0=>?_;rw[aL a0 7 rfl];simp only[wpS];have:=hQ σ3 (a3.fresh a2 fun j hj h=>by omega);rw[if_neg c1,if_neg c2,if_neg c3,if_neg c4,if_neg c5]at this;exact⟨_,rfl,this⟩
def En.len:En->Nat
 |.nil=>0
 |.cons _ _ u=>u.len+1
theorem wp_find63{e:En}{p:Option Addr}(h:EnR 7 σ Y e p)(t:List UInt8){Q:Value->aC->Prop}
  (a5:rV t e=none->∀σ',Frm σ σ' NoB->Q (.tuple #[.agg zC.toArray,.bool false]) σ')
  (a0:∀v,rV t e=some v->∀q c p' σ',Frm σ σ' NoB->VlP 7 σ' Y v q p'->Q (.tuple #[.agg (vC v q c p').toArray,.bool true]) σ'):WpF aG ovD 63 [.pointer p,.string (mkB t)] σ Q:=by
 refine WpF.of (T63_eq _ _) rfl ?_;rw[T63];refine aJ fun σ1 a4 a7 a2=>?_;generalize hA:σ.n=A at a2 a7;refine Wp.loop (fun m st σ'=>σ'=σ1/\∃e' p',st=[.pointer p',.bool false]/\EnR 7 σ Y e' p'/\rV t e'=rV t e/\m=e'.len) e.len ⟨rfl,e,p,rfl,h,rfl,rfl⟩ ?_;rintro m st σ2 ⟨rfl,e',p',rfl,hE,hf,rfl⟩;unfold T63b0;simp only[wpS];cases e' with
 |nil=>rw[kT]at hE;subst hE;rw[aA,if_neg (by simp)];simp only[wpS,T63k1];refine aZ a2 rfl rfl fun σ3 a3 a6 a1=>?_;rw[aL a1 7 rfl];simp only[wpS];exact⟨_,rfl,a5 (by rw[<-hf];rfl) σ3 (a4.fresh a3 fun j hj h=>by omega)⟩
 |cons nm v u=>
  obtain⟨x,cs,pu,rfl,h1,h2,h3,h4⟩:=zT.1 hE;have hl:=h3.len;have hz:Cz σ2 Y x 9 (.string (mkB nm)::(cs++[.pointer pu])):=Cz.frm ⟨h1,h2,by simp[hl]⟩ a4;rw[aA,if_pos (by simp),aF];simp only[wpS];rw[dI hz (i:=0) rfl];simp only[wpS,eP];rw[aA];by_cases hn:nm=t
  ·rw[if_pos (by simpa using hn),aV,hz.ldN (i:=1) (k:=7) (by decide)];have ecs:((Value.string (mkB nm)::(cs++[.pointer pu])).drop 1).take 7=cs:=by rw[List.drop_succ_cons,List.drop_zero,List.take_append_of_le_length (by omega),List.take_of_length_le (by omega)]
   rw[ecs];obtain⟨q,c,p2,rfl,hP⟩:=dM.1 h3;unfold vC;simp only[wpS];refine aZ a2 rfl rfl fun σ3 a3 a6 a1=>?_;simp only[wpS,T63k0,T63k1];rw[aL a1 7 rfl];simp only[wpS];have hF:=a4.fresh a3 fun j hj h=>by omega
   exact⟨_,rfl,a0 v (by rw[<-hf,rV,if_pos hn]) q c p2 σ3 hF (hP.step (S:=NoB) (Y':=Y) hF (fun _ _ h=>h.elim) fun _ _ h=>h)⟩
  ·rw[if_neg (by simpa using hn)];simp only[wpS,T63k0];rw[dI hz (i:=8) (v:=.pointer pu) (by show(cs++[Value.pointer pu])[7]?=_;rw[List.getElem?_append_right (by omega),hl];rfl)];simp only[wpS];exact⟨u.len,Nat.lt_succ_self _,trivial,u,pu,rfl,h4,by rw[<-hf,rV,if_neg hn],rfl⟩
end
section
variable{σ σ':aC}{X:Nat->Prop}{A:Nat}{T:TrA}{N:List NV}{D:List Dc}{s:Slt}{m:MS}
theorem eV(h:Mac σ X A T N D s m){v:Vl}{q p:Option Addr}(c:Nat)(hv:VlP 7 σ (FX X A s) v q p):WpF aG ovD 56 [bI A,.agg (vC v q c p).toArray] σ (QM σ X A T N D s (m.value v)):=by refine WpF.of (T56_eq _ _ _ _ _ _ _ _ _ _) rfl ?_;rw[T56];refine aJ fun σ1 a1 b0 a5=>?_;have h1:=h.frmN a1;have a2:=hv.step (S:=NoB) (Y':=FX X A s) a1 (fun _ _ h=>h.elim) fun _ _ h=>h;rw[aL a5 7 rfl];simp only[wpS];refine yH h1.st (by simp[fB]) rfl fun σ2 a7 a9 a4=>?_;refine aT (i:=11) a4 (by simp[fB]) rfl fun σ3 a6 a8 a3=>?_;simp only[wpS];have a0:=a7.seq a6;refine⟨_,rfl,rfl,{s with vq:=q,vc:=c,vp:=p},?_,(Mov.ofN a1).trans (Mov.ofA a0 rfl)⟩;exact h1.upd a0 a3 (by constructor<;>rfl) a2 h1.env h1.k h1.calls
theorem fJ(h:Mac σ X A T N D s m){i:Nat}{e:En}{p:Option Addr}(he:EnR 7 σ (FX X A s) e p):WpF aG ovD 57 [bI A,.int .i64 ((i:Nat):Int),.pointer p] σ (QM σ X A T N D s (m.goTo i e)):=by refine WpF.of (T57_eq _ _ _) rfl ?_;rw[T57];simp only[wpS];refine aT (i:=19) h.st (by simp[fB]) rfl fun σ1 a5 a8 a2=>?_;refine aT (i:=20) a2 (by simp[fB]) rfl fun σ2 a4 a7 a1=>?_;refine aT (i:=11) a1 (by simp[fB]) rfl fun σ3 a3 a6 a0=>?_;simp only[wpS];have hF:=(a5.seq a4).seq a3;refine⟨_,rfl,rfl,{s with pe:=p},?_,Mov.ofA hF rfl⟩;exact h.upd hF a0 (by constructor<;>rfl) h.v he h.k h.calls
theorem gB(h:Mac σ X A T N D s m):WpF aG ovD 64 [bI A] σ (QM σ X A T N D s m.stuck):=by refine WpF.of (T64_eq _) rfl ?_;rw[T64];simp only[wpS];refine aT (i:=9) h.st (by simp[fB]) rfl fun σ1 a0 a2 a1=>?_;simp only[wpS];refine⟨_,rfl,rfl,s,?_,Mov.ofA a0 rfl⟩;exact h.upd a0 a1 (by constructor<;>rfl) h.v h.env h.k h.calls
theorem ev_isStop55(k:Int):EvF aG ovD 55 [.int .i64 k] σ (.bool (stopK k)) σ:=by
 refine EvF.of (T55_eq _) rfl ?_;have p:∀{K:Ex->List Value->Pg},(∀x,K .normal [.bool x]=.ret .normal [.bool x])->∀x,EvB (K .normal [.bool x]) σ x:=fun h=>EvB.pass h;rw[T55,aF,aF];refine EvB.wp (EvB.cond (EvB.join (EvB.cond (EvB.join (EvB.cond (EvB.join (EvB.cond (EvB.join (EvB.cond (EvB.join (EvB.cond (EvB.join (EvB.cond (EvB.join (EvB.cond (EvB.join (EvB.cond (EvB.ret _ _)) (p fun x=>by simp only[wpS,T55k0]))) (p fun x=>by simp only[wpS,T55k1]))) (p fun x=>by simp only[wpS,T55k2]))) (p fun x=>by simp only[wpS,T55k3]))) (p fun x=>by simp only[wpS,T55k4]))) (p fun x=>by simp only[wpS,T55k5]))) (p fun x=>by simp only[wpS,T55k6]))) (p fun x=>by simp only[wpS,T55k7]))) ?_;simp only[wpS,T55k8];unfold stopK;rw[aA];by_cases c:k=7\/k=8\/k=9\/k=10\/k=11\/k=13\/k=17\/k=18\/k=19\/k=20
 ·rw[if_pos (by simpa using c),decide_eq_true c];simp only[wpS,T55k9];exact⟨trivial,trivial⟩
 ·rw[if_neg (by simpa using c),decide_eq_false c];simp only[wpS,T55k9];exact⟨trivial,trivial⟩
theorem ev_here37(h:Mac σ X A T N D s m)(a0:m.at_<N.length):EvF aG ovD 37 [bI A] σ (.bool (qg N m)) σ:=by
 refine EvF.of (T37_eq _) rfl ?_;rw[T37,aF];simp only[wpS];rw[aB h.st (i:=9) rfl];simp only[wpS];unfold qg;rw[aA];by_cases h0:m.over=0
 case neg=>rw[if_neg (by simpa using h0),decide_eq_false h0];simp only[wpS,T37k0];exact⟨rfl,trivial⟩
 rw[if_pos (by simpa using h0),decide_eq_true h0,aB h.st (i:=11) rfl];simp only[wpS];rw[aA];cases hb:m.back with
 |true=>rw[if_neg (by simp)];simp only[wpS,T37k0];exact⟨rfl,trivial⟩
 |false=>rw[if_pos (by rfl),bS,aB h.st (i:=0) rfl];simp only[wpS];rw[aB h.st (i:=19) rfl];simp only[wpS];refine cR h.tree.tree.nodes a0 rfl (o:=0) (by decide) fun cs a1=>?_;obtain⟨q,k,rfl,_,_⟩:=a1;refine⟨_,rfl,?_⟩;simp only[wpS];rw[aE,WpF.eq (ev_isStop55 _)];simp only[wpS,T37k0];rw[jI a0];exact⟨rfl,trivial⟩
end
end Go.Pg
