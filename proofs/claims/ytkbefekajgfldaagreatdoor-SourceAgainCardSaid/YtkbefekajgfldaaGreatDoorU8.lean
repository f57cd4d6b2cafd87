/- MwE, Shelf -/
import Derived.Ground.NamesProg
import Derived.Shelf.Unicode.PredsPay
import Derived.Shelf.Unicode.DecodeAny
import Derived.Test.YtkbefekajgfldaaGreatDoorProg
import Derived.Test.YtkbefekajgfldaaGreatDoorU7
set_option maxHeartbeats 1000000
namespace Go.Pg
open Go.Proofs Go.Utf8 Go.Lib
set_option linter.unusedSimpArgs false
set_option maxRecDepth 10000
section
variable{N:List NV}{m:MS}
theorem runM_zero:∀{k:Nat},(cF N k m).2=0->(cF N k m).1=m
 |0,_=>rfl
 |k+1,h=>by
  by_cases h0:m.over=0
  ·rw[iY h0]at h;cases h
  ·rw[gH h0]
theorem runM_full(k:Nat):(cF N (cF N k m).2 m).1=(cF N k m).1/\(cF N (cF N k m).2 m).2=(cF N k m).2:=by have h1:=runM_le (N:=N) k m;have h2:=sO k _ m (Nat.le_refl (cF N k m).2);have h3:=pM (N:=N) (cF N k m).2 (k-(cF N k m).2) m;rw[show(cF N k m).2+(k-(cF N k m).2)=k by omega]at h3;refine⟨?_,h2⟩;have h4:(cF N k m).2=(cF N (cF N k m).2 m).2+(cF N (k-(cF N k m).2) (cF N (cF N k m).2 m).1).2:=congrArg Prod.snd h3;have h5:=congrArg Prod.fst h3;simp only at h5;exact((runM_zero (by omega)).symm.trans h5.symm)
end
theorem xS(s0:ByteArray)(_:s0.size<=maxLen)(p1:Option Addr)(c1:Nat)(l1:List Int)(a2:Int)(_:(Lit.int .i64 a2).wf=true)(old0:Addr->Option Value)(rd1:RdR (unO uz old0) 1 (.int .i64) p1 l1)(ok1:(Sh.row 1 (.int .i64)).ok l1)(sp1:∀q,p1=some q->q.spot=none):
  WpF aG ovD 6 [.string s0,.slice p1 l1.length c1,.int .i64 a2] (jP (unO uz old0)) fun v _=>v=.bool true:=by
 refine WpF.of (T6_eq _ _ _ _ _) rfl ?_;rw[T6,aE];refine(awake8 _).mono ?_;rintro v σ ⟨rfl,b0,b3⟩;have a8:aN σ NoB 1 oU p1 l1:=row_in b0 rd1 sp1;have c0:Emp σ NoB p1:=emp_in sp1;have b1:l1.length<=maxLen:=ok1.1;clear rd1 ok1 b0;rw[<-mkB_self s0];generalize s0.data.toList=S;simp only[wpS];rw[aA,if_neg (by simp),aF];have main:∀(σ:aC) (d:Bool),eS σ->aN σ NoB 1 oU p1 l1->Emp σ NoB p1->Wp aG ovD (T6k5 (mkB S) p1 l1.length c1 a2 .normal [.bool d]) σ fun _ vs σ'=>∃v,vs=[v]/\v=.bool true:=by
  intro σ d b3 a8 c0;simp only[wpS,T6k5];rw[aA];split
  ·simp only[wpS];exact⟨_,rfl,rfl⟩
  rw[aE];refine wp_made12 S ?_ ?_
  ·intro _ pn cn pd cd σ1 a9;simp only[wpS];refine aJ fun σ2 e9 f2 c4=>?_;refine aZ c4 rfl rfl fun σ3 e8 f1 c3=>?_;rw[aF,aA,if_neg (by simp)];simp only[wpS,T6k4];rw[aA,if_pos rfl];simp only[wpS];exact⟨_,rfl,rfl⟩
  intro N D _ d6 pn cn pd cd σ1 a9 f3 hK hD hC hA i2;have hg:bZ N D:=vX d6;have i5:=hg.most;have g3:gT σ1 NoB pn N pd D:=(⟨f3,by omega,hD,hC,hK,hA⟩:gT σ1 (fun j=>j<σ.n) pn N pd D).low;simp only[wpS];refine aJ fun σ2 e9 f2 c4=>?_;generalize hV:σ1.n=V at c4;refine aZ c4 rfl rfl fun σ3 e8 f1 c3=>?_;have b7:Frm σ1 σ3 NoB:=e9.fresh e8 fun j hj h=>by omega
  have a7:=a9.seq b7;have g2:=g3.frm b7;have d5:=a7.fr b3;have a5:=vS a8 a7;have b4:=yj c0 a7;rw[aF,aA,if_pos (by rfl),aB c3 (v:=.slice pn N.length cn) rfl];simp only[wpS];rw[aA];by_cases g5:120<N.length
  ·rw[if_neg (by simp;omega)];simp only[wpS,T6k4];rw[aA,if_pos rfl];simp only[wpS];exact⟨_,rfl,rfl⟩
  rw[if_pos (by simp;omega),aE,WpF.eq (wX a5.rdI9 b1)];simp only[wpS,T6k4];rw[aA];by_cases a1:((!inpB l1||decide (a2<1))||decide (a2>1000))=true
  ·rw[if_pos a1];simp only[wpS];exact⟨_,rfl,rfl⟩
  rw[if_neg a1];simp only[Bool.or_eq_true,Bool.not_eq_true',decide_eq_true_eq,not_or,Bool.not_eq_false,Int.not_lt]at a1;obtain⟨⟨c7,i4⟩,i3⟩:=a1;obtain⟨hw,c6⟩:=ua c7;rw[aL c3 2 rfl];simp only[wpS];rw[aE];refine wp_New12 hg g2 a5 b4 hw (by omega) fun σ4 A s4 c5 i8 f7 d1=>?_;have h4:Mac σ4 NoB A ⟨pn,cn,pd,cd⟩ N D s4 (mJ l1):=f7 NoB fun _ h=>h.elim;have d4:=c5.fr d5;simp only[wpS];rw[aL (c5.stN c3) 2 rfl];simp only[wpS];rw[aE];refine wp_New12 hg h4.tree (vS a5 c5) (yj b4 c5) hw (by omega) fun σ5 B s5 e7 g1 f6 d0=>?_;have i7:A≠B:=by have:=h4.st.1;omega
  have h5:Mac σ5 (fun j=>j=A) B ⟨pn,cn,pd,cd⟩ N D s5 (mJ l1):=f6 (fun j=>j=A) fun j hj=>⟨by have:=h4.st.1;omega,.inr (.inl hj)⟩;have b2:=e7.fr d4;have g4:=h4.frmW e7;simp only[wpS];rw[aA,if_neg (by simp),aE];refine WpF.mono (wp_Run13 hg g4 (new_ok hg l1) b2 (wy l1) (by show l1.length<=_;omega) (Nat.zero_le _) 600 (by decide)) ?_;rintro v σ6 ⟨s6,rfl,h6,e4⟩;have d3:=e4.frm.fr b2;have k6:=h5.frm e4.frm fun j _ hj=>d1 j hj;rw[show Int.toNat 600=600 from rfl]at h6 ⊢;obtain⟨a3,a6⟩:=runM_full (N:=N) (m:=mJ l1) 600;have g9:=runM_le (N:=N) 600 (mJ l1);have a0:=fun k=>sO (N:=N) 600 k (mJ l1);rw[<-a3]at h6;have a4:=oH (N:=N) (cF N 600 (mJ l1)).2 (mJ l1);have hb:=yq (N:=N) (cF N 600 (mJ l1)).2 (wy l1);generalize (cF N 600 (mJ l1)).2=n at*;clear a3;have hz:(mJ l1).steps=0:=rfl;rw[a6,hz]at a4;simp only[wpS];refine Wp.loop (fun r st σ'=>∃i M s':_,st=[.int .i64 ((i:Nat):Int),.int .i64 ((M:Nat):Int)]/\i<=M/\M<=n/\Mac σ' (fun j=>j=A) B ⟨pn,cn,pd,cd⟩ N D s' (cF N M (mJ l1)).1/\Mov σ6 σ' B s5 s'/\r=n-M) n ⟨0,0,s5,rfl,Nat.le_refl _,Nat.zero_le _,k6,Mov.refl,rfl⟩ ?_;rintro r st σ7 ⟨i,M,s7,rfl,i1,f4,k7,d7,rfl⟩;have d2:=d7.frm.fr d3;have h7:=h6.frm d7.frm fun j _ hj=>.inr (by rw[d0 j hj];exact⟨g1,h5.st.1⟩);have i6:=a0 M f4;unfold T6b0;simp only[wpS];rw[aA];by_cases g8:M<n
  ·rw[if_pos (by simp;omega)];have go:∀k:Nat,1<=k->M+k<=n->Wp aG ovD (T6k0 (some ⟨B,0,some 0⟩) ((M:Nat):Int) .normal [.int .i64 ((k:Nat):Int)]) σ7 fun e vs σ'=>Wp aG ovD (T6k1 ((i:Nat):Int) e vs) σ' fun e st' σ'=>match e with
     |.normal=>∃r',r'<n-M/\∃i M s':_,st'=[.int .i64 ((i:Nat):Int),.int .i64 ((M:Nat):Int)]/\i<=M/\M<=n/\Mac σ' (fun j=>j=A) B ⟨pn,cn,pd,cd⟩ N D s' (cF N M (mJ l1)).1/\Mov σ6 σ' B s5 s'/\r'=n-M
     |e=>Wp aG ovD (T6k3 ((n:Nat):Int) (some ⟨A,0,some 0⟩) (some ⟨B,0,some 0⟩) e st') σ' fun _ vs σ'=>∃v,vs=[v]/\v=.bool true:=by
    intro k i0 e0;have b5:=pM (N:=N) M k (mJ l1);have e3:=a0 (M+k) e0;have e2:(cF N k (cF N M (mJ l1)).1).2=k:=by rw[b5]at e3;simp only at e3;omega
    have e1:(cF N k (cF N M (mJ l1)).1).1=(cF N (M+k) (mJ l1)).1:=by rw[b5]
    have f0:=oH (N:=N) M (mJ l1);simp only[wpS,T6k0];rw[aE];refine WpF.mono (wp_Run13 hg k7 (runM_ok hg M (new_ok hg l1)) d2 (yq M (wy l1)) (by rw[(qu (N:=N) M (mJ l1)).inp];show l1.length<=_;omega) (by rw[f0,hz];omega) ((k:Nat):Int) (by omega)) ?_;rintro v σ8 ⟨s8,rfl,k8,f5⟩;rw[show Int.toNat ((k:Nat):Int)=k from rfl,e1]at k8;rw[show Int.toNat ((k:Nat):Int)=k from rfl,e2];simp only[wpS];rw[aA,if_neg (by simp;omega)];have w1:aP (((M:Nat):Int)+((k:Nat):Int))=((M+k:Nat):Int):=by rw[aS (by omega)];omega
    have w2:aP (((i:Nat):Int)+1)=((i+1:Nat):Int):=by rw[aS (by omega)];omega
    simp only[wpS,T6k1,w1,w2];exact⟨n-(M+k),by omega,i+1,M+k,s8,rfl,by omega,e0,k8,d7.trans f5,rfl⟩
   have w3:aP (((n:Nat):Int)-((M:Nat):Int))=((n-M:Nat):Int):=by rw[aS (by omega)];omega
   rw[w3,aF,aF,aA];split
   ·simp only[wpS];exact go (n-M) (by omega) (by omega)
   ·rename_i hc;have hc:a2<=((n-M:Nat):Int):=by simpa using hc
    obtain⟨k,hk⟩:=Int.eq_ofNat_of_zero_le (by omega:0<=a2);subst hk;simp only[wpS];exact go k (by omega) (by omega)
  obtain rfl:M=n:=by omega
  rw[if_neg (by simp)];simp only[wpS,T6k3];have ho:=hb.out;have hc:=hb.cells;generalize (cF N M (mJ l1)).1=mm at*;rw[aA,if_pos (by simp),aE,WpF.eq (zJ h7)];simp only[wpS];rw[aA,if_pos (by simp;omega),aE,WpF.eq (zJ k7)];simp only[wpS];rw[aA,if_pos (by simp;omega),aE,WpF.eq (ui h7)];simp only[wpS];rw[aE,WpF.eq (ui k7)];simp only[wpS];rw[aA,if_pos (by simp),aE];refine wp_Out14 h7 (by omega) fun σ8 b8 p8 c8 e6 g0 g7=>?_;simp only[wpS];rw[aE];refine wp_Out14 (k7.frmN e6) (by omega) fun σ9 b9 p9 c9 e5 f9 g6=>?_;have b6:=e6.seq e5;have h9:=h7.frmN b6;have k9:=k7.frmN b6;have d9:SlE σ9 b8 p8 c8 1 (mm.out.map uO):=g0.frm e5 fun _ h=>h;simp only[wpS];rw[aE,WpF.eq (ev_outs15 (d9.row9 (Y:=NoB) fun _ h=>h).rdI9 (f9.row9 (Y:=NoB) fun _ h=>h).rdI9 (by omega))];simp only[wpS];rw[aA,if_pos (by simp),aE,WpF.eq (qp h9)];simp only[wpS];rw[aE,WpF.eq (qp k9)];simp only[wpS];rw[aA,if_pos (by simp),aE];refine zX h9 (by omega) fun σ10 p10 c10 d8=>?_;simp only[wpS];rw[aE];refine zX (k9.frmN d8) (by omega) fun σ11 p11 c11 f8=>?_;simp only[wpS,T6k2];exact⟨_,rfl,by simp⟩
 rw[aE,WpF.eq (wX a8.rdI9 b1)];simp only[wpS];rw[aA];split
 ·rename_i hi;obtain⟨_,c6⟩:=ua (by simpa using hi);rw[aE];refine WpF.mono (wp_Broad S a8 (by omega) b3) ?_;rintro _ σ1 ⟨⟨d,rfl⟩,a9⟩;simp only[wpS];exact main σ1 d (a9.fr b3) (vS a8 a9) (yj c0 a9)
 ·simp only[wpS];exact main σ false b3 a8 c0
end Go.Pg
namespace Go.Proofs
open Go.Shelf
def Tryz.laysLetter_ren:Go.Shelf.Ren:=⟨fun|200=>92|261=>115|311=>128|312=>129|n=>n,fun|21=>21|4=>4|51=>182|5=>5|119=>183|0=>0|141=>185|196=>203|193=>200|3=>3|198=>206|49=>204|194=>201|201=>209|226=>218|46=>87|227=>219|n=>n,fun|7=>0|8=>1|n=>n⟩
theorem Tryz.laysLetter:Go.Proofs.Lays.n200 Tryz.prog Tryz.laysLetter_ren:={
 mixed:=by kernel_rfl
 f200:=Tryz.func92.trans (congrArg some (by kernel_rfl))
 f261:=Tryz.func115.trans (congrArg some (by kernel_rfl))
 f311:=Tryz.func128.trans (congrArg some (by kernel_rfl))
 f312:=Tryz.func129.trans (congrArg some (by kernel_rfl))
 t0:=Tryz.underlying0
 a0:=Tryz.isAgg0
 z0:=Tryz.sizeOf0
 v0:=Tryz.zeroValue0
 t3:=Tryz.underlying3
 a3:=Tryz.isAgg3
 z3:=Tryz.sizeOf3
 v3:=Tryz.zeroValue3
 t4:=Tryz.underlying4
 a4:=Tryz.isAgg4
 z4:=Tryz.sizeOf4
 v4:=Tryz.zeroValue4
 t5:=Tryz.underlying5
 a5:=Tryz.isAgg5
 z5:=Tryz.sizeOf5
 v5:=Tryz.zeroValue5
 t21:=Tryz.underlying21
 a21:=Tryz.isAgg21
 z21:=Tryz.sizeOf21
 v21:=Tryz.zeroValue21
 t46:=Tryz.underlying87
 a46:=Tryz.isAgg87
 z46:=Tryz.sizeOf87
 v46:=Tryz.zeroValue87
 t49:=Tryz.underlying204
 a49:=Tryz.isAgg204
 z49:=Tryz.sizeOf204
 v49:=Tryz.zeroValue204
 t51:=Tryz.underlying182
 a51:=Tryz.isAgg182
 z51:=Tryz.sizeOf182
 v51:=Tryz.zeroValue182
 t119:=Tryz.underlying183
 a119:=Tryz.isAgg183
 z119:=Tryz.sizeOf183
 t141:=Tryz.underlying185
 a141:=Tryz.isAgg185
 z141:=Tryz.sizeOf185
 v141:=Tryz.zeroValue185
 t193:=Tryz.underlying200
 a193:=Tryz.isAgg200
 z193:=Tryz.sizeOf200
 v193:=Tryz.zeroValue200
 t194:=Tryz.underlying201
 a194:=Tryz.isAgg201
 z194:=Tryz.sizeOf201
 v194:=Tryz.zeroValue201
 t196:=Tryz.underlying203
 a196:=Tryz.isAgg203
 z196:=Tryz.sizeOf203
 v196:=Tryz.zeroValue203
 t198:=Tryz.underlying206
 a198:=Tryz.isAgg206
 z198:=Tryz.sizeOf206
 v198:=Tryz.zeroValue206
 t201:=Tryz.underlying209
 a201:=Tryz.isAgg209
 z201:=Tryz.sizeOf209
 v201:=Tryz.zeroValue209
 t226:=Tryz.underlying218
 a226:=Tryz.isAgg218
 z226:=Tryz.sizeOf218
 v226:=Tryz.zeroValue218
 t227:=Tryz.underlying219
 a227:=Tryz.isAgg219
 z227:=Tryz.sizeOf219
 v227:=Tryz.zeroValue219
 g7:=by kernel_rfl
 g8:=by kernel_rfl}
def Tryz.laysUpper_ren:Go.Shelf.Ren:=⟨fun|201=>94|261=>115|311=>128|312=>129|n=>n,fun|21=>21|4=>4|51=>182|5=>5|119=>183|0=>0|141=>185|196=>203|193=>200|3=>3|198=>206|49=>204|194=>201|201=>209|226=>218|46=>87|227=>219|n=>n,fun|7=>0|9=>2|n=>n⟩
theorem Tryz.laysUpper:Go.Proofs.Lays.n201 Tryz.prog Tryz.laysUpper_ren:={
 mixed:=by kernel_rfl
 f201:=Tryz.func94.trans (congrArg some (by kernel_rfl))
 f261:=Tryz.func115.trans (congrArg some (by kernel_rfl))
 f311:=Tryz.func128.trans (congrArg some (by kernel_rfl))
 f312:=Tryz.func129.trans (congrArg some (by kernel_rfl))
 t0:=Tryz.underlying0
 a0:=Tryz.isAgg0
 z0:=Tryz.sizeOf0
 v0:=Tryz.zeroValue0
 t3:=Tryz.underlying3
 a3:=Tryz.isAgg3
 z3:=Tryz.sizeOf3
 v3:=Tryz.zeroValue3
 t4:=Tryz.underlying4
 a4:=Tryz.isAgg4
 z4:=Tryz.sizeOf4
 v4:=Tryz.zeroValue4
 t5:=Tryz.underlying5
 a5:=Tryz.isAgg5
 z5:=Tryz.sizeOf5
 v5:=Tryz.zeroValue5
 t21:=Tryz.underlying21
 a21:=Tryz.isAgg21
 z21:=Tryz.sizeOf21
 v21:=Tryz.zeroValue21
 t46:=Tryz.underlying87
 a46:=Tryz.isAgg87
 z46:=Tryz.sizeOf87
 v46:=Tryz.zeroValue87
 t49:=Tryz.underlying204
 a49:=Tryz.isAgg204
 z49:=Tryz.sizeOf204
 v49:=Tryz.zeroValue204
 t51:=Tryz.underlying182
 a51:=Tryz.isAgg182
 z51:=Tryz.sizeOf182
 v51:=Tryz.zeroValue182
 t119:=Tryz.underlying183
 a119:=Tryz.isAgg183
 z119:=Tryz.sizeOf183
 t141:=Tryz.underlying185
 a141:=Tryz.isAgg185
 z141:=Tryz.sizeOf185
 v141:=Tryz.zeroValue185
 t193:=Tryz.underlying200
 a193:=Tryz.isAgg200
 z193:=Tryz.sizeOf200
 v193:=Tryz.zeroValue200
 t194:=Tryz.underlying201
 a194:=Tryz.isAgg201
 z194:=Tryz.sizeOf201
 v194:=Tryz.zeroValue201
 t196:=Tryz.underlying203
 a196:=Tryz.isAgg203
 z196:=Tryz.sizeOf203
 v196:=Tryz.zeroValue203
 t198:=Tryz.underlying206
 a198:=Tryz.isAgg206
 z198:=Tryz.sizeOf206
 v198:=Tryz.zeroValue206
 t201:=Tryz.underlying209
 a201:=Tryz.isAgg209
 z201:=Tryz.sizeOf209
 v201:=Tryz.zeroValue209
 t226:=Tryz.underlying218
 a226:=Tryz.isAgg218
 z226:=Tryz.sizeOf218
 v226:=Tryz.zeroValue218
 t227:=Tryz.underlying219
 a227:=Tryz.isAgg219
 z227:=Tryz.sizeOf219
 v227:=Tryz.zeroValue219
 g7:=by kernel_rfl
 g9:=by kernel_rfl}
def Tryz.laysDecode_ren:Go.Shelf.Ren:=⟨fun|197=>131|260=>143|n=>n,fun|9=>9|21=>21|3=>3|4=>4|5=>5|105=>143|119=>183|0=>0|46=>87|139=>224|138=>223|n=>n,fun|3=>3|4=>4|n=>n⟩
theorem Tryz.laysDecode:Go.Proofs.Lays.n197 Tryz.prog Tryz.laysDecode_ren:={
 mixed:=by kernel_rfl
 f197:=Tryz.func131.trans (congrArg some (by kernel_rfl))
 f260:=Tryz.func143.trans (congrArg some (by kernel_rfl))
 t0:=Tryz.underlying0
 a0:=Tryz.isAgg0
 z0:=Tryz.sizeOf0
 v0:=Tryz.zeroValue0
 t3:=Tryz.underlying3
 a3:=Tryz.isAgg3
 z3:=Tryz.sizeOf3
 v3:=Tryz.zeroValue3
 t4:=Tryz.underlying4
 a4:=Tryz.isAgg4
 z4:=Tryz.sizeOf4
 v4:=Tryz.zeroValue4
 t5:=Tryz.underlying5
 a5:=Tryz.isAgg5
 z5:=Tryz.sizeOf5
 v5:=Tryz.zeroValue5
 t9:=Tryz.underlying9
 a9:=Tryz.isAgg9
 z9:=Tryz.sizeOf9
 v9:=Tryz.zeroValue9
 t21:=Tryz.underlying21
 a21:=Tryz.isAgg21
 z21:=Tryz.sizeOf21
 v21:=Tryz.zeroValue21
 t46:=Tryz.underlying87
 a46:=Tryz.isAgg87
 z46:=Tryz.sizeOf87
 v46:=Tryz.zeroValue87
 t105:=Tryz.underlying143
 a105:=Tryz.isAgg143
 z105:=Tryz.sizeOf143
 v105:=Tryz.zeroValue143
 t119:=Tryz.underlying183
 a119:=Tryz.isAgg183
 z119:=Tryz.sizeOf183
 t138:=Tryz.underlying223
 a138:=Tryz.isAgg223
 z138:=Tryz.sizeOf223
 v138:=Tryz.zeroValue223
 t139:=Tryz.underlying224
 a139:=Tryz.isAgg224
 z139:=Tryz.sizeOf224
 v139:=Tryz.zeroValue224
 g3:=by kernel_rfl
 g4:=by kernel_rfl}
end Go.Proofs
