/- ParB, ParC, ParE, McA, ParD, LxA, LxB, LxC, LxD, RdA, RdB, RdC, RdD, RdE, RdF, RdG, RdH, GRow, EmA, RdI, FlA -/
import Derived.Test.YtkbefekajgfldaaGreatDoorU4
set_option maxHeartbeats 1000000
namespace Go.Pg
mutual
def szT:Tm->Nat
 |.mk _ l=>1+szL l
def szL:List Tm->Nat
 |[]=>0
 |t::l=>szT t+szL l
end
theorem szT_eq(t:Tm):szT t=1+szL t.args:=by
 cases t with
 |mk a l=>rw[szT];try rfl
theorem tS:∀(a b:List Tm),szL (a++b)=szL a+szL b
 |[],b=>by simp[szL]
 |t::a,b=>by rw[List.cons_append,szL,szL,tS a b,Nat.add_assoc]
theorem oC(t:Tm):szL [t]=szT t:=by simp[szL]
theorem szL_two(t u:Tm):szL [t,u]=szT t+szT u:=by simp[szL]
theorem szL_three(t u v:Tm):szL [t,u,v]=szT t+szT u+szT v:=by simp[szL,Nat.add_assoc]
theorem szT_pos(t:Tm):1<=szT t:=by rw[szT_eq];omega
theorem szL_len:∀l:List Tm,l.length<=szL l
 |[]=>Nat.zero_le _
 |t::l=>by have:=szT_pos t;have:=szL_len l;rw[szL,List.length_cons];omega
section
variable{ws:List Wd}{e:Nat}
theorem dQ{s:List UInt8}{r:Rs}(h:(bQ ws e s r).bad=false):r.bad=false/\(bQ ws e s r).p=r.p+1:=by
 unfold bQ at h ⊢;split at h
 ·rename_i hm;rw[if_pos hm];exact⟨(bA hm).1,rfl⟩
 ·cases h
theorem tH{k:Int}{r:Rs}(h:(bK ws e k r).2.bad=false):r.bad=false/\(bK ws e k r).2.p=r.p+1:=by
 unfold bK at h ⊢;split at h
 ·cases h
 ·rename_i hm;rw[if_neg hm];simp only[not_or,Bool.not_eq_true]at hm;exact⟨hm.1,rfl⟩
def Fn.acc:Fn->Nat
 |.sumL a|.mulL a|.appL a|.conL a|.patL a=>szT a+1
 |.armL k _=>szL k+2
 |_=>0
theorem nS(k:Int)(nm:List UInt8)(a b:Tm):szT (two k nm a b)=1+szT a+szT b:=by unfold two;rw[szT,szL_two,Nat.add_assoc]
theorem szT_add(a b:Tm):szT (addT a b)=szT a+szT b:=by unfold addT;rw[szT,tS,oC,szT_eq a,Nat.add_assoc]
theorem uG(k n:Int)(nm:List UInt8)(r:Rs):szT (jZ ws e k n nm r)=1:=by unfold jZ;rw[szT,szL]
theorem szT_end(a:Tm)(r:Rs):szT (endT ws e a r)=szT a:=by unfold endT;rw[szT,szT_eq a]
theorem parse_size:∀(n:Nat) (f:Fn) (r:Rs) (x:Tm×Rs),Pre ws f r->parse ws e n f r=some x->x.2.bad=false->r.bad=false/\szT x.1+1+2*r.p<=f.acc+2*x.2.p:=by
 intro n;induction n with
 |zero=>intro f r x _ h;cases h
 |succ n ih=>
  have g:∀{f r x},parse ws e n f r=some x->x.2.bad=false->(hp:Pre ws f r:=by trivial)->r.bad=false/\szT x.1+1+2*r.p<=f.acc+2*x.2.p:=fun h hb hp=>ih _ _ _ hp h hb;have nx:∀r:Rs,r.next.p=r.p+1:=fun _=>rfl;have nb:∀r:Rs,r.next.bad=r.bad:=fun _=>rfl;intro f r x hp h hb;cases f with
  |expr=>
   rw[parse]at h;obtain⟨a,h1,h⟩:=aW h;split at h
   ·obtain⟨b,h2,h⟩:=aW h;have hx:=ofS h;subst hx;obtain⟨k1,k2⟩:=g h2 hb;obtain⟨k3,k4⟩:=g h1 k1;simp only[Fn.acc,nx,nS]at k2 k4 ⊢;exact⟨k3,by omega⟩
   ·have hx:=ofS h;subst hx;exact(g h1 hb:)
  |set=>
   rw[parse]at h;obtain⟨a,h1,h⟩:=aW h;split at h
   ·obtain⟨b,h2,h⟩:=aW h;have hx:=ofS h;subst hx;obtain⟨k1,k2⟩:=g h2 hb;obtain⟨k3,k4⟩:=g h1 k1;simp only[Fn.acc,nx,nS]at k2 k4 ⊢;exact⟨k3,by omega⟩
   ·have hx:=ofS h;subst hx;exact(g h1 hb:)
  |cmp=>
   rw[parse]at h;obtain⟨a,h1,h⟩:=aW h;split at h
   ·obtain⟨b,h2,h⟩:=aW h;have hx:=ofS h;subst hx;obtain⟨k1,k2⟩:=g h2 hb;obtain⟨k3,k4⟩:=g h1 k1;simp only[Fn.acc,nx,nS]at k2 k4 ⊢;exact⟨k3,by omega⟩
   ·split at h
    ·obtain⟨b,h2,h⟩:=aW h;have hx:=ofS h;subst hx;obtain⟨k1,k2⟩:=g h2 hb;obtain⟨k3,k4⟩:=g h1 k1;simp only[Fn.acc,nx,nS]at k2 k4 ⊢;exact⟨k3,by omega⟩
    ·have hx:=ofS h;subst hx;exact(g h1 hb:)
  |sum|mul|app=>rw[parse]at h;obtain⟨a,h1,h⟩:=aW h;obtain⟨k1,k2⟩:=g h hb;obtain⟨k3,k4⟩:=g h1 k1;simp only[Fn.acc]at k2 k4 ⊢;exact⟨k3,by omega⟩
  |sumL a=>
   rw[parse]at h;split at h
   ·have hx:=ofS h;subst hx;exact⟨hb,by simp only[Fn.acc];omega⟩
   ·split at h
    ·obtain⟨b,h2,h⟩:=aW h;obtain⟨k1,k2⟩:=g h hb;obtain⟨k3,k4⟩:=g h2 k1;simp only[Fn.acc,nx,nS]at k2 k4 ⊢;exact⟨k3,by omega⟩
    ·split at h
     ·obtain⟨b,h2,h⟩:=aW h;obtain⟨k1,k2⟩:=g h hb;obtain⟨k3,k4⟩:=g h2 k1;simp only[Fn.acc,nx,nS]at k2 k4 ⊢;exact⟨k3,by omega⟩
     ·have hx:=ofS h;subst hx;exact⟨hb,by simp only[Fn.acc];omega⟩
  |mulL a|appL a|conL a|patL a=>
   rw[parse]at h;split at h
   ·obtain⟨b,h2,h⟩:=aW h;obtain⟨k1,k2⟩:=g h hb;obtain⟨k3,k4⟩:=g h2 k1;simp only[Fn.acc,nx,nS,szT_add]at k2 k4 ⊢;exact⟨k3,by omega⟩
   ·have hx:=ofS h;subst hx;exact⟨hb,by simp only[Fn.acc];omega⟩
  |armL k more=>
   rw[parse]at h;split at h
   ·obtain⟨a,h1,h⟩:=aW h;obtain⟨b,h2,h⟩:=aW h;obtain⟨k1,k2⟩:=g h hb;have k3:b.2.bad=false:=by
     split at k1
     ·exact k1
     ·exact k1
    obtain⟨k4,k5⟩:=g h2 k3;obtain⟨k6,k7⟩:=dQ k4;obtain⟨k8,k9⟩:=g h1 k6;simp only[Fn.acc,tS,oC,k7]at k2 k5 k9 ⊢;refine⟨k8,?_⟩;split at k2
    ·rw[nx]at k2;omega
    ·omega
   ·have hx:=ofS h;subst hx;refine⟨hb,?_⟩;simp only[Fn.acc,szT];omega
  |pre=>
   rw[parse]at h;split at h
   ·obtain⟨a,h1,h⟩:=aW h;have hx:=ofS h;subst hx;obtain⟨k1,k2⟩:=g h1 hb;simp only[Fn.acc,nx,szT,oC]at k2 ⊢;exact⟨k1,by omega⟩
   ·exact(g h hb:)
  |atom=>
   rw[parse]at h;split at h
   ·rename_i a0;have hl:=jU a0;have one:∀{k n:Int} {nm:List UInt8},x=(jZ ws e k n nm r,r.next)->r.bad=false/\szT x.1+1+2*r.p<=0+2*x.2.p:=fun hx=>by subst hx;exact⟨hl.1,by rw[uG];simp only[nx];omega⟩
    split at h
    ·exact one (ofS h)
    ·split at h
     ·exact one (ofS h)
     ·split at h
      ·exact(g h hb ⟨hl.2,hl.1⟩:)
      ·split at h
       ·exact one (ofS h)
       ·split at h
        ·exact one (ofS h)
        ·split at h
         ·exact one (ofS h)
         ·split at h
          ·exact(g h hb hl.1:)
          ·exact(g h hb:)
   ·have hx:=ofS h;subst hx;cases hb
  |con=>
   rw[parse]at h;split at h
   ·obtain⟨b,h1,h⟩:=aW h;obtain⟨c,h2,h⟩:=aW h;have hx:=ofS h;subst hx;obtain⟨k0,k1⟩:=dQ hb;obtain⟨k2,k3⟩:=g h2 k0;obtain⟨k4,k5⟩:=g h1 k2;simp only[Fn.acc,nx,szT_add,uG,szT_end,k1]at k3 k5 ⊢;exact⟨hp.2,by omega⟩
   ·have hx:=ofS h;subst hx;exact⟨hp.2,by rw[uG];simp only[nx,Fn.acc];omega⟩
  |bracket=>
   rw[parse]at h;split at h
   ·have hx:=ofS h;subst hx;obtain⟨k1,k2⟩:=dQ (e:=e) hb;simp only[Fn.acc,nx,szT,szL,k2];exact⟨k1,by omega⟩
   ·obtain⟨a,h1,h⟩:=aW h;have hx:=ofS h;subst hx;obtain⟨k0,k1⟩:=dQ hb;obtain⟨k2,k3⟩:=g h1 k0;obtain⟨k4,k5⟩:=dQ k2;simp only[Fn.acc,k1,k5]at k3 ⊢;exact⟨k4,by omega⟩
  |pat=>
   rw[parse]at h;have one:∀{k n:Int} {nm:List UInt8},r.bad=false->some (jZ ws e k n nm r,r.next)=some x->r.bad=false/\szT x.1+1+2*r.p<=0+2*x.2.p:=fun hr hx=>by have hx:=ofS hx;subst hx;exact⟨hr,by rw[uG];simp only[nx];omega⟩
   by_cases c1:r.bad=true
   ·rw[if_pos c1]at h;have hx:=ofS h;subst hx;cases hb
   have hr:r.bad=false:=Bool.not_eq_true _▸c1;rw[if_neg c1]at h;by_cases c2:(wdM ws e r.p).k=2/\(wdM ws e r.p).t=[95]
   ·rw[if_pos c2]at h;exact one hr h
   rw[if_neg c2]at h;by_cases c3:(wdM ws e r.p).k=2
   ·rw[if_pos c3]at h;exact one hr h
   rw[if_neg c3]at h;by_cases c4:(wdM ws e r.p).k=1
   ·rw[if_pos c4]at h;exact one hr h
   rw[if_neg c4]at h;by_cases c5:(wdM ws e r.p).k=4/\(wdM ws e r.p).t=tA
   ·rw[if_pos c5]at h;exact one hr h
   rw[if_neg c5]at h;by_cases c6:(wdM ws e r.p).k=4/\(wdM ws e r.p).t=oK
   ·rw[if_pos c6]at h;exact one hr h
   rw[if_neg c6]at h;by_cases c7:isM ws e [40] r=true
   ·rw[if_pos c7]at h;by_cases c8:(bQ ws e [41] r.next).bad=true
    ·rw[if_pos c8]at h;have hx:=ofS h;subst hx;cases hb
    ·rw[if_neg c8]at h;have hx:=ofS h;subst hx;obtain⟨k0,k1⟩:=dQ (Bool.not_eq_true _▸c8);simp only[Fn.acc,nx,szT,szL,k1];exact⟨hr,by omega⟩
   rw[if_neg c7]at h;by_cases c8:(wdM ws e r.p).k=3
   ·rw[if_pos c8]at h;by_cases c9:isM ws e [40] r.next=true
    ·rw[if_pos c9]at h;obtain⟨b,h1,h⟩:=aW h;obtain⟨c,h2,h⟩:=aW h;have hq:x.2=bQ ws e [41] c.2/\szT x.1=szT c.1:=by
      by_cases c10:(bQ ws e [41] c.2).bad=true
      ·rw[if_pos c10]at h;have hx:=ofS h;subst hx;exact⟨rfl,rfl⟩
      ·rw[if_neg c10]at h;have hx:=ofS h;subst hx;exact⟨rfl,szT_end _ _⟩
     rw[hq.1]at hb ⊢;obtain⟨k0,k1⟩:=dQ hb;obtain⟨k2,k3⟩:=g h2 k0;obtain⟨k4,k5⟩:=g h1 k2;rw[hq.2,k1];simp only[Fn.acc,nx,szT_add,uG]at k3 k5 ⊢;exact⟨hr,by omega⟩
    ·rw[if_neg c9]at h;exact one hr h
   rw[if_neg c8]at h;have hx:=ofS h;subst hx;cases hb
  |long=>
   rw[parse]at h;obtain⟨y,h1,h⟩:=aW h;have hy:y.2.2.bad=false->r.bad=false/\(y.2.1≠[]->szL y.2.1+2+2*r.p<=2*y.2.2.p):=by
    intro hb;unfold oT at h1;split at h1
    ·obtain⟨a,h2,h1⟩:=aW h1;have hx:=ofS h1;subst hx;obtain⟨k1,k2⟩:=g h2 hb;obtain⟨k3,k4⟩:=dQ k1;obtain⟨k5,k6⟩:=tH k3;simp only[Fn.acc,nx,k4,k6,oC]at k2 ⊢;exact⟨k5,fun _=>by omega⟩
    ·split at h1
     ·obtain⟨z,h2,h1⟩:=aW h1;obtain⟨a,h3,h1⟩:=aW h1;obtain⟨b,h4,h1⟩:=aW h1;have hx:=ofS h1;subst hx;obtain⟨k1,k2⟩:=g h4 hb;obtain⟨k3,k4⟩:=dQ k1;obtain⟨k5,k6⟩:=g h3 k3;obtain⟨k7,k8⟩:=dQ k5;have hz:r.bad=false/\r.p+2<=z.2.2.2.p:=by
       split at h2
       ·have hx:=ofS h2;subst hx;obtain⟨q1,q2⟩:=tH k7;obtain⟨q3,q4⟩:=tH q1;simp only[nx,q2,q4]at*;exact⟨q3,by omega⟩
       ·have hx:=ofS h2;subst hx;obtain⟨q1,q2⟩:=tH k7;simp only[nx,q2]at*;exact⟨q1,by omega⟩
      simp only[Fn.acc,k4,k8,szL_two]at k2 k6 ⊢;exact⟨hz.1,fun _=>by omega⟩
     ·split at h1
      ·obtain⟨a,h2,h1⟩:=aW h1;obtain⟨b,h3,h1⟩:=aW h1;obtain⟨c,h4,h1⟩:=aW h1;have hx:=ofS h1;subst hx;obtain⟨k1,k2⟩:=g h4 hb;obtain⟨k3,k4⟩:=dQ k1;obtain⟨k5,k6⟩:=g h3 k3;obtain⟨k7,k8⟩:=dQ k5;obtain⟨k9,k10⟩:=g h2 k7;simp only[Fn.acc,nx,k4,k8,szL_three]at k2 k6 k10 ⊢;exact⟨k9,fun _=>by omega⟩
      ·split at h1
       ·obtain⟨a,h2,h1⟩:=aW h1;obtain⟨b,h3,h1⟩:=aW h1;have hx:=ofS h1;subst hx;obtain⟨k1,k2⟩:=dQ hb;obtain⟨k3,k4⟩:=g h3 k1;obtain⟨k5,k6⟩:=dQ k3;obtain⟨k7,k8⟩:=g h2 k5;simp only[Fn.acc,nx,k2,k6,oC,szT_eq b.1]at k4 k8 ⊢;exact⟨k7,fun _=>by omega⟩
       ·split at h1
        ·obtain⟨a,h2,h1⟩:=aW h1;obtain⟨b,h3,h1⟩:=aW h1;have hx:=ofS h1;subst hx;obtain⟨k1,k2⟩:=dQ hb;obtain⟨k3,k4⟩:=g h3 k1;obtain⟨k5,k6⟩:=dQ k3;obtain⟨k7,k8⟩:=tH k5;obtain⟨k9,k10⟩:=dQ k7;obtain⟨k11,k12⟩:=g h2 k9;simp only[Fn.acc,nx,k2,k6,k8,k10,szL_two]at k4 k12 ⊢;exact⟨k11,fun _=>by omega⟩
        ·have hx:=ofS h1;subst hx;exact⟨hb,fun h=>absurd rfl h⟩
   split at h
   ·have hx:=ofS h;subst hx;cases hb
   ·rename_i hn;have hx:=ofS h;subst hx;obtain⟨k1,k2⟩:=hy hb;have k3:=k2 fun hh=>hn (.inr hh);simp only[Fn.acc,szT];exact⟨k1,by omega⟩
end
structure Cn where
 nm:List UInt8
 args:List (List UInt8)
structure Dc where
 nm:List UInt8
 cons:List Cn
structure NV where
 x:Nd
 kids:List Nat
section
variable(ws:List Wd)(e:Nat)
def pN:Nat->List (List UInt8)->Rs->Option (List (List UInt8)×Rs)
 |0,_,_=>none
 |n+1,l,r=>if isM ws e [44] r=true then pN n (l++[(bK ws e 2 r.next).1]) (bK ws e 2 r.next).2 else some (l,r)
def pB:Nat->List Cn->Bool->Rs->Option (List Cn×Rs)
 |0,_,_,_=>none
 |n+1,l,more,r=>
  if more=true/\r.bad=false then
   (if isM ws e kOf (bK ws e 3 r).2=true then pN ws e n [(bK ws e 2 (bK ws e 3 r).2.next).1] (bK ws e 2 (bK ws e 3 r).2.next).2 else some ([],(bK ws e 3 r).2)).bind fun a=>
    pB n (l++[⟨(bK ws e 3 r).1,a.1⟩]) (isM ws e [124] a.2) (if isM ws e [124] a.2=true then a.2.next else a.2)
  else some (l,r)
def jL:Nat->List Dc->Rs->Option (List Dc×Rs)
 |0,_,_=>none
 |n+1,l,r=>
  if isM ws e kType r=true then
   (pB ws e n [] true (bQ ws e [61] (bK ws e 2 r.next).2)).bind fun a=>jL n (l++[⟨(bK ws e 2 r.next).1,a.1⟩]) (bQ ws e kIn a.2)
  else some (l,r)
end
section
variable{ws:List Wd}{e:Nat}
theorem yg:∀(n:Nat) (l:List (List UInt8)) (r:Rs) (x),pN ws e n l r=some x->Go1 ws r x.2
 |0,_,_,_,h=>by cases h
 |n+1,l,r,x,h=>by
  unfold pN at h;split at h
  ·rename_i hm;exact(Go1.next (bA hm).2).trans ((cG (by decide) _).1.trans (yg n _ _ _ h))
  ·cases ofS h;exact Go1.refl _
theorem tJ:∀(n:Nat) (l:List Cn) (more:Bool) (r:Rs) (x),pB ws e n l more r=some x->Go1 ws r x.2
 |0,_,_,_,_,h=>by cases h
 |n+1,l,more,r,x,h=>by
  unfold pB at h;split at h
  ·obtain⟨a,h1,h⟩:=aW h;have h2:=tJ n _ _ _ _ h;have h3:Go1 ws r a.2:=by
    split at h1
    ·rename_i hm;exact(cG (by decide) _).1.trans ((Go1.next (bA hm).2).trans ((cG (by decide) _).1.trans (yg _ _ _ _ h1)))
    ·cases ofS h1;exact(cG (by decide) _).1
   split at h2
   ·rename_i hm;exact h3.trans ((Go1.next (bA hm).2).trans h2)
   ·exact h3.trans h2
  ·cases ofS h;exact Go1.refl _
theorem qr:∀(n:Nat) (l:List Dc) (r:Rs) (x),jL ws e n l r=some x->Go1 ws r x.2
 |0,_,_,_,h=>by cases h
 |n+1,l,r,x,h=>by
  unfold jL at h;split at h
  ·rename_i hm;obtain⟨a,h1,h⟩:=aW h;exact(Go1.next (bA hm).2).trans ((cG (by decide) _).1.trans ((bJ _ _).1.trans ((tJ _ _ _ _ _ h1).trans ((bJ _ _).1.trans (qr n _ _ _ h)))))
  ·cases ofS h;exact Go1.refl _
theorem zg:∀(n:Nat) (l:List (List UInt8)) (r:Rs),r.p<=ws.length->left ws r<n->∃x,pN ws e n l r=some x
 |0,_,_,_,h=>by omega
 |n+1,l,r,hr,h=>by
  unfold pN;split
  ·rename_i hm;have h2:=(Go2.next (bA hm).2).then (cG (e:=e) (k:=2) (by decide) _).1;exact zg n _ _ (h2.1.len hr) (by have:=mP h2 (bA hm).1 hr;omega)
  ·exact⟨_,rfl⟩
theorem sH:∀(n:Nat) (l:List Cn) (more:Bool) (r:Rs),r.p<=ws.length->left ws r<n->∃x,pB ws e n l more r=some x
 |0,_,_,_,_,h=>by omega
 |n+1,l,more,r,hr,h=>by
  unfold pB;split
  ·rename_i hm;have h0:=cG (ws:=ws) (e:=e) (k:=3) (by decide) r;have l0:=mP h0 hm.2 hr;have key:∀{a:List (List UInt8)×Rs},(if isM ws e kOf (bK ws e 3 r).2=true then pN ws e n [(bK ws e 2 (bK ws e 3 r).2.next).1] (bK ws e 2 (bK ws e 3 r).2.next).2 else some ([],(bK ws e 3 r).2))=some a->Go2 ws r a.2:=fun h1=>by
    split at h1
    ·rename_i hm;exact h0.then ((Go1.next (bA hm).2).trans ((cG (by decide) _).1.trans (yg _ _ _ _ h1)))
    ·cases ofS h1;exact h0
   refine cY ?_ fun a h1=>?_
   ·split
    ·rename_i a0;have h2:=h0.then ((Go1.next (bA a0).2).trans (cG (e:=e) (k:=2) (by decide) _).1);exact zg n _ _ (h2.1.len hr) (by have:=mP h2 hm.2 hr;omega)
    ·exact⟨_,rfl⟩
   ·have h2:=key h1;split
    ·rename_i a0;have h3:=h2.then (Go1.next (bA a0).2);exact sH n _ _ _ (h3.1.len hr) (by have:=mP h3 hm.2 hr;omega)
    ·exact sH n _ _ _ (h2.1.len hr) (by have:=mP h2 hm.2 hr;omega)
  ·exact⟨_,rfl⟩
theorem xK:∀(n:Nat) (l:List Dc) (r:Rs),r.p<=ws.length->left ws r<n->∃x,jL ws e n l r=some x
 |0,_,_,_,h=>by omega
 |n+1,l,r,hr,h=>by
  unfold jL;split
  ·rename_i hm;have h2:=(Go2.next (bA hm).2).then ((cG (e:=e) (k:=2) (by decide) _).1.trans (bJ (e:=e) [61] _).1);refine cY (sH n _ _ _ (h2.1.len hr) (by have:=mP h2 (bA hm).1 hr;omega)) fun a h1=>?_;have h3:=h2.then ((tJ _ _ _ _ _ h1).trans (bJ (e:=e) kIn _).1);exact xK n _ _ (h3.1.len hr) (by have:=mP h3 (bA hm).1 hr;omega)
  ·exact⟨_,rfl⟩
end
def fM:Nat->List Tm->List Nat
 |_,[]=>[]
 |p,t::l=>p::fM (p+szT t) l
mutual
def flT(p:Nat):Tm->List NV
 |.mk x l=>⟨x,fM (p+1) l⟩::flL (p+1) l
def flL(p:Nat):List Tm->List NV
 |[]=>[]
 |t::l=>flT p t++flL (p+szT t) l
end
mutual
def dpT(p deep:Nat)(cur:Int):Tm->Int
 |.mk x l=>dpL (p+1) (deep+1) (if cur<0/\(1000<=p\/60<deep) then x.fr else cur) l
def dpL(p deep:Nat)(cur:Int):List Tm->Int
 |[]=>cur
 |t::l=>dpL (p+szT t) deep (dpT p deep cur t) l
end
mutual
theorem flT_len(p:Nat):∀t:Tm,(flT p t).length=szT t
 |.mk x l=>by rw[flT,szT,List.length_cons,flL_len (p+1) l,Nat.add_comm]
theorem flL_len(p:Nat):∀l:List Tm,(flL p l).length=szL l
 |[]=>rfl
 |t::l=>by rw[flL,szL,List.length_append,flT_len p t,flL_len _ l]
end
theorem oL:∀(l:List Tm) (p:Nat),(fM p l).length=l.length
 |[],_=>rfl
 |t::l,p=>by rw[fM,List.length_cons,oL l,List.length_cons]
def xR(k:Int)(s:List UInt8):Bool:=if 4000<s.length then false else match zq s with
 |.ok [w]=>decide (w.k=k)&&decide (w.t=s)
 |_=>false
def uJ(s:List UInt8):Bool:=xR 2 s&&decide (s≠[95])
def conM(s:List UInt8):Bool:=xR 3 s
def eT:List Int:=[-1,0,0,0,0,-2,1,2,2,2,3,-3,2,2,2,1,1,1,0,1,2,0,0,0,0,0,-2]
def lN(k:Int)(n:Nat):Bool:=
 if eT.getD k.toNat 0= -2 then decide (n<=3) else if eT.getD k.toNat 0= -3 then decide (3<=n)&&decide (n%2=1) else decide ((n:Int)=eT.getD k.toNat 0)
def nK(k n:Int):Bool:=
 if k=1\/k=23 then decide (0<=n)&&decide (n<=4611686018427387903) else if k=2\/k=24 then decide (n=0)||decide (n=1) else decide (n=0)
def kK(k:Int)(nm:List UInt8):Bool:=
 if k=4\/k=8\/k=9\/k=22 then uJ nm else if k=5\/k=26 then conM nm
 else if k=14 then decide (nm=[43])||decide (nm=[45])||decide (nm=[42])||decide (nm=[60])||decide (nm=[61]) else decide (nm=[])
def tK(k:Int)(pm:List UInt8):Bool:=if k=6\/k=9\/k=20 then uJ pm else decide (pm=[])
def bT(v:NV):Bool:=decide (1<=v.x.k)&&decide (v.x.k<=26)&&lN v.x.k v.kids.length&&nK v.x.k v.x.n&&kK v.x.k v.x.nm&&tK v.x.k v.x.pm
def ofC(s:List UInt8):Nat->List Cn->Option (Nat×Nat)
 |_,[]=>none
 |c,x::l=>if x.nm=s then some (c,x.args.length) else ofC s (c+1) l
def ofD(s:List UInt8):Nat->List Dc->Option (Nat×Nat×Nat)
 |_,[]=>none
 |d,x::l=>match ofC s 0 x.cons with
  |some (c,n)=>some (d,c,n)
  |none=>ofD s (d+1) l
def cP:List (List UInt8)->Bool
 |[]=>false
 |s::l=>l.contains s||cP l
section
variable(N:List NV)(D:List Dc)
def bN:Nat->Nat->List (List UInt8)
 |0,_=>[]
 |n+1,p=>match N[p]? with
  |none=>[]
  |some v=>if v.x.k=22 then [v.x.nm] else v.kids.flatMap fun k=>if p<k/\k<N.length/\v.x.k=26 then bN n k else []
def gN(q:Nat->Bool->Option Nat)(pat:Nat->Bool):List Nat->Nat->Nat->Option Nat
 |[],_,next=>some next
 |k::l,i,next=>if k=next then(q next (pat i)).bind fun next=>gN q pat l (i+1) next else none
def bY:Nat->Nat->Bool->Option Nat
 |0,_,_=>none
 |n+1,p,pat=>match N[p]? with
  |none=>none
  |some v=>
   if bT v=true/\decide (v.x.k>20)=pat/\(v.x.k=5\/v.x.k=26->∃x,ofD v.x.nm 0 D=some x/\x.2.2=v.kids.length) then
    (gN (bY n) (fun i=>pat||(decide (v.x.k=11)&&decide (i%2=1))) v.kids 0 (p+1)).bind fun next=>
     if v.x.k=11/\∃i,i<v.kids.length/\i%2=1/\cP (bN N N.length (v.kids.getD i 0))=true then none else some next
   else none
def eG(s:List UInt8):Bool:=decide (s=[105,110,116])||decide (s=[98,111,111,108])||decide (s=[117,110,105,116])
def eH:Bool:=
 D.all (fun d=>uJ d.nm&&!eG d.nm&&decide (1<=d.cons.length)&&decide (d.cons.length<=20)&&d.cons.all fun c=>conM c.nm&&decide (c.args.length<=3))
 &&decide (D.length<=20)&&!cP (D.map (·.nm))&&!cP (D.flatMap fun d=>d.cons.map (·.nm))
 &&D.all fun d=>d.cons.all fun c=>c.args.all fun a=>(D.map (·.nm)).contains a||eG a
def oO:Bool:=decide (1<=N.length)&&decide (N.length<=1000)&&eH D&&decide (bY N D 60 0 false=some N.length)
end
def zj(S:List UInt8):Option (List NV×List Dc):=match zq S with
 |.error _=>none
 |.ok ws=>(jL ws S.length (ws.length+2) [] ⟨0,false⟩).bind fun d=>(parse ws S.length ((ws.length+2)*16) .expr d.2).bind fun t=>
  if t.2.bad=true\/t.2.p<ws.length then none
  else if 0<=dpT 0 1 (-1) t.1 then none
  else if oO (flT 0 t.1) d.1=true then some (flT 0 t.1,d.1) else none
structure NodeOK(N:List NV)(D:List Dc)(i:Nat)(v:NV):Prop where
 shape:bT v=true
 con:v.x.k=5\/v.x.k=26->∃x,ofD v.x.nm 0 D=some x/\x.2.2=v.kids.length
 kid:∀j (h:j<v.kids.length),i<v.kids[j]/\∃u,N[v.kids[j]]?=some u/\decide (u.x.k>20)=(decide (v.x.k>20)||(decide (v.x.k=11)&&decide (j%2=1)))
 arms:v.x.k=11->∀j (h:j<v.kids.length),j%2=1->cP (bN N N.length v.kids[j])=false
section
variable{N:List NV}{D:List Dc}
theorem rB{q:Nat->Bool->Option Nat}{R:Nat->Prop}{S:Nat->Bool->Prop}(hq:∀p b e,q p b=some e->p<e/\S p b/\∀i,p<=i->i<e->R i)(pat:Nat->Bool):
  ∀(l:List Nat) (i next e:Nat),gN q pat l i next=some e->next<=e/\(∀j (h:j<l.length),next<=l[j]/\l[j]<e/\S l[j] (pat (i+j)))/\∀j,next<=j->j<e->R j
 |[],i,next,e,h=>by cases ofS h;exact⟨Nat.le_refl _,fun j h=>absurd h (Nat.not_lt_zero _),fun j h1 h2=>by omega⟩
 |k::l,i,next,e,h=>by
  rw[gN]at h;split at h
  ·rename_i hk;subst hk;obtain⟨a,h1,h⟩:=aW h;obtain⟨p1,p2,p3⟩:=hq _ _ _ h1;obtain⟨q1,q2,q3⟩:=rB hq pat l (i+1) a e h;refine⟨by omega,?_,?_⟩
   ·intro j hj;cases j with
    |zero=>exact⟨Nat.le_refl _,by simp only[List.getElem_cons_zero];omega,p2⟩
    |succ j=>obtain⟨r1,r2,r3⟩:=q2 j (by simpa using hj);simp only[List.getElem_cons_succ];exact⟨by omega,r2,by rw[show i+(j+1)=i+1+j by omega];exact r3⟩
   ·intro j h1 h2;by_cases h3:j<a
    ·exact p3 j h1 h3
    ·exact q3 j (by omega) h2
  ·cases h
theorem jD:∀(n p:Nat) (pat:Bool) (e:Nat),bY N D n p pat=some e->p<e/\(∃v,N[p]?=some v/\decide (v.x.k>20)=pat)/\∀i,p<=i->i<e->∃v,N[i]?=some v/\NodeOK N D i v
 |0,_,_,_,h=>by cases h
 |n+1,p,pat,e,h=>by
  rw[bY]at h;split at h
  ·cases h
  ·rename_i v hv;split at h
   ·rename_i hs;obtain⟨a,h1,h⟩:=aW h;split at h
    ·cases h
    ·rename_i ht;have hx:=ofS h;subst hx;obtain⟨q1,q2,q3⟩:=rB (R:=fun i=>∃v,N[i]?=some v/\NodeOK N D i v) (S:=fun p b=>∃v,N[p]?=some v/\decide (v.x.k>20)=b) (jD n) _ _ _ _ _ h1;refine⟨by omega,⟨v,hv,hs.2.1⟩,fun i h2 h3=>?_⟩;by_cases h4:i=p
     ·subst h4;refine⟨v,hv,hs.1,hs.2.2,?_,?_⟩
      ·intro j hj;obtain⟨r1,r2,u,r3,r4⟩:=q2 j hj;refine⟨by omega,u,r3,?_⟩;rw[r4,hs.2.1,Nat.zero_add]
      ·intro a0 j hj h5;cases h6:cP (bN N N.length v.kids[j])with
       |false=>rfl
       |true=>exact absurd ⟨a0,j,hj,h5,by simpa[List.getD,hj]using h6⟩ ht
     ·exact q3 i (by omega) h3
   ·cases h
structure bZ(N:List NV)(D:List Dc):Prop where
 pos:1<=N.length
 most:N.length<=1000
 types:eH D=true
 node:∀i (h:i<N.length),NodeOK N D i N[i]
 walk:bY N D 60 0 false=some N.length
 root:∀h:0<N.length,¬N[0].x.k>20
theorem good_of(h:oO N D=true):bZ N D:=by
 unfold oO at h;simp only[Bool.and_eq_true,decide_eq_true_eq]at h;obtain⟨⟨⟨h1,h2⟩,h3⟩,h4⟩:=h;obtain⟨p1,⟨v,p2,p3⟩,p4⟩:=jD _ _ _ _ h4;refine⟨h1,h2,h3,fun i hi=>?_,h4,fun h=>?_⟩
 ·obtain⟨v,q1,q2⟩:=p4 i (Nat.zero_le _) hi;rw[List.getElem?_eq_getElem hi]at q1;cases q1;exact q2
 ·rw[List.getElem?_eq_getElem h]at p2;cases p2;simpa using p3
theorem bZ.kid{i j:Nat}(g:bZ N D)(hi:i<N.length)(hj:j<N[i].kids.length):i<N[i].kids[j]/\N[i].kids[j]<N.length:=by obtain⟨h1,u,h2,_⟩:=(g.node i hi).kid j hj;exact⟨h1,(List.getElem?_eq_some_iff.1 h2).1⟩
end
theorem vX{S:List UInt8}{x:List NV×List Dc}(h:zj S=some x):bZ x.1 x.2:=by
 unfold zj at h;split at h
 ·cases h
 ·obtain⟨d,_,h⟩:=aW h;obtain⟨t,_,h⟩:=aW h;split at h
  ·cases h
  ·split at h
   ·cases h
   ·split at h
    ·rename_i hg;have hx:=ofS h;subst hx;exact good_of hg
    ·cases h
mutual
inductive Vl where
 |mk (k n:Int) (nm:List UInt8) (args:List Vl) (node:Int) (env:En) (at_:Int)
inductive En where
 |nil
 |cons (nm:List UInt8) (v:Vl) (up:En)
end
def Vl.k:Vl->Int|.mk k _ _ _ _ _ _=>k
def Vl.n:Vl->Int|.mk _ n _ _ _ _ _=>n
def Vl.nm:Vl->List UInt8|.mk _ _ nm _ _ _ _=>nm
def Vl.args:Vl->List Vl|.mk _ _ _ l _ _ _=>l
def Vl.node:Vl->Int|.mk _ _ _ _ d _ _=>d
def Vl.env:Vl->En|.mk _ _ _ _ _ e _=>e
def Vl.at_:Vl->Int|.mk _ _ _ _ _ _ a=>a
def w63(n:Int):Int:=shrI .i64 (shlI .i64 n 1) 1
def cK:Vl:=.mk 0 0 [] [] 0 .nil 0
def xV(n:Int):Vl:=.mk 1 (w63 n) [] [] 0 .nil 0
def boolV(n:Int):Vl:=.mk 2 n [] [] 0 .nil 0
def pL:Vl:=.mk 3 0 [] [] 0 .nil 0
def vd(nm:List UInt8)(l:List Vl):Vl:=.mk 4 0 nm l 0 .nil 0
def zt(node:Nat)(e:En):Vl:=.mk 5 0 [] [] ((node:Nat):Int) e 0
def vt(at_:Nat):Vl:=.mk 6 0 [] [] 0 .nil ((at_:Nat):Int)
def rV(s:List UInt8):En->Option Vl
 |.nil=>none
 |.cons nm v up=>if nm=s then some v else rV s up
def pO(b:Bool):Vl:=boolV (if b=true then 1 else 0)
def opV(s:List UInt8)(a b:Int):Option Vl:=
 if s=[43] then some (xV (aP (a+b))) else if s=[45] then some (xV (aP (a-b))) else if s=[42] then some (xV (aP (a*b)))
 else if s=[60] then some (pO (decide (a<b))) else if s=[61] then some (pO (a==b)) else none
structure Wt where
 at_:Option Nat
 env:En
 vals:List Vl
 calls:List (Int×Int)
structure MS where
 inp:List Int
 read:Nat
 out:List Int
 cells:List Vl
 nw:Nat
 steps:Nat
 stops:Nat
 over:Int
 err:Int
 back:Bool
 v:Vl
 at_:Nat
 env:En
 k:List Wt
 calls:List (Int×Int)
def MS.goTo(m:MS)(i:Nat)(e:En):MS:={m with at_:=i,env:=e,back:=false}
def MS.value(m:MS)(v:Vl):MS:={m with v:=v,back:=true}
def MS.stuck(m:MS):MS:={m with over:=2}
def stopK(k:Int):Bool:=decide (k=7\/k=8\/k=9\/k=10\/k=11\/k=13\/k=17\/k=18\/k=19\/k=20)
section
variable(N:List NV)
def dF(i:Nat):NV:=N.getD i ⟨{k:=0},[]⟩
def fQ(v:NV)(j:Nat):Nat:=v.kids.getD j 0
mutual
def oG:Nat->Nat->Vl->En->Option En
 |0,_,_,_=>none
 |f+1,i,v,e=>
  if(dF N i).x.k=21 then some e
  else if(dF N i).x.k=22 then some (.cons (dF N i).x.nm v e)
  else if(dF N i).x.k=23 then(if v.k=1/\v.n=(dF N i).x.n then some e else none)
  else if(dF N i).x.k=24 then(if v.k=2/\v.n=(dF N i).x.n then some e else none)
  else if(dF N i).x.k=25 then(if v.k=3 then some e else none)
  else if v.k≠4\/v.nm≠(dF N i).x.nm\/v.args.length≠(dF N i).kids.length then none
  else meetsL f (dF N i).kids v.args e
def meetsL:Nat->List Nat->List Vl->En->Option En
 |f,i::l,v::r,e=>match oG f i v e with
  |some e=>meetsL f l r e
  |none=>none
 |_,_,_,e=>some e
end
def wM(v:Vl)(e:En):List Nat->Option (Nat×En)
 |p::b::r=>match oG N (N.length+1) p v e with
  |some e=>some (b,e)
  |none=>wM v e r
 |_=>none
def xr:List Wt->Option (Nat×Wt×List Wt)
 |[]=>none
 |w::r=>match w.at_ with
  |some i=>if(dF N i).x.k=20 then some (i,w,r) else xr r
  |none=>xr r
def sR(m:MS)(v:Vl):MS:=
 if v.k≠1 then m.stuck else match xr N m.k with
  |some (i,w,r)=>{m with k:=r,calls:=w.calls}.goTo (fQ (dF N i) 1) (.cons (dF N i).x.pm v w.env)
  |none=>{m with k:=[],over:=2,err:=v.n}
def wd(m:MS)(i:Nat)(f a:Vl):MS:=
 if f.k≠5 then m.stuck else
  {m with k:=⟨none,.nil,[],m.calls⟩::m.k,calls:=(((i:Nat):Int),f.node)::m.calls}.goTo (fQ (dF N f.node.toNat) 0)
   (.cons (dF N f.node.toNat).x.pm a (if(dF N f.node.toNat).x.k=9 then .cons (dF N f.node.toNat).x.nm f f.env else f.env))
def zO(m:MS)(x:NV)(vals:List Vl):MS:=
 if x.x.k=15 then {m with nw:=m.nw+1,cells:=m.cells++[vals.getD 0 cK]}.value (vt m.cells.length)
 else if(vals.getD 0 cK).k≠6 then m.stuck
 else if x.x.k=16 then m.value (m.cells.getD (vals.getD 0 cK).at_.toNat cK)
 else {m with nw:=m.nw+1,cells:=m.cells.set (vals.getD 0 cK).at_.toNat (vals.getD 1 cK)}.value pL
def yS(m:MS)(i:Nat)(x:NV)(vals:List Vl):MS:=
 if x.x.k=7 then wd N m i (vals.getD 0 cK) (vals.getD 1 cK)
 else if x.x.k=5 then m.value (vd x.x.nm vals)
 else if x.x.k=14 then
  (match opV x.x.nm (vals.getD 0 cK).n (vals.getD 1 cK).n with
   |some v=>if(vals.getD 0 cK).k=1/\(vals.getD 1 cK).k=1 then m.value v else m.stuck
   |none=>m.stuck)
 else if x.x.k=17 then(if(vals.getD 0 cK).k=1 then {m with out:=m.out++[(vals.getD 0 cK).n]}.value pL else m.stuck)
 else if x.x.k=19 then sR N m (vals.getD 0 cK)
 else zO m x vals
def uK(m:MS)(x:NV)(w:Wt)(v:Vl):MS:=if v.k≠2 then m.stuck else if v.n=1 then m.goTo (fQ x 1) w.env else m.goTo (fQ x 2) w.env
def yd(m:MS)(x:NV)(w:Wt)(v:Vl):MS:=match wM N v w.env (x.kids.drop 1)with
 |some (b,e)=>m.goTo b e
 |none=>m.stuck
def vV(m:MS)(i:Nat)(w:Wt)(v:Vl):MS:=
 if(dF N i).x.k=8 then m.goTo (fQ (dF N i) 1) (.cons (dF N i).x.nm v w.env)
 else if(dF N i).x.k=10 then uK m (dF N i) w v
 else if(dF N i).x.k=11 then yd N m (dF N i) w v
 else if(dF N i).x.k=12 then m.goTo (fQ (dF N i) 1) w.env
 else if(dF N i).x.k=20 then m.value v
 else if w.vals.length+1<(dF N i).kids.length then {m with k:=⟨some i,w.env,w.vals++[v],w.calls⟩::m.k}.goTo (fQ (dF N i) (w.vals.length+1)) w.env
 else yS N m i (dF N i) (w.vals++[v])
def eO(m:MS)(v:Vl):MS:=match m.k with
 |[]=>{m with over:=1,v:=v}
 |w::r=>match w.at_ with
  |none=>{m with k:=r,calls:=w.calls}.value v
  |some i=>vV N {m with k:=r} i w v
def zR(m:MS):MS:=if m.inp.length<=m.read then {m with over:=3} else {m with read:=m.read+1}.value (xV (m.inp.getD m.read 0))
def sW(m:MS):MS:=
 if(dF N m.at_).x.k=1 then eO N m (xV (dF N m.at_).x.n)
 else if(dF N m.at_).x.k=2 then eO N m (boolV (dF N m.at_).x.n)
 else if(dF N m.at_).x.k=3 then eO N m pL
 else if(dF N m.at_).x.k=4 then(match rV (dF N m.at_).x.nm m.env with
  |some v=>eO N m v
  |none=>m.stuck)
 else if(dF N m.at_).x.k=6 then eO N m (zt m.at_ m.env)
 else if(dF N m.at_).x.k=9 then m.goTo (fQ (dF N m.at_) 1) (.cons (dF N m.at_).x.nm (zt m.at_ m.env) m.env)
 else if(dF N m.at_).x.k=18 then zR m
 else if(dF N m.at_).kids=[] then eO N m (vd (dF N m.at_).x.nm [])
 else {m with k:=⟨some m.at_,m.env,[],m.calls⟩::m.k}.goTo (fQ (dF N m.at_) 0) m.env
def qg(m:MS):Bool:=decide (m.over=0)&&!m.back&&stopK (dF N m.at_).x.k
def iV(m:MS):MS:={m with steps:=m.steps+1,stops:=if qg N m=true then m.stops+1 else m.stops}
def kR(m:MS):MS:=if m.back=true then eO N (iV N m) m.v else sW N (iV N m)
def cF:Nat->MS->MS×Nat
 |0,m=>(m,0)
 |n+1,m=>if m.over=0 then((cF n (kR N m)).1,(cF n (kR N m)).2+1) else(m,0)
end
def mJ(inp:List Int):MS:=⟨inp,0,[],[],0,0,0,0,0,false,cK,0,.nil,[],[]⟩
section
variable(N:List NV)(c:Nat)
def wj(node:Int):Prop:=∃i:Nat,node=(i:Int)/\∃h:i<N.length,N[i].x.k=6\/N[i].x.k=9
mutual
def vOK:Vl->Prop
 |.mk k _ _ l d e a=>(k=5->wj N d)/\(k=6->0<=a/\a<(c:Int))/\lOK l/\eOK e
def lOK:List Vl->Prop
 |[]=>True
 |v::l=>vOK v/\lOK l
def eOK:En->Prop
 |.nil=>True
 |.cons _ v u=>vOK v/\eOK u
end
def okP(i:Nat):Prop:=∃h:i<N.length,¬20<N[i].x.k
def okW(w:Wt):Prop:=eOK N c w.env/\lOK N c w.vals/\∀i,w.at_=some i->∃h:i<N.length,¬20<N[i].x.k/\w.vals.length<N[i].kids.length/\N[i].x.k≠6
end
structure okM(N:List NV)(m:MS):Prop where
 at_:okP N m.at_
 env:eOK N m.cells.length m.env
 v:vOK N m.cells.length m.v
 cells:lOK N m.cells.length m.cells
 k:∀w∈m.k,okW N m.cells.length w
structure bndM(m:MS):Prop where
 out:m.out.length<=m.steps
 cells:m.cells.length<=m.steps
 nw:m.nw<=m.steps
 stops:m.stops<=m.steps
 calls:m.calls.length<=m.steps
 k:∀w∈m.k,w.calls.length<=m.steps
 read:m.read<=m.inp.length
open Go.Proofs Go.Utf8 Go.Lib
def Shift(L:List UInt8)(m:Nat):Prop:=m<=L.length/\skp L=((skp (L.drop m)).1+m,(skp (L.drop m)).2)
theorem shift_blank{L:List UInt8}(hL:L≠[])(hb:blk (bV L).1=true):Shift L (bV L).2:=by
 refine⟨(eI hL).2,?_⟩;have e:run blk L=(bV L).2+run blk (L.drop (bV L).2):=by rw[gW hL,if_pos hb]
 rw[nQ L,nQ (L.drop (bV L).2),e];simp only[List.drop_drop,Nat.add_assoc];split
 ·split
  ·simp only[Nat.add_comm]
  ·simp only[Prod.mk.injEq,and_true];omega
 ·simp only[Nat.add_comm]
theorem run_rem{L:List UInt8}(h2:L.take 2=[40,42]):run blk L=0:=by
 obtain⟨r,rfl⟩:∃r,L=40::r:=by
  cases L with
  |nil=>cases h2
  |cons a r=>exact⟨r,by simp at h2;rw[h2.1]⟩
 exact run_stop (by decide) (by decide+kernel)
theorem rem_none{L:List UInt8}(h2:L.take 2=[40,42])(h:rmk L.length L 0=none):skp L=(0,false):=by rw[nQ,run_rem h2,List.drop_zero,if_pos h2,h]
theorem shift_rem{L:List UInt8}{m:Nat}(h2:L.take 2=[40,42])(h:rmk L.length L 0=some m):Shift L m:=by refine⟨(iW _ _ _ _ h).2,?_⟩;rw[nQ,run_rem h2,List.drop_zero,if_pos h2,h];simp only[Nat.zero_add,Prod.mk.injEq,and_true];omega
theorem skp_here{L:List UInt8}(hL:L≠[])(hb:blk (bV L).1=false)(h2:L.take 2≠[40,42]):skp L=(0,true):=by
 have e:run blk L=0:=by rw[gW hL,if_neg (by rw[hb];simp)]
 rw[nQ,e,List.drop_zero,if_neg h2]
theorem xl{L:List UInt8}{m:Nat}(h:Shift L m)(f at' c:Nat):mZ f L at' c=mZ f (L.drop m) (at'+m) c:=by
 cases f with
 |zero=>rfl
 |succ f=>
  have e:at'+((skp (L.drop m)).1+m)=at'+m+(skp (L.drop m)).1:=by omega
  have e2:L.drop ((skp (L.drop m)).1+m)=(L.drop m).drop (skp (L.drop m)).1:=by rw[List.drop_drop,Nat.add_comm]
  unfold mZ;rw[h.2];simp only[e,e2]
theorem lexL_rem{L:List UInt8}(h2:L.take 2=[40,42])(h:rmk L.length L 0=none)(f at' c:Nat):mZ (f+1) L at' c=.error (3,at'):=by unfold mZ;rw[rem_none h2 h];try rfl
theorem lexL_word{L:List UInt8}(hL:L≠[])(hs:skp L=(0,true))(f at' c:Nat)(hf:L.length<f):mZ f L at' c=
  if(dE L).1=0 then .error (3,at') else if 2000<=c then .error (2,at')
  else match mZ f (L.drop (dE L).2.length) (at'+(dE L).2.length) (c+1)with
   |.ok l=>.ok (⟨(dE L).1,(dE L).2,at',at'+(dE L).2.length⟩::l)
   |.error e=>.error e:=by
 obtain⟨g,rfl⟩:∃g,f=g+1:=⟨f-1,by omega⟩
 conv=>lhs;unfold mZ
 rw[hs];simp only[if_true,List.drop_zero,Nat.add_zero];rw[if_neg hL];by_cases h5:(dE L).1=0
 ·rw[if_pos h5,if_pos h5]
 ·rw[if_neg h5,if_neg h5];have hn:=(wz h5).ne hL;have hl:1<=(dE L).2.length:=List.length_pos_iff.2 hn.1;rw[vr g (g+1) _ _ _ (by rw[List.length_drop];omega) (by rw[List.length_drop];omega)];try rfl
theorem lexL_end(f at' c:Nat):mZ f [] at' c=.ok []:=by
 cases f with
 |zero=>rfl
 |succ f=>unfold mZ;have:skp []=(0,true):=rfl;rw[this];try rfl
theorem rmk_at(a:UInt8)(r:List UInt8){d:Int}(hd:1<=d\/a=40/\r.head?=some 42/\d=0):rmk (a::r).length (a::r) d=
  if a=40/\r.head?=some 42 then(rmk (r.drop 1).length (r.drop 1) (d+1)).map (· +2)
  else if a=42/\r.head?=some 41 then(if d=1 then some 2 else(rmk (r.drop 1).length (r.drop 1) (d-1)).map (· +2))
  else(rmk r.length r d).map (· +1):=by
 conv=>lhs;rw[List.length_cons];unfold rmk
 simp only;have f1:rmk r.length (r.drop 1) (d+1)=rmk (r.drop 1).length (r.drop 1) (d+1):=qD _ _ _ _ (by rw[List.length_drop];omega) (Nat.le_refl _);have f2:rmk r.length (r.drop 1) (d-1)=rmk (r.drop 1).length (r.drop 1) (d-1):=qD _ _ _ _ (by rw[List.length_drop];omega) (Nat.le_refl _);rw[f1,f2];split
 ·rw[if_neg (by omega)]
 ·rename_i h1;have a0:1<=d:=by
   rcases hd with hd|hd
   ·exact hd
   ·exact absurd ⟨hd.1,hd.2.1⟩ h1
  split
  ·by_cases h3:d=1
   ·rw[if_pos (by omega),if_pos h3]
   ·rw[if_neg (by omega),if_neg h3]
  ·rw[if_neg (by omega)]
theorem valL_step{b:UInt8}{r:List UInt8}{n:Int}(hb:48<=b.toNat/\b.toNat<=57):nA (b::r) n=
  if n>461168601842738790 then false else if 10*n+((b.toNat:Int)-48)>4611686018427387903 then false else nA r (10*n+((b.toNat:Int)-48)):=by
 rw[nA];rw[Int.tdiv_eq_ediv_of_nonneg (by omega)];by_cases h1:n>(4611686018427387903-((b.toNat:Int)-48))/10
 ·rw[if_pos h1];by_cases h2:n>461168601842738790
  ·rw[if_pos h2]
  ·rw[if_neg h2,if_pos (by omega)]
 ·rw[if_neg h1,if_neg (by omega),if_neg (by omega)]
theorem run_dig{L:List UInt8}:run dig L=match L with
  |[]=>0
  |b::r=>if 48<=b.toNat/\b.toNat<=57 then 1+run dig r else 0:=by
 cases L with
 |nil=>rfl
 |cons b r=>
  by_cases hb:48<=b.toNat/\b.toNat<=57
  ·simp only[hb,and_self,if_true];exact run_go (by omega) (dig_digit hb)
  ·simp only[hb,if_false];rw[gW (by simp)];rw[if_neg ?_];intro h;have h1:dU (bV (b::r)).1=2:=by simpa[dig]using h
   have h2:=cls_dig h1;obtain⟨b',r',e1,e2,_⟩:=yL (L:=b::r) (by simp) (by omega);cases e1;omega
theorem tl_loop(s:ByteArray):∀(d i:Nat) (r:List UInt8),s.size-i=d->ByteArray.toList.loop s i r=r.reverse++s.data.toList.drop i
 |0,i,r,h=>by unfold ByteArray.toList.loop;rw[if_neg (by omega),List.drop_of_length_le (by have:s.data.toList.length=s.size:=rfl;omega),List.append_nil]
 |d+1,i,r,h=>by
  have hl:i<s.data.toList.length:=by have:s.data.toList.length=s.size:=rfl;omega
  unfold ByteArray.toList.loop;rw[if_pos (by omega),tl_loop s d (i+1) _ (by omega),List.drop_eq_getElem_cons hl,List.reverse_cons,List.append_assoc];have e:s.get! i=s.data.toList[i]:=by
   cases s with
   |mk a=>simp only[ByteArray.get!];rw[getElem!_pos a i (by simpa using hl)];try rfl
  rw[e];try rfl
theorem tl_data(s:ByteArray):s.toList=s.data.toList:=by unfold ByteArray.toList;rw[tl_loop s _ 0 [] rfl];try rfl
theorem za(l:List UInt8):(mkB l).toList=l:=tl_data _
theorem tl_bs(l:List UInt8):(bs l).toList=l:=tl_data _
theorem ext_mkB(s:ByteArray)(a b:Nat):s.extract a b=mkB ((s.data.toList.take b).drop a):=by
 have h:(s.extract a b).data.toList=(s.data.toList.take b).drop a:=by rw[ByteArray.data_extract,Array.toList_extract];simp[List.extract,List.drop_take]
 rw[<-h];try rfl
theorem ext_to(L:List UInt8)(a:Nat):(mkB L).extract a (mkB L).size=mkB (L.drop a):=by rw[ext_mkB,uT,cC,List.take_length]
theorem ext_0(L:List UInt8)(b:Nat):(mkB L).extract 0 b=mkB (L.take b):=by rw[ext_mkB,uT,List.drop_zero]
theorem Frm.putNew{σ σ':aC}{b:Nat}(h:Frm σ σ' NoB)(hb:σ.n<=b)(a0:b<σ'.n)(o:dV):Frm σ (σ'.put b o) NoB:=
 h.fresh (Frm.put σ' b o a0) fun j hj e=>by omega
theorem Frm.rng(σ:aC)(s:ByteArray):Frm σ (σ.push (.iter s 0)) NoB:=
 ⟨by rw[aC.push_n];omega,rfl,fun j hj _=>pJ σ _ hj,fun f j hj=>by
  rw[aC.push_n]at hj;rw[aC.get_push,if_neg (by omega)];exact f j (by omega)⟩
theorem EvF.ov{P:Program}{ov:Ov}{f:FuncId}{g:List Value->Act}{args:List Value}{σ σ':aC}{v:Value}(h:ov f=some g)(hg:g args σ=some (v,σ')):EvF P ov f args σ v σ':=
 ⟨1,fun n hn=>by
  cases n with
  |zero=>omega
  |succ n=>unfold kP;rw[h];exact hg⟩
def rOK(r:Int):Prop:= -2147483648<=r/\r<=2147483647
theorem uv{r:Int}(h:rOK r)(σ:aC):EvF aG ovD 92 [.int .i32 r] σ (.bool (isLetterU r)) σ:=
 EvF.ov (g:=kJ tF) rfl (by unfold kJ tF;simp[h.1,h.2])
theorem ev_upper{r:Int}(h:rOK r)(σ:aC):EvF aG ovD 94 [.int .i32 r] σ (.bool (isUpperU r)) σ:=
 EvF.ov (g:=kJ zA) rfl (by unfold kJ zA;simp[h.1,h.2])
theorem ev_decode{L:List UInt8}(h:L≠[])(σ:aC):EvF aG ovD 131 [.string (mkB L)] σ (.tuple #[.int .i32 (bV L).1,.int .i64 (bV L).2]) σ:=by
 refine EvF.ov (g:=kJ uE) rfl ?_;unfold kJ uE Lib.decodeGo;have:(mkB L).size≠0:=by rw[cC];have:=List.length_pos_iff.2 h;omega
 simp only[if_neg this];have e:=oJ L 0 (by omega);rw[List.drop_zero]at e;rw[e]
theorem dec_i32(s:ByteArray)(p:Nat):rOK ((Utf8.decode s p).1:Nat):=by
 rw[yP];have hb:∀i,xi s i<256:=fun i=>by unfold xi;exact UInt8.toNat_lt _
 unfold dec rOK;simp only;have g0:=hb p;have g1:=hb (p+1);have g2:=hb (p+2);have g3:=hb (p+3)
 repeat' split
 all_goals simp only[runeError]
 all_goals omega
theorem lW(L:List UInt8):rOK ((bV L).1:Nat):=by have e:=oJ L 0 (by omega);rw[List.drop_zero]at e;rw[<-e];exact dec_i32 _ _
variable{σ:aC}
theorem mark_at(j:Nat)(hj:j<13):wi32 (cJ (bs [40,41,44,59,61,60,62,43,45,42,124,33,58]) j)=marks.getD j 0:=by
 have:j=0\/j=1\/j=2\/j=3\/j=4\/j=5\/j=6\/j=7\/j=8\/j=9\/j=10\/j=11\/j=12:=by omega
 rcases this with rfl|rfl|rfl|rfl|rfl|rfl|rfl|rfl|rfl|rfl|rfl|rfl|rfl<;>decide
theorem vE{r:Int}(h:rOK r)(σ:aC):EvF aG ovD 67 [.int .i32 r] σ (.int .i64 (dU r)) σ:=by
 refine EvF.of (T67_eq _) rfl ?_;rw[T67,aF,aF,aA];by_cases h1:r=95\/r=39
 ·have a1:((r==95)||(r==39))=true:=by simpa using h1
  have hc:dU r=1:=cls_1 (by rcases h1 with h1|h1<;>simp[h1]);rw[if_neg (by rw[a1];simp),hc];simp[wp_ret,T67k0,T67k3,aX,aM,bB,aQ,aK]
 ·have a1:((r==95)||(r==39))=false:=by simpa using h1
  rw[if_pos (by rw[a1];rfl),aE,WpF.eq (uv h σ)];simp only[bB,wp_ret,T67k0,aX,aM,aK,aA];by_cases h2:isLetterU r=true
  ·rw[if_pos h2,cls_1 (.inr (.inr h2))];simp[wp_ret,T67k3,aX,aM,aQ,aK]
  ·have n1:¬(r=95\/r=39\/isLetterU r=true):=fun h=>h.elim (fun h=>h1 (.inl h)) fun h=>h.elim (fun h=>h1 (.inr h)) h2;rw[if_neg h2];by_cases h3:48<=r/\r<=57
   ·rw[if_pos (by simpa using h3),cls_2 n1 h3];simp[wp_ret,T67k3,aX,aM,aQ,aK]
   ·rw[if_neg (by simpa using h3)];by_cases h4:r=32\/r=9\/r=10\/r=13
    ·rw[cls_3 n1 h3 h4,if_pos (by rcases h4 with h4|h4|h4|h4<;>simp[h4])];simp[wp_ret,T67k3,aX,aM,aQ,aK]
    ·rw[if_neg (by simpa[not_or,and_assoc]using h4)];simp only[T67k3,aX,jY,aM,aQ,aK];refine Wp.count 13 (fun j st σ'=>σ'=σ/\st=[.int .i64 ((j:Nat):Int),.int .i64 0]/\∀i,i<j->r≠marks.getD i 0) ⟨rfl,rfl,fun i hi=>by omega⟩ ?_ ?_
     ·rintro j st σ' hj ⟨rfl,rfl,a0⟩;have e1:aP ((j:Int)+1)=(j:Int)+1:=aS (by omega);simp only[T67b0,aM,aQ,aK];rw[aA,if_pos (by simp;omega),aF,aO];refine⟨by simp;omega,?_⟩;rw[Int.toNat_natCast,mark_at j hj,aA];by_cases hm:r=marks.getD j 0
      ·rw[if_pos (by simpa only[beq_iff_eq]using hm),cls_4 n1 h3 h4 (by
        rw[hm];have:marks.getD j 0=marks[j]'(by simpa[marks]using hj):=by simp[List.getD,marks,hj]
        rw[this];exact List.getElem_mem _)]
       simp[wp_ret,T67k1,T67k2,aX,wR,aM,aQ,aK]
      ·rw[if_neg (by simpa only[beq_iff_eq]using hm)];simp only[wp_ret,T67k1,aX,jY,aM,aQ,aK,e1];refine⟨trivial,by simp,fun i hi=>?_⟩;by_cases a2:i=j
       ·subst a2;exact hm
       ·exact a0 i (by omega)
     ·rintro st σ' ⟨rfl,rfl,a0⟩;have hm:¬r∈marks:=by
       intro hm;obtain⟨i,hi,he⟩:=List.getElem_of_mem hm;have a3:i<13:=by simpa[marks]using hi
       refine a0 i a3 ?_;rw[<-he];simp[List.getD,hi]
      rw[cls_0 n1 h3 h4 hm];simp only[T67b0,aM,aQ,aK];rw[aA,if_neg (by simp)];simp[wp_ret,T67k2,aX,aM,aQ,aK]
section
variable{σ:aC}
theorem wp_first{L:List UInt8}(hL:L≠[])(hl:L.length<=1000000){Q:Value->aC->Prop}(hQ:∀σ',Frm σ σ' NoB->Q (.tuple #[.int .i32 ((bV L).1:Nat),.int .i64 ((bV L).2:Nat)]) σ'):WpF aG ovD 66 [.string (mkB L)] σ Q:=by
 refine WpF.of (T66_eq _) rfl ?_;have a0:=cC L;have hw:=eI hL;have e0:=oJ L 0 (by omega);rw[List.drop_zero]at e0;rw[T66,aV,yX];simp only[jV,bP];refine Wp.loop (fun m st σ'=>Frm σ σ' NoB/\σ.n<σ'.n/\((m=2/\σ'.get σ.n=some (.iter (mkB L) 0)/\st=[.int .i64 0,.int .i64 (L.length:Nat),.int .i32 0])\/(m=1/\σ'.get σ.n=some (.iter (mkB L) (bV L).2)/\st=[.int .i64 1,.int .i64 (L.length:Nat),.int .i32 ((bV L).1:Nat)]))) 2
  ⟨Frm.rng _ _,by rw[aC.push_n];omega,.inl ⟨rfl,eJ _ _,by rw[a0]⟩⟩ ?_
 rintro m st σ' ⟨hF,hn,⟨rfl,hg,rfl⟩|⟨rfl,hg,rfl⟩⟩
 ·simp only[T66b0,aM,aQ,aK];have e1:aP (0+1)=1:=by decide
  rw[iN hg (by omega),e0,aF,aF,aA,if_pos (by rfl),wp_ret];simp only[T66k0,aX,aM,aQ,aK];rw[aA,if_neg (by simp),wp_ret,e1];simp only[T66k1,sw_ne,aX,aM,aQ,aK];rw[wp_ret];refine⟨1,by decide,hF.putNew (Nat.le_refl _) hn _,hn,.inr ⟨rfl,?_,rfl⟩⟩;rw[eC,Nat.zero_add]
 ·simp only[T66b0,aM,aQ,aK];by_cases h1:(bV L).2<L.length
  ·rw[iN hg (by omega),aF,aF,aA,if_neg (by simp),wp_ret];simp only[T66k0,aX,aM,aQ,aK];rw[aA,if_pos (by rfl),wp_ret];simp only[T66k1,aX,aM,aQ,aK];rw[wp_ret];simp only[T66k2,aX,aM,aQ,aK];rw[wp_ret];exact⟨_,rfl,hQ _ (hF.putNew (Nat.le_refl _) hn _)⟩
  ·have e2:L.length=(bV L).2:=by omega
   rw[oE hg (by omega),wp_ret];simp only[T66k2,aX,aM,aQ,aK];rw[wp_ret,e2];exact⟨_,rfl,hQ _ hF⟩
theorem wp_tail(L:List UInt8){Q:Value->aC->Prop}(hQ:∀σ',Frm σ σ' NoB->Q (.int .i64 (run lod L:Nat)) σ'):WpF aG ovD 93 [.string (mkB L)] σ Q:=by
 refine WpF.of (T93_eq _) rfl ?_;rw[T93,aV,yX];simp only[jV,bP];refine Wp.loop (fun m st σ'=>∃p,m=L.length-p/\p<=L.length/\Frm σ σ' NoB/\σ.n<σ'.n/\σ'.get σ.n=some (.iter (mkB L) p)/\st=[.int .i64 0]/\run lod L=p+run lod (L.drop p)) L.length
  ⟨0,rfl,by omega,Frm.rng _ _,by rw[aC.push_n];omega,eJ _ _,rfl,by simp⟩ ?_
 rintro m st σ' ⟨p,rfl,hp,hF,hn,a2,rfl,hr⟩;simp only[T93b0,aM,aQ,aK];by_cases h1:p<L.length
 ·have a1:L.drop p≠[]:=by simp;omega
  have hw:=eI a1;rw[List.length_drop]at hw;rw[iN a2 (by rw[cC];exact h1),aF,aE,oJ L p hp,WpF.eq (vE (lW _) _),aQ,aA];rw[gW a1]at hr;by_cases hm:lod (bV (L.drop p)).1=true
  ·rw[if_pos hm,List.drop_drop]at hr;have a0:=hm;simp only[lod,Bool.or_eq_true,beq_iff_eq]at a0;rw[if_neg (by simpa using fun h=>by rcases a0 with h'|h';exact absurd h' h;exact h'),wp_ret];simp only[T93k0,jY,aX,aM,aQ,aK];rw[wp_ret];refine⟨_,?_,p+(bV (L.drop p)).2,rfl,by omega,hF.putNew (Nat.le_refl _) hn _,hn,eC _ _ _,rfl,by omega⟩;omega
  ·rw[if_neg hm]at hr;have a0:=hm;simp only[lod,Bool.or_eq_true,beq_iff_eq,not_or]at a0;rw[if_pos (by simpa using a0),wp_ret];simp only[T93k0,T93k1,aX,aM,aQ,aK];rw[wp_ret];simp only[wR,aX,aM,aQ,aK];rw[wp_ret];rw[Nat.add_zero]at hr;rw[<-hr];exact⟨_,rfl,hQ _ (hF.putNew (Nat.le_refl _) hn _)⟩
 ·obtain rfl:p=L.length:=by omega
  rw[oE a2 (by rw[cC];omega),wp_ret];simp only[T93k1,aX,aM,aQ,aK];rw[wp_ret,cC];rw[List.drop_length,run_nil,Nat.add_zero]at hr;rw[<-hr];exact⟨_,rfl,hQ _ hF⟩
end
set_option linter.unusedSimpArgs false
theorem wpS:(∀c r f,aU (c::r) f=f c r)/\(∀k n f,asInt k (.int k n) f=f n)/\(∀b f,eF (.bool b) f=f b)/\(∀s f,kF (.string s) f=f s)/\(∀a n c f,aI (.slice a n c) f=f a n c)/\(∀cs f,asAgg (.agg cs) f=f cs.toList)/\(∀cs f,bM (.tuple cs) f=f cs.toList)/\
  (∀a f,aR (.pointer a) f=f a)/\(∀a f,aD (some a) f=f a)/\(∀p,aH [] p=p)/\(∀(P:Program) (ov:Ov) e vs σ Q,Wp P ov (.ret e vs) σ Q=Q e vs σ)/\
  (∀(P:Program) (ov:Ov) p k σ Q,Wp P ov (.join p k) σ Q=Wp P ov p σ fun e vs σ'=>Wp P ov (k e vs) σ' Q)/\(∀e p q,sw e e p q=p)/\(∀p q,sw .normal .ret p q=q)/\(∀p q,sw .ret .normal p q=q)/\
  (∀i p q,sw .normal (.exit i) p q=q)/\(∀i p q,sw .ret (.exit i) p q=q)/\(∀i p q,sw (.exit i) .normal p q=q)/\(∀i p q,sw (.exit i) .ret p q=q):=
 ⟨aM,aQ,bB,fH,bO,nF,cU,jV,bP,aK,fun _ _=>wp_ret,fun _ _=>aF,aX,jY,sw_rn,sw_ne,wR,sw_en,sw_er⟩
theorem sS(S:List UInt8)(i:Nat):cJ (mkB S) i=(((S.getD i 0).toNat:Nat):Int):=rfl
theorem bs_mkB(l:List UInt8):bs l=mkB l:=rfl
theorem bR(a b:List UInt8):((mkB a).toList==(bs b).toList)=decide (a=b):=by
 rw[za,tl_bs];by_cases h:a=b
 ·simp[h]
 ·simp[h]
theorem eP(a b:List UInt8):((mkB a).toList==(mkB b).toList)=decide (a=b):=by
 rw[za,za];by_cases h:a=b
 ·simp[h]
 ·simp[h]
theorem u8_int{a x:UInt8}:((a.toNat:Nat):Int)=((x.toNat:Nat):Int)↔a=x:=by
 constructor
 ·intro h;have:a.toNat=x.toNat:=by omega
  exact UInt8.toNat_inj.1 this
 ·intro h;rw[h]
theorem lC{S:List UInt8}{q:Nat}(h:q<S.length):S.drop q=S.getD q 0::S.drop (q+1):=by rw[List.drop_eq_getElem_cons h];simp[List.getD,h]
theorem mF{a x y:UInt8}{r:List UInt8}:(a::r).take 2=[x,y]↔a=x/\r.head?=some y:=by
 cases r with
 |nil=>simp
 |cons b r=>simp
section
variable{P:Program}{ov:Ov}{σ:aC}
theorem wp_two(S:List UInt8){q:Nat}(hq:q<S.length)(hl:S.length<=1000000){X Y:Int}(x y:UInt8)(hX:X=((x.toNat:Nat):Int))(hY:Y=((y.toNat:Nat):Int))(Q:bW):
  Wp P ov (bif(decide ((aP (((q:Nat):Int)+1))<(((mkB S).size:Nat):Int)))==true then(grd ((decide (0<=((q:Nat):Int)))&&(decide (((q:Nat):Int)<(((mkB S).size:Nat):Int)))) (bif((cJ (mkB S) (Int.toNat ((q:Nat):Int)))==X)==true then(grd ((decide (0<=(aP (((q:Nat):Int)+1))))&&(decide ((aP (((q:Nat):Int)+1))<(((mkB S).size:Nat):Int)))) (.ret .normal [(.bool ((cJ (mkB S) (Int.toNat (aP (((q:Nat):Int)+1))))==Y))])) else(.ret .normal [(.bool false)]))) else(.ret .normal [(.bool false)])) σ Q=
   Q .normal [.bool (decide ((S.drop q).take 2=[x,y]))] σ:=by
 have a1:=cC S;have e1:aP (((q:Nat):Int)+1)=((q+1:Nat):Int):=by rw[aS (by omega)];omega
 have hd:=lC hq;rw[hd,aA,e1,a1];simp only[mF];by_cases h1:q+1<S.length
 ·have a0:=lC h1;rw[if_pos (by simp;omega),aO,aA,Int.toNat_natCast,Int.toNat_natCast,sS,sS,a0];simp only[List.head?_cons,Option.some.injEq];have g1:(decide (0<=((q:Nat):Int))&&decide (((q:Nat):Int)<((S.length:Nat):Int)))=true:=by simp;omega
  by_cases h2:S.getD q 0=x
  ·rw[if_pos (by rw[hX,h2];simp),aO,wp_ret];have g2:(decide (0<=((q+1:Nat):Int))&&decide (((q+1:Nat):Int)<((S.length:Nat):Int)))=true:=by simp only[Bool.and_eq_true,decide_eq_true_eq];omega
   rw[g1,g2];simp only[true_and,h2]
   congr 3
   rw[hY];by_cases h3:S.getD (q+1) 0=y
   ·rw[h3];simp
   ·rw[beq_eq_false_iff_ne.2 (fun h=>h3 (u8_int.1 h)),decide_eq_false h3]
  ·rw[if_neg (by rw[hX];simp only[beq_iff_eq,beq_true];exact fun h=>h2 (u8_int.1 h)),wp_ret,g1];simp only[true_and,h2,false_and,decide_false]
 ·have a0:S.drop (q+1)=[]:=List.drop_of_length_le (by omega);rw[if_neg (by simp;omega),wp_ret,a0];simp
theorem ev_remark(S:List UInt8)(hl:S.length<=1000000){p:Nat}(hp:p<S.length)(h2:(S.drop p).take 2=[40,42]):
  EvF aG ovD 68 [.string (mkB S),.int .i64 ((p:Nat):Int)] σ (.int .i64 (match rmk (S.drop p).length (S.drop p) 0 with
   |some m=>((p+m:Nat):Int)
   |none=> -1)) σ:=by
 refine EvF.of (T68_eq _ _) rfl ?_;rw[T68];have a3:=cC S;refine Wp.loop (fun m st σ'=>σ'=σ/\∃(q:Nat) (d:Int),m=S.length-q/\q<=S.length/\st=[.int .i64 0,.int .i64 ((q:Nat):Int),.int .i64 d]/\(1<=d\/(S.drop q).take 2=[40,42]/\d=0)/\d<=((q:Nat):Int)/\
   (rmk (S.drop p).length (S.drop p) 0).map (p+ ·)=(rmk (S.drop q).length (S.drop q) d).map (q+ ·)) (S.length-p)
  ⟨rfl,p,0,rfl,by omega,rfl,.inr ⟨h2,rfl⟩,by omega,rfl⟩ ?_
 rintro m st σ' ⟨rfl,q,d,rfl,hq,rfl,hd,a5,hr⟩;unfold T68b0;simp only[wpS];rw[aA,a3];have e2:aP (((q:Nat):Int)+2)=((q+2:Nat):Int):=by rw[aS (by omega)];omega
 have e1:aP (((q:Nat):Int)+1)=((q+1:Nat):Int):=by rw[aS (by omega)];omega
 have e3:aP (d+1)=d+1:=aS (by omega);have e4:aP (d-1)=d-1:=aS (by omega);by_cases h1:q<S.length
 case neg=>
  rw[if_neg (by simp;omega),wp_ret];have a1:S.drop q=[]:=List.drop_of_length_le (by omega);rw[a1]at hr;have hn:rmk (S.drop p).length (S.drop p) 0=none:=by simpa[rmk]using hr
  simp only[wpS,T68k6,hn];exact⟨trivial,trivial⟩
 rw[if_pos (by simp;omega)];simp only[wpS];rw[<-a3,wp_two (X:=40) (Y:=42) S h1 hl 40 42 rfl rfl];have a1:=lC h1;have a0:=rmk_at (S.getD q 0) (S.drop (q+1)) (d:=d) (by
  rcases hd with hd|hd
  ·exact .inl hd
  ·rw[a1]at hd;exact .inr ⟨(mF.1 hd.1).1,(mF.1 hd.1).2,hd.2⟩)
 rw[<-a1]at a0;simp only[<-mF,<-a1,List.drop_drop]at a0;have map2:∀o:Option Nat,(o.map (· +2)).map (q+ ·)=o.map (q+2+ ·):=fun o=>by cases o<;>simp<;>omega
 have map1:∀o:Option Nat,(o.map (· +1)).map (q+ ·)=o.map (q+1+ ·):=fun o=>by cases o<;>simp<;>omega
 simp only[wpS,T68k3];rw[aA];by_cases c1:(S.drop q).take 2=[40,42]
 ·have a2:q+2<=S.length:=by have:=congrArg List.length c1;simp at this;omega
  rw[if_pos c1]at a0;rw[if_pos (by simpa using c1)];simp only[wpS,T68k2,T68k4,T68k5,e2,e3];refine⟨S.length-(q+2),by omega,by trivial,q+2,d+1,rfl,a2,rfl,.inl (by omega),by omega,?_⟩;rw[hr,a0,map2]
 rw[if_neg c1]at a0;have a4:1<=d:=by
  rcases hd with hd|hd
  ·exact hd
  ·exact absurd hd.1 c1
 rw[if_neg (by simpa using c1)];simp only[wpS];rw[wp_two (X:=42) (Y:=41) S h1 hl 42 41 rfl rfl];simp only[wpS,T68k1];rw[aA];by_cases c2:(S.drop q).take 2=[42,41]
 ·have a2:q+2<=S.length:=by have:=congrArg List.length c2;simp at this;omega
  rw[if_pos c2]at a0;rw[if_pos (by simpa using c2),aA,e4,e2];by_cases c3:d=1
  ·rw[if_pos c3]at a0;rw[if_pos (by simp;omega)];simp only[wpS,T68k0,T68k2,T68k4,T68k5,T68k6];rw[a0]at hr;cases hx:rmk (S.drop p).length (S.drop p) 0 with
   |none=>rw[hx]at hr;cases hr
   |some m=>rw[hx]at hr;simp only[Option.map_some,Option.some.injEq]at hr;refine⟨?_,by trivial⟩;show [Value.int .i64 ((q+2:Nat):Int)]=[Value.int .i64 ((p+m:Nat):Int)];rw[hr]
  ·rw[if_neg c3]at a0;rw[if_neg (by simp;omega)];simp only[wpS,T68k0,T68k2,T68k4,T68k5];refine⟨S.length-(q+2),by omega,by trivial,q+2,d-1,rfl,a2,rfl,.inl (by omega),by omega,?_⟩;rw[hr,a0,map2]
 ·rw[if_neg c2]at a0;rw[if_neg (by simpa using c2)];simp only[wpS,T68k0,T68k2,T68k4,T68k5,e1];refine⟨S.length-(q+1),by omega,by trivial,q+1,d,rfl,by omega,rfl,.inl a4,by omega,?_⟩;rw[hr,a0,map1]
theorem ev_key(t:List UInt8){Q:Value->aC->Prop}(hQ:∀σ',Frm σ σ' NoB->Q (.bool (iZ t)) σ'):WpF aG ovD 95 [.string (mkB t)] σ Q:=by
 refine WpF.of (T95_eq _) rfl ?_;rw[T95,aV,cM];simp only[wpS];have a0:=Row.new σ 1 (keys.map fun t=>Value.string (bs t)) 19 (by decide) (by simp[keys]) (by intro y hy;obtain⟨t,_,rfl⟩:=List.mem_map.1 hy;rfl);have hF:=Frm.new σ (keys.map fun t=>Value.string (bs t)) 1 NoB;have hk:keys.map (fun t=>Value.string (bs t))=[(.string (bs [116,121,112,101])),(.string (bs [111,102])),(.string (bs [108,101,116])),(.string (bs [114,101,99])),(.string (bs [105,110])),(.string (bs [102,117,110])),(.string (bs [105,102])),(.string (bs [116,104,101,110])),(.string (bs [101,108,115,101])),(.string (bs [109,97,116,99,104])),(.string (bs [119,105,116,104])),(.string (bs [101,110,100])),(.string (bs [114,101,102])),(.string (bs [112,114,105,110,116])),(.string (bs [114,101,97,100])),(.string (bs [114,97,105,115,101])),(.string (bs [116,114,121])),(.string (bs [116,114,117,101])),(.string (bs [102,97,108,115,101]))]:=rfl;rw[hk]at a0 hF;generalize hσ:σ.newBlk [(.string (bs [116,121,112,101])),(.string (bs [111,102])),(.string (bs [108,101,116])),(.string (bs [114,101,99])),(.string (bs [105,110])),(.string (bs [102,117,110])),(.string (bs [105,102])),(.string (bs [116,104,101,110])),(.string (bs [101,108,115,101])),(.string (bs [109,97,116,99,104])),(.string (bs [119,105,116,104])),(.string (bs [101,110,100])),(.string (bs [114,101,102])),(.string (bs [112,114,105,110,116])),(.string (bs [114,101,97,100])),(.string (bs [114,97,105,115,101])),(.string (bs [116,114,121])),(.string (bs [116,114,117,101])),(.string (bs [102,97,108,115,101]))] 1=σ1 at a0 hF ⊢;rw[<-hk]at a0;have a1:iZ t=(keys.drop 0).any (t== ·):=rfl;refine Wp.count 19 (fun j st σ'=>σ'=σ1/\st=[.int .i64 ((j:Nat):Int),.bool false]/\iZ t=(keys.drop j).any (t== ·)) ⟨rfl,rfl,a1⟩ ?_ ?_
 ·rintro j st σ' hj ⟨rfl,rfl,ha⟩;have e1:aP ((j:Int)+1)=((j+1:Nat):Int):=by rw[aS (by omega)];omega
  have a2:j<keys.length:=by simpa[keys]using hj
  have hv:(keys.map fun t=>Value.string (bs t))[j]?=some (.string (bs keys[j])):=by simp[a2]
  unfold T95b0;simp only[wpS];rw[aA,if_pos (by simp;omega)];simp only[wpS];rw[aO];refine⟨by simp;omega,?_⟩;rw[Int.toNat_natCast,mQ a0 hv];simp only[wpS];rw[bs_mkB,eP,aA];rw[List.drop_eq_getElem_cons a2,List.any_cons]at ha;by_cases h:keys[j]=t
  ·rw[if_pos (by simpa using h)];simp only[wpS,T95k0,T95k1];have:iZ t=true:=by rw[ha,h];simp
   rw[<-this];exact⟨_,rfl,hQ _ hF⟩
  ·rw[if_neg (by simpa using h)];simp only[wpS,T95k0,e1];refine⟨trivial,trivial,?_⟩;rw[ha];have:(t==keys[j])=false:=by simpa using fun e:t=keys[j]=>h e.symm
   rw[this,Bool.false_or]
 ·rintro st σ' ⟨rfl,rfl,ha⟩;unfold T95b0;simp only[wpS];rw[aA,if_neg (by simp)];simp only[wpS,T95k1];have:iZ t=false:=by rw[ha];try rfl
  rw[<-this];exact⟨_,rfl,hQ _ hF⟩
end
def wv(k:Int)(t:List UInt8)(a b:Int):Value:=.agg #[.int .i64 k,.string (mkB t),.int .i64 a,.int .i64 b]
theorem ext_at(S:List UInt8)(p n:Nat):(mkB S).extract p (p+n)=mkB ((S.drop p).take n):=by rw[ext_mkB,uT,List.drop_take,Nat.add_sub_cancel_left]
theorem mark_head{L:List UInt8}(hL:L≠[])(h:dU (bV L).1=4):∃b r,L=b::r/\(bV L).2=1:=by obtain⟨b,r,e,h1,_⟩:=qX hL h;refine⟨b,r,e,?_⟩;rw[e,mC h1]
theorem xX{S:List UInt8}{q:Nat}(h:q<S.length):∃b:UInt8,cJ (mkB S) q=((b.toNat:Nat):Int)/\S.drop q=b::S.drop (q+1):=⟨S.getD q 0,rfl,lC h⟩
section
variable{σ:aC}
theorem wp_wordD(S:List UInt8)(hl:S.length<=1000000){p:Nat}(hp:p<S.length){Q:Value->aC->Prop}
  (g4:(dE (S.drop p)).1≠0->∀σ',Frm σ σ' NoB->Q (.tuple #[wv (dE (S.drop p)).1 (dE (S.drop p)).2 ((p:Nat):Int) ((p+(dE (S.drop p)).2.length:Nat):Int),.bool true]) σ')
  (f3:(dE (S.drop p)).1=0->∀k t a b σ',Frm σ σ' NoB->Q (.tuple #[wv k t a b,.bool false]) σ'):WpF aG ovD 69 [.string (mkB S),.int .i64 ((p:Nat):Int)] σ Q:=by
 refine WpF.of (T69_eq _ _) rfl ?_;have c8:=cC S;have hL:S.drop p≠[]:=by simp;omega
 have g7:(S.drop p).length=S.length-p:=List.length_drop;have hw:=eI hL;rw[T69];refine aJ fun σ1 a8 i5 f7=>?_;generalize hA:σ.n=A at f7;rw[aO];refine⟨by simp only[Bool.and_eq_true,decide_eq_true_eq];omega,?_⟩;rw[Int.toNat_natCast,ext_to,aE];refine wp_first hL (by omega) fun σ2 a5=>?_;simp only[wpS];refine aJ fun σ3 f5 i4 f6=>?_;generalize hB:σ2.n=B at f6;have i6:A<B:=by have:=a5.n;omega
 refine aZ f6 rfl rfl fun σ4 f4 i3 b8=>?_;have e1:aP (((p:Nat):Int)+((bV (S.drop p)).2:Nat))=((p+(bV (S.drop p)).2:Nat):Int):=by rw[aS (by omega)];omega
 rw[e1]at b8;rw[aE,WpF.eq (vE (lW _) _),aQ];have e0:=f4.st (f5.stN (a5.stN f7)) (by omega);have b1:Frm σ σ4 NoB:=((a8.seq a5).seq f5).fresh f4 fun j hj h=>by have:=a8.n;have:=a5.n;omega
 have fail:∀(σ':aC) (zs:List Value),Frm σ σ' NoB->St σ' A zs->zs.length=4->(∃k t a b,zs=[.int .i64 k,.string (mkB t),.int .i64 a,.int .i64 b])->(dE (S.drop p)).1=0->
   Wp aG ovD (T69k9 ⟨A,0,some 0⟩ ⟨B,0,some 0⟩ .ret [.bool false]) σ' fun _ vs σ'=>∃v,vs=[v]/\Q v σ':=by
  rintro σ' _ hF hS hz ⟨k,t,a,b,rfl⟩ h0;simp only[wpS,T69k9];rw[aL hS 4 rfl];simp only[wpS];exact⟨_,rfl,f3 h0 k t a b σ' hF⟩
 have fine:∀(σ':aC) (k:Int) (t:List UInt8) (to:Nat),Frm σ σ' NoB->St σ' A [.int .i64 k,.string (mkB t),.int .i64 ((p:Nat):Int),.int .i64 ((to:Nat):Int)]->dE (S.drop p)=(k,t)->k≠0->to=p+t.length->
   Wp aG ovD (T69k9 ⟨A,0,some 0⟩ ⟨B,0,some 0⟩ .ret [.bool true]) σ' fun _ vs σ'=>∃v,vs=[v]/\Q v σ':=by
  rintro σ' k t to hF hS h0 hk rfl;simp only[wpS,T69k9];rw[aL hS 4 rfl];simp only[wpS];have:=g4 (by rw[h0];exact hk) σ' hF;rw[h0]at this;exact⟨_,rfl,this⟩
 rw[aF,aA];by_cases c1:dU (bV (S.drop p)).1=1
 ·rw[if_pos (by simpa using c1),aA];by_cases c2:(bV (S.drop p)).1=39
  ·have h0:dE (S.drop p)=(0,[]):=by unfold dE;rw[if_pos c1,if_pos c2]
   rw[if_pos (by simp;omega),aL b8 4 rfl];simp only[wpS];refine aZ e0 rfl rfl fun σ5 a7 f0 b7=>?_;simp only[wpS];exact fail σ5 _ (b1.fresh a7 fun j hj h=>by omega) b7 rfl ⟨_,[],_,_,rfl⟩ (by rw[h0])
  ·have h0:dE (S.drop p)=wH (S.drop p):=by unfold dE;rw[if_pos c1,if_neg c2]
   rw[if_neg (by simp;omega),aO];refine⟨by simp only[Bool.and_eq_true,decide_eq_true_eq];omega,?_⟩;rw[aE];refine wp_tail _ fun σ5 a7=>?_;have g3:=qJ (may:=lod) (S.drop p);have e2:aP (((p:Nat):Int)+(run lod (S.drop p):Nat))=((p+run lod (S.drop p):Nat):Int):=by rw[aS (by omega)];omega
   rw[aQ,e2];refine aT (a7.stN b8) (by simp) rfl fun σ6 b3 g6 a2=>?_;simp only[List.set_cons_succ,List.set_cons_zero]at a2;rw[aB a2 rfl,aQ,aO];refine⟨by simp only[Bool.and_eq_true,decide_eq_true_eq];omega,?_⟩;rw[Int.toNat_natCast,ext_at];refine aT a2 (by simp) rfl fun σ7 b4 e6 a4=>?_;simp only[List.set_cons_succ,List.set_cons_zero]at a4;have d5:Frm σ4 σ7 (· =B):=(a7.no.seq b3).seq b4;have d8:=d5.st e0 (by omega);have a6:Frm σ σ7 NoB:=b1.fresh d5 fun j hj h=>by have:=a8.n;have:=a5.n;omega
   rw[aF,aE,WpF.eq (ev_upper (lW _) _),bB];have last:∀(σ8:aC) (k:Int),Frm σ σ8 NoB->St σ8 A [.int .i64 0,.string (bs []),.int .i64 0,.int .i64 0]->St σ8 B [.int .i64 k,.string (mkB ((S.drop p).take (run lod (S.drop p)))),.int .i64 ((p:Nat):Int),.int .i64 ((p+run lod (S.drop p):Nat):Int)]->wH (S.drop p)=(k,(S.drop p).take (run lod (S.drop p)))->k≠0->
     Wp aG ovD (T69k2 ⟨B,0,some 0⟩ ⟨A,0,some 0⟩ .normal []) σ8 fun e vs σ'=>Wp aG ovD (T69k9 ⟨A,0,some 0⟩ ⟨B,0,some 0⟩ e vs) σ' fun _ vs σ'=>∃v,vs=[v]/\Q v σ':=by
    intro σ8 k a3 b6 a9 hk g8;simp only[wpS,T69k2];rw[aL a9 4 rfl];simp only[wpS];refine aZ b6 rfl rfl fun σ9 b0 e3 c0=>?_;simp only[wpS];exact fine σ9 k _ _ (a3.fresh b0 fun j hj h=>by omega) c0 (h0.trans hk) g8 (by rw[List.length_take];omega)
   rw[aF,aA];by_cases c3:isUpperU ((bV (S.drop p)).1:Nat)=true
   ·rw[if_pos c3];refine aT a4 (by simp) rfl fun σ8 a3 e5 a9=>?_;simp only[List.set_cons_zero]at a9;simp only[wpS,T69k1];exact last σ8 3 (a6.fresh a3 fun j hj h=>by have:=a8.n;have:=a5.n;omega) (a3.st d8 (by omega)) a9 (by unfold wH;rw[if_pos c3]) (by decide)
   ·rw[if_neg c3,aB a4 rfl,fH,aE];refine ev_key _ fun σ8 a3=>?_;rw[bB,aF,aA];have a9:=a3.stN a4;have b6:=a3.stN d8;have d6:=a6.seq a3;by_cases c4:iZ ((S.drop p).take (run lod (S.drop p)))=true
    ·rw[if_pos c4];refine aT a9 (by simp) rfl fun σ9 b0 e3 d7=>?_;simp only[List.set_cons_zero]at d7;simp only[wpS,T69k0,T69k1];exact last σ9 4 (d6.fresh b0 fun j hj h=>by have:=a8.n;have:=a5.n;omega) (b0.st b6 (by omega)) d7 (by unfold wH;rw[if_neg c3,if_pos c4]) (by decide)
    ·rw[if_neg c4];refine aT a9 (by simp) rfl fun σ9 b0 e3 d7=>?_;simp only[List.set_cons_zero]at d7;simp only[wpS,T69k0,T69k1];exact last σ9 2 (d6.fresh b0 fun j hj h=>by have:=a8.n;have:=a5.n;omega) (b0.st b6 (by omega)) d7 (by unfold wH;rw[if_neg c3,if_neg c4]) (by decide)
 rw[if_neg (by simpa using c1),aA];by_cases c2:dU (bV (S.drop p)).1=2
 ·have h0:dE (S.drop p)=if nA ((S.drop p).take (run dig (S.drop p))) 0=true then(1,(S.drop p).take (run dig (S.drop p))) else(0,[]):=by unfold dE;rw[if_neg c1,if_pos c2]
  rw[if_pos (by simpa using c2)];refine aT b8 (by simp) rfl fun σ5 a7 f0 b9=>?_;simp only[List.set_cons_succ,List.set_cons_zero]at b9;have b7:=a7.st e0 (by omega);have b5:Frm σ σ5 NoB:=b1.fresh a7 fun j hj h=>by have:=a8.n;have:=a5.n;omega
  have g3:=qJ (may:=dig) (S.drop p);refine Wp.loop (fun m st σ'=>∃(i:Nat) (v:Int),m=S.length-(p+i)/\i<=run dig (S.drop p)/\st=[.int .u64 v,.bool false]/\0<=v/\v<=4611686018427387903/\Frm σ σ' NoB/\St σ' A [.int .i64 0,.string (bs []),.int .i64 0,.int .i64 0]/\St σ' B [.int .i64 0,.string (bs []),.int .i64 ((p:Nat):Int),.int .i64 ((p+i:Nat):Int)]/\
    run dig (S.drop p)=i+run dig (S.drop (p+i))/\nA ((S.drop p).take (run dig (S.drop p))) 0=nA ((S.drop (p+i)).take (run dig (S.drop (p+i)))) v) (S.length-p)
   ⟨0,0,by omega,by omega,rfl,by omega,by omega,b5,b7,b9,by simp,by simp⟩ ?_
  rintro m st σ6 ⟨i,v,rfl,hi,rfl,i2,i1,b3,d9,a2,g0,a0⟩;unfold T69b0;simp only[wpS];rw[aB a2 rfl,aQ,aA];have stop:run dig (S.drop (p+i))=0->Wp aG ovD (T69k5 ⟨B,0,some 0⟩ ((p:Nat):Int) (mkB S) ⟨A,0,some 0⟩ (.exit 2) [.int .u64 v,.bool false]) σ6 fun e vs σ'=>Wp aG ovD (T69k9 ⟨A,0,some 0⟩ ⟨B,0,some 0⟩ e vs) σ' fun _ vs σ'=>∃v,vs=[v]/\Q v σ':=by
   intro hz;have g9:run dig (S.drop p)=i:=by omega
   rw[hz,List.take_zero]at a0;have hv:nA ((S.drop p).take (run dig (S.drop p))) 0=true:=a0;rw[if_pos hv]at h0;simp only[wpS,T69k5];rw[aB a2 rfl,aQ,aO];refine⟨by simp only[Bool.and_eq_true,decide_eq_true_eq];omega,?_⟩;refine aT a2 (by simp) rfl fun σ7 b4 e6 a4=>?_;simp only[List.set_cons_zero]at a4;rw[Int.toNat_natCast,Int.toNat_natCast,ext_at];refine aT a4 (by simp) rfl fun σ8 a3 e5 a9=>?_;simp only[List.set_cons_succ,List.set_cons_zero]at a9;rw[aL a9 4 rfl];simp only[wpS];have d0:=b4.seq a3;refine aZ (d0.st d9 (by omega)) rfl rfl fun σ9 b0 e3 c0=>?_;simp only[wpS];rw[<-g9]at c0;exact fine σ9 1 _ _ ((b3.fresh d0 fun j hj h=>by have:=a8.n;have:=a5.n;omega).fresh b0 fun j hj h=>by omega) c0 h0 (by decide) (by rw[List.length_take];omega)
  by_cases c3:p+i<S.length
  case neg=>rw[if_neg (by rw[c8];simp;omega)];simp only[wpS,T69k4];rw[aA,if_neg (by simp)];simp only[wpS];exact stop (by rw[List.drop_of_length_le (by omega)];rfl)
  obtain⟨b,f2,hd⟩:=xX c3;have b2:=run_dig (L:=S.drop (p+i));rw[hd]at b2;simp only at b2;rw[if_pos (by rw[c8];simp;omega),aB a2 rfl,aQ,aO];refine⟨by simp only[Bool.and_eq_true,decide_eq_true_eq];omega,?_⟩;rw[Int.toNat_natCast,f2,aA];by_cases c4:48<=(b).toNat
  case neg=>rw[if_neg (by simp;omega)];simp only[wpS,T69k4];rw[aA,if_neg (by simp)];simp only[wpS];rw[if_neg (by omega)]at b2;exact stop (by rw[hd];exact b2)
  rw[if_pos (by simp;omega),aB a2 rfl,aQ,aO];refine⟨by simp only[Bool.and_eq_true,decide_eq_true_eq];omega,?_⟩;simp only[wpS,T69k4,Int.toNat_natCast,f2];rw[aA];by_cases c5:(b).toNat<=57
  case neg=>rw[if_neg (by simp;omega)];simp only[wpS];rw[if_neg (by omega)]at b2;exact stop (by rw[hd];exact b2)
  rw[if_pos (by simp;omega)];rw[if_pos ⟨c4,c5⟩,<-hd]at b2;have f9:=valL_step (b:=b) (r:=(S.drop (p+(i+1))).take (run dig (S.drop (p+(i+1))))) (n:=v) ⟨c4,c5⟩;have e7:(S.drop (p+i)).take (run dig (S.drop (p+i)))=b::(S.drop (p+(i+1))).take (run dig (S.drop (p+(i+1)))):=by rw[b2,hd,Nat.add_comm 1,List.take_succ_cons];try rfl
  rw[e7,f9]at a0;have no:nA ((S.drop p).take (run dig (S.drop p))) 0=false->∀(v':Int),Wp aG ovD (.act (ldN 4 ⟨B,0,some 0⟩) fun v98=>asAgg v98 fun l99=>aU l99 fun v100 l101=>asInt .i64 v100 fun i102=>aU l101 fun v103 l104=>kF v103 fun s105=>aU l104 fun v106 l107=>asInt .i64 v106 fun i108=>aU l107 fun v109 l110=>asInt .i64 v109 fun i111=>aH l110 (.act (stC ⟨A,0,some 0⟩ [(.int .i64 i102),(.string s105),(.int .i64 i108),(.int .i64 i111)]) fun v112=>bM v112 fun l113=>aH l113 (.ret .ret [(.int .u64 v'),(.bool false)]))) σ6 fun e vs σ'=>Wp aG ovD (T69k3 ⟨B,0,some 0⟩ e vs) σ' fun e st' σ'_1=>match e with
     |.normal=>∃m',m'<S.length-(p+i)/\∃(i:Nat) (v:Int),m'=S.length-(p+i)/\i<=run dig (S.drop p)/\st'=[.int .u64 v,.bool false]/\0<=v/\v<=4611686018427387903/\Frm σ σ'_1 NoB/\St σ'_1 A [.int .i64 0,.string (bs []),.int .i64 0,.int .i64 0]/\St σ'_1 B [.int .i64 0,.string (bs []),.int .i64 ((p:Nat):Int),.int .i64 ((p+i:Nat):Int)]/\
      run dig (S.drop p)=i+run dig (S.drop (p+i))/\nA ((S.drop p).take (run dig (S.drop p))) 0=nA ((S.drop (p+i)).take (run dig (S.drop (p+i)))) v
     |e=>Wp aG ovD (T69k5 ⟨B,0,some 0⟩ ((p:Nat):Int) (mkB S) ⟨A,0,some 0⟩ e st') σ'_1 fun e vs σ'=>Wp aG ovD (T69k9 ⟨A,0,some 0⟩ ⟨B,0,some 0⟩ e vs) σ' fun _ vs σ'=>∃v,vs=[v]/\Q v σ':=by
   intro hv v';rw[if_neg (by rw[hv];simp)]at h0;rw[aL a2 4 rfl];simp only[wpS];refine aZ d9 rfl rfl fun σ9 b0 e3 c0=>?_;simp only[wpS,T69k3,T69k5];exact fail σ9 _ (b3.fresh b0 fun j hj h=>by omega) c0 rfl ⟨_,[],_,_,rfl⟩ (by rw[h0])
  rw[aF,aA];by_cases c6:v>461168601842738790
  ·rw[if_pos c6]at a0;rw[if_pos (by simpa using c6)];exact no a0 v
  rw[if_neg c6]at a0;have e8:sX ((sX (v*10))+(sX (wu8 (((b).toNat:Int)-48))))=10*v+(((b).toNat:Int)-48):=by have a1:wu8 (((b).toNat:Int)-48)=((b).toNat:Int)-48:=wu8_in (by omega);rw[a1];rw[wu64_in (n:=v*10) (by omega),wu64_in (n:=(b.toNat:Int)-48) (by omega),wu64_in (by omega)];omega
  rw[if_neg (by simpa using c6),aB a2 rfl,aQ,aO];refine⟨by simp only[Bool.and_eq_true,decide_eq_true_eq];omega,?_⟩;simp only[Int.toNat_natCast,f2,e8];rw[aA];by_cases c7:10*v+(((b).toNat:Int)-48)>4611686018427387903
  ·rw[if_pos c7]at a0;rw[if_pos (by simpa using c7)];exact no a0 _
  rw[if_neg c7]at a0;rw[if_neg (by simpa using c7)];simp only[wpS,T69k3];rw[aB a2 rfl,aQ];have e9:aP (((p+i:Nat):Int)+1)=((p+(i+1):Nat):Int):=by rw[aS (by omega)];omega
  rw[e9];refine aT a2 (by simp) rfl fun σ7 b4 e6 a4=>?_;simp only[List.set_cons_succ,List.set_cons_zero]at a4;simp only[wpS];refine⟨S.length-(p+(i+1)),by omega,i+1,_,rfl,by rw[Nat.add_assoc]at b2;omega,rfl,by omega,by omega,b3.fresh b4 fun j hj h=>by have:=a8.n;have:=a5.n;omega,b4.st d9 (by omega),a4,?_,a0⟩;rw[Nat.add_assoc]at b2;omega
 rw[if_neg (by simpa using c2),aA];by_cases c3:dU (bV (S.drop p)).1=4
 ·have h0:dE (S.drop p)=oW (S.drop p):=by unfold dE;rw[if_neg c1,if_neg c2,if_pos c3]
  obtain⟨b,r,e4,f8⟩:=mark_head hL c3;rw[f8]at b8;rw[if_pos (by simpa using c3)];refine aT b8 (by simp) rfl fun σ5 a7 f0 b9=>?_;simp only[List.set_cons_zero]at b9;have b7:=a7.st e0 (by omega);have b5:Frm σ σ5 NoB:=b1.fresh a7 fun j hj h=>by have:=a8.n;have:=a5.n;omega
  have next:∀c:Bool,(c=true↔(S.drop p).take 2=[58,61]\/(S.drop p).take 2=[45,62])->Wp aG ovD (T69k8 ⟨B,0,some 0⟩ ((p:Nat):Int) (mkB S) ⟨A,0,some 0⟩ .normal [.bool c]) σ5 fun e vs σ'=>Wp aG ovD (T69k9 ⟨A,0,some 0⟩ ⟨B,0,some 0⟩ e vs) σ' fun _ vs σ'=>∃v,vs=[v]/\Q v σ':=by
   intro c hc;have tail:∀(σ6:aC) (n:Nat) (t:List UInt8),Frm σ σ6 NoB->St σ6 A [.int .i64 0,.string (bs []),.int .i64 0,.int .i64 0]->St σ6 B [.int .i64 5,.string (bs []),.int .i64 ((p:Nat):Int),.int .i64 ((p+n:Nat):Int)]->n<=(S.drop p).length->(S.drop p).take n=t->((t≠[62]/\t≠[58]->oW (S.drop p)=(5,t))/\(t=[62]\/t=[58]->oW (S.drop p)=(0,[])))->
     Wp aG ovD (T69k7 ⟨B,0,some 0⟩ ((p:Nat):Int) (mkB S) ⟨A,0,some 0⟩ .normal []) σ6 fun e vs σ'=>Wp aG ovD (T69k9 ⟨A,0,some 0⟩ ⟨B,0,some 0⟩ e vs) σ' fun _ vs σ'=>∃v,vs=[v]/\Q v σ':=by
    rintro σ6 n t b3 d9 a2 hn rfl hm;simp only[wpS,T69k7];rw[aB a2 rfl,aQ,aO];refine⟨by simp only[Bool.and_eq_true,decide_eq_true_eq];omega,?_⟩;rw[Int.toNat_natCast,Int.toNat_natCast,ext_at];refine aT a2 (by simp) rfl fun σ7 b4 e6 a4=>?_;simp only[List.set_cons_succ,List.set_cons_zero]at a4;have a6:Frm σ σ7 NoB:=b3.fresh b4 fun j hj h=>by have:=a8.n;have:=a5.n;omega
    have d8:=b4.st d9 (by omega);simp only[wpS];rw[aL a4 4 rfl];simp only[wpS];rw[aB a4 rfl,fH,bR,aA];by_cases d1:(S.drop p).take n=[62]
    ·rw[if_neg (by simp[d1])];refine aZ d8 rfl rfl fun σ8 a3 e5 b6=>?_;simp only[wpS,T69k6];exact fail σ8 _ (a6.fresh a3 fun j hj h=>by omega) b6 rfl ⟨_,_,_,_,rfl⟩ (by rw[h0,hm.2 (.inl d1)])
    ·rw[if_pos (by simp[d1]),aB a4 rfl,fH];refine aZ d8 rfl rfl fun σ8 a3 e5 b6=>?_;have a9:=a3.st a4 (by omega);rw[bC,aO];refine⟨kI (a9.ldF rfl),?_⟩;simp only[wpS,T69k6,bR];by_cases d2:(S.drop p).take n=[58]
     ·rw[decide_eq_true d2];exact fail σ8 _ (a6.fresh a3 fun j hj h=>by omega) b6 rfl ⟨_,_,_,_,rfl⟩ (by rw[h0,hm.2 (.inr d2)])
     ·rw[decide_eq_false d2];exact fine σ8 5 _ _ (a6.fresh a3 fun j hj h=>by omega) b6 (by rw[h0,hm.1 ⟨d1,d2⟩]) (by decide) (by rw[List.length_take];omega)
   simp only[wpS,T69k8];rw[aA];by_cases d:c=true
   ·rw[if_pos d];have hd:=hc.1 d;have e2:aP (((p:Nat):Int)+2)=((p+2:Nat):Int):=by rw[aS (by omega)];omega
    rw[e2];refine aT b9 (by simp) rfl fun σ6 b3 g6 a2=>?_;simp only[List.set_cons_succ,List.set_cons_zero]at a2;simp only[wpS];have h2:2<=(S.drop p).length:=by
     rcases hd with hd|hd
     ·have:=congrArg List.length hd;simp at this;simp;omega
     ·have:=congrArg List.length hd;simp at this;simp;omega
    refine tail σ6 2 _ (b5.fresh b3 fun j hj h=>by have:=a8.n;have:=a5.n;omega) (b3.st b7 (by omega)) a2 h2 rfl ⟨fun _=>?_,fun h=>?_⟩
    ·unfold oW;rcases hd with hd|hd
     ·rw[if_pos hd,hd]
     ·rw[if_neg (by rw[hd];decide),if_pos hd,hd]
    ·rcases hd with hd|hd<;>rw[hd]at h<;>rcases h with h|h<;>cases h
   ·rw[if_neg d,wp_ret];have hd:¬((S.drop p).take 2=[58,61]\/(S.drop p).take 2=[45,62]):=fun h=>d (hc.2 h);rw[not_or]at hd;refine tail σ5 1 _ b5 b7 b9 (by rw[e4];simp) rfl ⟨fun h=>?_,fun h=>?_⟩
    ·unfold oW;rw[if_neg hd.1,if_neg hd.2,if_neg];rintro(h1|h1)
     ·apply h.1;rw[e4]at h1 ⊢;simp only[List.head?_cons,Option.some.injEq]at h1;rw[h1];try rfl
     ·apply h.2;rw[e4]at h1 ⊢;simp only[List.head?_cons,Option.some.injEq]at h1;rw[h1];try rfl
    ·unfold oW;rw[if_neg hd.1,if_neg hd.2,if_pos];rw[e4]at h ⊢;simp only[List.take_succ_cons,List.take_zero,List.cons.injEq,and_true]at h;rcases h with h|h
     ·left;rw[h];try rfl
     ·right;rw[h];try rfl
  rw[aF,aA];have e1:aP (((p:Nat):Int)+1)=((p+1:Nat):Int):=by rw[aS (by omega)];omega
  have i0:=lC hp;by_cases d1:p+1<S.length
  case neg=>
   rw[if_neg (by rw[e1,c8];simp;omega),wp_ret];refine next false ⟨fun h=>(Bool.noConfusion h),fun h=>?_⟩
   rcases h with h|h<;> · have:=congrArg List.length h;simp at this;omega
  have f1:=lC d1;have tk:∀x y:UInt8,(S.drop p).take 2=[x,y]↔S.getD p 0=x/\S.getD (p+1) 0=y:=by intro x y;rw[i0,f1];simp
  have g1:(decide (0<=((p:Nat):Int))&&decide (((p:Nat):Int)<((S.length:Nat):Int)))=true:=by simp;omega
  have g2:(decide (0<=((p+1:Nat):Int))&&decide (((p+1:Nat):Int)<((S.length:Nat):Int)))=true:=by simp only[Bool.and_eq_true,decide_eq_true_eq];omega
  have bt:∀{q:Nat} {x:UInt8} {X:Int},X=((x.toNat:Nat):Int)->(((cJ (mkB S) q)==X)=true↔S.getD q 0=x):=by intro q x X hX;rw[sS,hX,beq_iff_eq,u8_int]
  have arrow:S.getD p 0≠58\/S.getD (p+1) 0≠61->Wp aG ovD (grd ((decide (0<=((p:Nat):Int)))&&(decide (((p:Nat):Int)<((S.length:Nat):Int)))) (bif((cJ (mkB S) p)==45)==true then(grd ((decide (0<=((p+1:Nat):Int)))&&(decide (((p+1:Nat):Int)<((S.length:Nat):Int)))) (.ret .normal [(.bool ((cJ (mkB S) (p+1))==62))])) else(.ret .normal [(.bool false)]))) σ5 fun e vs σ'=>Wp aG ovD (T69k8 ⟨B,0,some 0⟩ ((p:Nat):Int) (mkB S) ⟨A,0,some 0⟩ e vs) σ' fun e vs σ'=>Wp aG ovD (T69k9 ⟨A,0,some 0⟩ ⟨B,0,some 0⟩ e vs) σ' fun _ vs σ'=>∃v,vs=[v]/\Q v σ':=by
   intro g5;have c9:¬(S.drop p).take 2=[58,61]:=by
    rw[tk];rintro⟨h1,h2⟩;rcases g5 with h|h
    ·exact h h1
    ·exact h h2
   rw[aO,aA];refine⟨g1,?_⟩;by_cases d3:S.getD p 0=45
   ·rw[if_pos (by simpa using (bt (X:=45) (x:=45) rfl).2 d3),aO,wp_ret];refine⟨g2,next _ ?_⟩;rw[bt (X:=62) (x:=62) rfl,tk 45 62];exact⟨fun h=>.inr ⟨d3,h⟩,fun h=>h.elim (fun h=>absurd h c9) fun h=>h.2⟩
   ·rw[if_neg (by simpa using fun h=>d3 ((bt (X:=45) (x:=45) rfl).1 (by simpa using h))),wp_ret];refine next false ⟨fun h=>(Bool.noConfusion h),fun h=>?_⟩
    rcases h with h|h
    ·exact absurd h c9
    ·exact absurd ((tk _ _).1 h).1 d3
  rw[if_pos (by rw[e1,c8];simp;omega),e1,c8];simp only[Int.toNat_natCast];rw[aO,aA];refine⟨g1,?_⟩;by_cases d2:S.getD p 0=58
  ·rw[if_pos (by simpa using (bt (X:=58) (x:=58) rfl).2 d2),aO,aA];refine⟨g2,?_⟩;by_cases d4:S.getD (p+1) 0=61
   ·have:=(bt (q:=p+1) (X:=61) (x:=61) rfl).2 d4;rw[if_neg (by rw[this];simp),wp_ret];exact next true ⟨fun _=>.inl ((tk _ _).2 ⟨d2,d4⟩),fun _=>rfl⟩
   ·have:((cJ (mkB S) (p+1))==61)=false:=by rw[Bool.eq_false_iff];exact fun h=>d4 ((bt (X:=61) (x:=61) rfl).1 h)
    rw[if_pos (by rw[this];rfl)];exact arrow (.inr d4)
  ·have:((cJ (mkB S) p)==58)=false:=by rw[Bool.eq_false_iff];exact fun h=>d2 ((bt (X:=58) (x:=58) rfl).1 h)
   rw[if_neg (by rw[this];simp)];exact arrow (.inl d2)
 ·have h0:dE (S.drop p)=(0,[]):=by unfold dE;rw[if_neg c1,if_neg c2,if_neg c3]
  rw[if_neg (by simpa using c3)];simp only[wpS,T69k9];rw[aL b8 4 rfl];simp only[wpS];refine aZ e0 rfl rfl fun σ5 a7 f0 b7=>?_;rw[aL b7 4 rfl];simp only[wpS];exact⟨_,rfl,f3 (by rw[h0]) _ [] _ _ σ5 (b1.fresh a7 fun j hj h=>by omega)⟩
end
def wc(w:Wd):List Value:=[.int .i64 w.k,.string (mkB w.t),.int .i64 w.fr,.int .i64 w.to]
def wcs(ws:List Wd):List Value:=ws.flatMap wc
theorem wcs_len(ws:List Wd):(wcs ws).length=ws.length*4:=by
 induction ws with
 |nil=>rfl
 |cons w r ih=>unfold wcs at ih ⊢;simp only[List.flatMap_cons,List.length_append,List.length_cons,ih];simp[wc];omega
theorem wcs_snoc(ws:List Wd)(w:Wd):wcs (ws++[w])=wcs ws++wc w:=by simp[wcs]
def comb(ws:List Wd):Except (Int×Nat) (List Wd)->Except (Int×Nat) (List Wd)
 |.ok l=>.ok (ws++l)
 |.error e=>.error e
section
variable{σ:aC}
theorem wp_lexD(S:List UInt8){Q:Value->aC->Prop}
  (d3:∀ws,S.length<=4000->zq S=.ok ws->∀σ' b p c,Frm σ σ' NoB->SlE σ' b p c 4 (wcs ws)->(p≠none->σ.n<=b)->ws.length<=2000->Q (.tuple #[.slice p ws.length c,.int .i64 0,.int .i64 0]) σ')
  (a3:4000<S.length\/(∃x,zq S=.error x)->∀e a σ',Frm σ σ' NoB->e≠0->Q (.tuple #[.slice none 0 0,.int .i64 e,.int .i64 a]) σ'):WpF aG ovD 41 [.string (mkB S)] σ Q:=by
 refine WpF.of (T41_eq _) rfl ?_;have a4:=cC S;rw[T41,aA];by_cases hl:4000<S.length
 ·rw[if_pos (by rw[a4];simp;omega)];simp only[wpS];exact⟨_,rfl,a3 (.inl hl) _ _ σ (Frm.refl _ _) (by decide)⟩
 rw[if_neg (by rw[a4];simp;omega)];refine Wp.loop (fun m st σ'=>∃(at':Nat) (ws:List Wd) (p:Option Addr) (c b:Nat),m=S.length-at'/\at'<=S.length/\ws.length<=2000/\st=[.slice p ws.length c,.int .i64 0,.int .i64 0,.slice none 0 0,.int .i64 ((at':Nat):Int)]/\Frm σ σ' NoB/\SlE σ' b p c 4 (wcs ws)/\(p≠none->σ.n<=b)/\zq S=comb ws (mZ (S.length+1) (S.drop at') at' ws.length)) S.length
  ⟨0,[],none,0,0,rfl,by omega,by simp,rfl,Frm.refl _ _,.inl ⟨rfl,rfl,rfl⟩,fun h=>absurd rfl h,?_⟩ ?_
 ·rw[List.drop_zero];unfold zq;simp only[List.length_nil];cases mZ (S.length+1) S 0 0<;>rfl
 rintro m st σ1 ⟨q,ws,p,c,b,rfl,hq,b6,rfl,d1,c7,a7,a0⟩;unfold T41b0;simp only[wpS];rw[aA,a4];by_cases h1:q<S.length
 case neg=>rw[if_neg (by simp;omega),wp_ret];have hd:S.drop q=[]:=List.drop_of_length_le (by omega);rw[hd,lexL_end]at a0;simp only[comb,List.append_nil]at a0;simp only[wpS,T41k2];exact⟨_,rfl,d3 ws (by omega) a0 σ1 b p c d1 c7 a7 b6⟩
 have hL:S.drop q≠[]:=by simp;omega
 have hw:=eI hL;have d6:(S.drop q).length=S.length-q:=List.length_drop;rw[if_pos (by simp;omega),aF,aO];refine⟨by simp only[Bool.and_eq_true,decide_eq_true_eq];omega,?_⟩;rw[Int.toNat_natCast,<-a4,ext_to,aE];refine wp_first hL (by omega) fun σ2 d0=>?_;simp only[wpS];rw[aE,WpF.eq (vE (lW _) _),aQ,aA];have a1:=d1.seq d0;have b3:=c7.frm d0 fun _ h=>h;by_cases c1:dU (bV (S.drop q)).1=3
 ·have e1:aP (((q:Nat):Int)+((bV (S.drop q)).2:Nat))=((q+(bV (S.drop q)).2:Nat):Int):=by rw[aS (by omega)];omega
  rw[if_pos (by simpa using c1)];simp only[wpS,T41k1,e1];refine⟨S.length-(q+(bV (S.drop q)).2),by omega,q+(bV (S.drop q)).2,ws,p,c,b,rfl,by omega,b6,by trivial,a1,b3,a7,?_⟩;rw[a0,xl (shift_blank hL (by simpa[blk]using c1)),List.drop_drop];try rfl
 rw[if_neg (by simpa using c1),aF,aA];have b7:blk (bV (S.drop q)).1=false:=by simpa[blk]using c1
 have key:∀r:Bool,(r=true↔(S.drop q).take 2=[40,42])->Wp aG ovD (T41k0 (mkB S) ((q:Nat):Int) p ws.length c 0 0 none 0 0 .normal [.bool r]) σ2 fun e vs σ'=>Wp aG ovD (T41k1 e vs) σ' fun e st' σ'=>match e with
   |.normal=>∃m',m'<S.length-q/\∃(at':Nat) (ws:List Wd) (p:Option Addr) (c b:Nat),m'=S.length-at'/\at'<=S.length/\ws.length<=2000/\st'=[.slice p ws.length c,.int .i64 0,.int .i64 0,.slice none 0 0,.int .i64 ((at':Nat):Int)]/\Frm σ σ' NoB/\SlE σ' b p c 4 (wcs ws)/\(p≠none->σ.n<=b)/\zq S=comb ws (mZ (S.length+1) (S.drop at') at' ws.length)
   |e=>Wp aG ovD (T41k2 e st') σ' fun _ vs σ'=>∃v,vs=[v]/\Q v σ':=by
  intro r hr;simp only[wpS,T41k0];rw[aA];by_cases c2:r=true
  ·have h2:=hr.1 c2;rw[if_pos c2,aE,WpF.eq (ev_remark S (by omega) h1 h2),aQ,aA];cases hm:rmk (S.drop q).length (S.drop q) 0 with
   |none=>rw[if_pos (by simp)];simp only[wpS,T41k1,T41k2];rw[lexL_rem h2 hm]at a0;exact⟨_,rfl,a3 (.inr ⟨_,a0⟩) _ _ σ2 a1 (by decide)⟩
   |some m=>have hb:=iW _ _ _ _ hm;rw[if_neg (by simp;omega)];simp only[wpS,T41k1];refine⟨S.length-(q+m),by omega,q+m,ws,p,c,b,rfl,by omega,b6,by trivial,a1,b3,a7,?_⟩;rw[a0,xl (shift_rem h2 hm),List.drop_drop]
  ·have h2:(S.drop q).take 2≠[40,42]:=fun h=>c2 (hr.2 h);have d2:=skp_here hL b7 h2;rw[lexL_word hL d2 _ _ _ (by omega)]at a0;rw[if_neg c2,aE];refine wp_wordD S (by omega) h1 ?_ ?_
   ·intro h5 σ3 a6;rw[if_neg h5]at a0;have hn:=(wz h5).ne hL;generalize e4:(dE (S.drop q)).1=kd at a0 h5 ⊢;generalize ht:(dE (S.drop q)).2=t at hn a0 ⊢;have e0:1<=t.length:=List.length_pos_iff.2 hn.1;unfold wv;simp only[wpS];have a8:=a1.seq a6;refine aJ fun σ4 b5 d5 b2=>?_;generalize hA:σ3.n=A at b2;have e6:σ.n<=A:=by rw[<-hA];exact a8.n
    refine aZ b2 rfl rfl fun σ5 b4 d4 c0=>?_;have a2:Frm σ σ5 NoB:=(a8.seq b5).fresh b4 fun j hj e=>by omega
    have c4:Frm σ2 σ5 NoB:=(a6.seq b5).fresh b4 fun j hj e=>by have:=a6.n;omega
    have d9:=b3.frm c4 fun _ h=>h;rw[aA,if_neg (by simp),aA];by_cases h6:2000<=ws.length
    ·rw[if_pos h6]at a0;rw[if_pos (by simp;omega)];simp only[wpS,T41k1,T41k2];exact⟨_,rfl,a3 (.inr ⟨_,a0⟩) _ _ σ5 a2 (by decide)⟩
    ·rw[if_neg h6]at a0;rw[if_neg (by simp;omega),aL c0 4 rfl];simp only[wpS];refine kV (ys:=wc ⟨kd,t,q,q+t.length⟩) d9 (wcs_len ws) (by decide) (by decide) rfl (by intro y hy;simp[wc]at hy;rcases hy with rfl|rfl|rfl|rfl<;>rfl) (by omega) (by omega) fun σ8 b8 off8 s8 c8 c9 c5 c6=>?_;have d8:St σ8 A [.int .i64 kd,.string (mkB t),.int .i64 ((q:Nat):Int),.int .i64 ((q+t.length:Nat):Int)]:=c9.st c0 fun h=>by have:=b3.lt h.1;have:=a6.n;omega
     rw[aB d8 (v:=.int .i64 ((q+t.length:Nat):Int)) rfl];simp only[wpS,T41k1];rw[<-wcs_snoc]at c6;refine⟨S.length-(q+t.length),by omega,q+t.length,ws++[⟨kd,t,q,q+t.length⟩],some ⟨b8,off8,some s8⟩,c8,b8,rfl,by omega,by simp;omega,by simp,a2.fresh c9 ?_,.inr ⟨off8,s8,rfl,c6⟩,?_,?_⟩
     ·intro j hj e;have:=a7 e.1;omega
     ·intro _;rcases c5 with⟨hp,rfl⟩|c5
      ·exact a7 hp
      ·have:=a2.n;omega
     ·rw[a0,List.drop_drop,List.length_append,List.length_singleton];cases mZ (S.length+1) (S.drop (q+t.length)) (q+t.length) (ws.length+1)with
      |ok l=>simp[comb]
      |error e=>rfl
   ·intro h5 k t a b' σ3 a6;rw[if_pos h5]at a0;unfold wv;simp only[wpS];refine aJ fun σ4 b5 d5 b2=>?_;refine aZ b2 rfl rfl fun σ5 b4 d4 c0=>?_;have a2:Frm σ σ5 NoB:=((a1.seq a6).seq b5).fresh b4 fun j hj e=>by have:=a1.n;have:=a6.n;omega
    rw[aA,if_pos (by simp)];simp only[wpS,T41k1,T41k2];exact⟨_,rfl,a3 (.inr ⟨_,a0⟩) _ _ σ5 a2 (by decide)⟩
 have e1:aP (((q:Nat):Int)+1)=((q+1:Nat):Int):=by rw[aS (by omega)];omega
 obtain⟨b0,e5,a9⟩:=xX h1;by_cases c2:(bV (S.drop q)).1=40
 ·obtain⟨b',r',e2,e3,_⟩:=yL hL (by omega);have a5:b0=40:=by rw[a9]at e2;cases e2;exact UInt8.toNat_inj.1 (by rw[e3,c2];rfl)
  rw[if_pos (by simp;omega),aA,e1];by_cases c3:q+1<S.length
  ·obtain⟨b1,b9,d7⟩:=xX c3;rw[if_pos (by rw[a4];simp;omega),aO];refine⟨by rw[a4];simp only[Bool.and_eq_true,decide_eq_true_eq];omega,?_⟩;rw[Int.toNat_natCast,b9,wp_ret];refine key _ ?_;rw[a9,d7,a5,beq_iff_eq];constructor
   ·intro h;have:b1=42:=(u8_int (a:=b1) (x:=42)).1 h;rw[this];try rfl
   ·intro h;simp at h;rw[h];try rfl
  ·rw[if_neg (by rw[a4];simp;omega),wp_ret];refine key false ⟨fun h=>(Bool.noConfusion h),fun h=>?_⟩;have:=congrArg List.length h;simp at this;omega
 ·rw[if_neg (by simp;omega),wp_ret];refine key false ⟨fun h=>(Bool.noConfusion h),fun h=>?_⟩;rw[a9]at h;have a5:b0=40:=(mF.1 h).1;rw[a9,a5]at c2;exact absurd (by rw[mC (by decide)];rfl) c2
theorem oneW_of{S:List UInt8}{ws:List Wd}(hl:S.length<=4000)(h:zq S=.ok ws)(k:Int):xR k S=decide (ws.length=1/\(ws.head?.map (fun w=>(w.k,w.t)))=some (k,S)):=by
 unfold xR;rw[if_neg (by omega),h]
 match ws with
 |[]=>simp
 |[w]=>simp[Bool.decide_and]
 |w::v::r=>simp
theorem oneW_err{S:List UInt8}(h:4000<S.length\/∃x,zq S=.error x)(k:Int):xR k S=false:=by
 unfold xR;rcases h with h|⟨x,h⟩
 ·rw[if_pos h]
 ·rw[h];split<;>rfl
theorem wp_name94(S:List UInt8){Q:Value->aC->Prop}(hQ:∀σ',Frm σ σ' NoB->Q (.bool (xR 2 S)) σ'):WpF aG ovD 117 [.string (mkB S)] σ Q:=by
 refine WpF.of (T117_eq _) rfl ?_;rw[T117,aE];have fin:∀(b:Bool) (σ':aC),Frm σ σ' NoB->b=xR 2 S->Wp aG ovD (T117k0 .normal [.bool b]) σ' fun _ vs σ'=>∃v,vs=[v]/\Q v σ':=by rintro b σ' hF rfl;simp only[wpS,T117k0];exact⟨_,rfl,hQ σ' hF⟩
 refine wp_lexD S ?_ ?_
 ·intro ws hl a0 σ1 b p c hF hR _ _;have e:=oneW_of hl a0 2;simp only[wpS];rw[aA,if_pos (by simp),aA];by_cases h1:ws.length=1
  ·rw[if_pos (by simp;omega)];obtain⟨w,rfl⟩:∃w,ws=[w]:=by
    match ws,h1 with
    |[w],_=>exact⟨w,rfl⟩
   rcases hR with⟨_,_,h⟩|⟨off,s,rfl,hR⟩
   ·simp[wcs,wc]at h
   have r0:=hR.ld (i:=0) (v:=.int .i64 w.k) rfl;have r1:=hR.ld (i:=1) (v:=.string (mkB w.t)) rfl;simp only[wpS];rw[aO];refine⟨by simp,?_⟩;rw[aV,show aadd (aadd ⟨b,off,some s⟩ 0) 0=⟨b,off+0,some s⟩ from rfl,r0];simp only[wpS];rw[aA];by_cases h2:w.k=2
   ·rw[if_pos (by simpa using h2),aO];refine⟨by simp,?_⟩;rw[aV,show aadd (aadd ⟨b,off,some s⟩ 0) 1=⟨b,off+1,some s⟩ from rfl,r1];simp only[wpS];rw[eP];exact fin _ σ1 hF (by rw[e];simp[h2])
   ·rw[if_neg (by simpa using h2),wp_ret];exact fin _ σ1 hF (by rw[e];simp[h2])
  ·rw[if_neg (by simp;omega),wp_ret];exact fin _ σ1 hF (by rw[e];simp[h1])
 ·intro he e a σ1 hF h0;simp only[wpS];rw[aA,if_neg (by simpa using h0),wp_ret];exact fin _ σ1 hF (by rw[oneW_err he])
theorem ut(S:List UInt8){Q:Value->aC->Prop}(hQ:∀σ',Frm σ σ' NoB->Q (.bool (conM S)) σ'):WpF aG ovD 99 [.string (mkB S)] σ Q:=by
 refine WpF.of (T99_eq _) rfl ?_;rw[T99,aE];have fin:∀(b:Bool) (σ':aC),Frm σ σ' NoB->b=xR 3 S->Wp aG ovD (T99k0 .normal [.bool b]) σ' fun _ vs σ'=>∃v,vs=[v]/\Q v σ':=by rintro b σ' hF rfl;simp only[wpS,T99k0];exact⟨_,rfl,hQ σ' hF⟩
 refine wp_lexD S ?_ ?_
 ·intro ws hl a0 σ1 b p c hF hR _ _;have e:=oneW_of hl a0 3;simp only[wpS];rw[aA,if_pos (by simp),aA];by_cases h1:ws.length=1
  ·rw[if_pos (by simp;omega)];obtain⟨w,rfl⟩:∃w,ws=[w]:=by
    match ws,h1 with
    |[w],_=>exact⟨w,rfl⟩
   rcases hR with⟨_,_,h⟩|⟨off,s,rfl,hR⟩
   ·simp[wcs,wc]at h
   have r0:=hR.ld (i:=0) (v:=.int .i64 w.k) rfl;have r1:=hR.ld (i:=1) (v:=.string (mkB w.t)) rfl;simp only[wpS];rw[aO];refine⟨by simp,?_⟩;rw[aV,show aadd (aadd ⟨b,off,some s⟩ 0) 0=⟨b,off+0,some s⟩ from rfl,r0];simp only[wpS];rw[aA];by_cases h2:w.k=3
   ·rw[if_pos (by simpa using h2),aO];refine⟨by simp,?_⟩;rw[aV,show aadd (aadd ⟨b,off,some s⟩ 0) 1=⟨b,off+1,some s⟩ from rfl,r1];simp only[wpS];rw[eP];exact fin _ σ1 hF (by rw[e];simp[h2])
   ·rw[if_neg (by simpa using h2),wp_ret];exact fin _ σ1 hF (by rw[e];simp[h2])
  ·rw[if_neg (by simp;omega),wp_ret];exact fin _ σ1 hF (by rw[e];simp[h1])
 ·intro he e a σ1 hF h0;simp only[wpS];rw[aA,if_neg (by simpa using h0),wp_ret];exact fin _ σ1 hF (by rw[oneW_err he])
theorem ye(S:List UInt8){Q:Value->aC->Prop}(hQ:∀σ',Frm σ σ' NoB->Q (.bool (uJ S)) σ'):WpF aG ovD 98 [.string (mkB S)] σ Q:=by
 refine WpF.of (T98_eq _) rfl ?_;rw[T98,aE];refine wp_name94 S fun σ1 hF=>?_;simp only[wpS,bR];have e:(xR 2 S&&!decide (S=[95]))=uJ S:=by unfold uJ;rw[decide_not]
 rw[e];exact⟨_,rfl,hQ σ1 hF⟩
end
abbrev bI(b:Nat):Value:=.pointer (some ⟨b,0,some 0⟩)
theorem bS(a:Addr)(i:Nat):aadd (aadd a 0) i=aadd a i:=rfl
theorem nG{σ:aC}{a:Addr}{n o k:Nat}{vs:List Value}(h:σ.rdN a n=some vs)(hk:o+k<=n):σ.rdN (aadd a o) k=some ((vs.drop o).take k):=by
 obtain⟨b,off,s⟩:=a;unfold aC.rdN at h ⊢;cases s with
 |none=>
  simp only[aadd]at h ⊢;obtain⟨h1,h2⟩:=qW _ _ _ h;have hl:((vs.drop o).take k).length=k:=by rw[List.length_take,List.length_drop];omega
  have:=yN (old:=σ.old) (b:=b) ((vs.drop o).take k) (off+o) fun i v hv=>by have hi:=(List.getElem?_eq_some_iff.1 hv).1;rw[List.getElem?_take_of_lt (by omega),List.getElem?_drop]at hv;rw[Nat.add_assoc];exact h2 _ _ hv
  rw[hl]at this;exact this
 |some s=>
  simp only[aadd]at h ⊢;split at h
  ·rename_i B hB;split at h
   ·rename_i hi a0;obtain⟨h1,h2⟩:=wF h;simp only[Option.some.injEq]at h2;simp only[Bool.and_eq_true,Nat.ble_eq]at h1;have h3:(Nat.ble B.dirty (s/64)&&Nat.ble (off+o+k) hi)=true:=by simp only[Bool.and_eq_true,Nat.ble_eq];omega
    rw[h3,cond_true,<-h2,List.drop_take,List.drop_drop,List.take_take,Nat.min_eq_left (by omega)]
   ·cases h
  ·cases h
structure Rdr(σ:aC)(B lo:Nat)(p:Option Addr)(cap:Nat)(ws:List Wd)(e:Nat)(r:Rs):Prop where
 st:St σ B [.slice p ws.length cap,.int .i64 ((r.p:Nat):Int),.int .i64 ((e:Nat):Int),.bool r.bad]
 row:aN σ (fun j=>j=B\/lo<=j) 4 (fun cs w=>cs=wc w) p ws
 low:lo<=σ.n
 len:ws.length<=2000
 el:e<=4000
 pl:r.p<=ws.length
section
variable{σ σ':aC}{B lo:Nat}{p:Option Addr}{cap:Nat}{ws:List Wd}{e:Nat}{r:Rs}
theorem Rdr.frm(h:Rdr σ B lo p cap ws e r)(f:Frm σ σ' NoB):Rdr σ' B lo p cap ws e r:=
 ⟨f.stN h.st,h.row.step f.no (fun _ _ h=>h) (fun _ _ h=>h) (fun _ _ h=>h),Nat.le_trans h.low f.n,h.len,h.el,h.pl⟩
theorem Rdr.to(h:Rdr σ B lo p cap ws e r)(f:Frm σ σ' (· =B)){r':Rs}(hp:r'.p<=ws.length)(hs:St σ' B [.slice p ws.length cap,.int .i64 ((r'.p:Nat):Int),.int .i64 ((e:Nat):Int),.bool r'.bad]):Rdr σ' B lo p cap ws e r':=
 ⟨hs,h.row.step f (fun _ _ h=>.inl h) (fun _ _ h=>h) (fun _ _ h=>h),Nat.le_trans h.low f.n,h.len,h.el,hp⟩
theorem Rdr.frmS{S:Nat->Prop}(h:Rdr σ B lo p cap ws e r)(f:Frm σ σ' S)(hB:¬S B)(hS:∀j,S j->lo<=j):Rdr σ' B lo p cap ws e r:=
 ⟨f.st h.st hB,h.row.step f (fun j _ h=>.inr (hS j h)) (fun _ _ h=>h) (fun _ _ h=>h),Nat.le_trans h.low f.n,h.len,h.el,h.pl⟩
theorem dX(h:Rdr σ B lo p cap ws e r):WpF aG ovD 44 [bI B] σ fun v σ'=>v=.agg (wc (wdM ws e r.p)).toArray/\Frm σ σ' NoB:=by
 refine WpF.of (T44_eq _) rfl ?_;rw[T44];refine aJ fun σ1 a2 a6 a3=>?_;have h1:=h.frm a2;simp only[wpS];rw[aB h1.st rfl];simp only[wpS];rw[aB h1.st rfl];simp only[wpS];rw[aA];by_cases hp:r.p<ws.length
 ·rw[if_pos (by simp;omega),aB h1.st rfl];simp only[wpS];rw[aB h1.st rfl];simp only[wpS];refine cX h1.row hp rfl fun cs a5=>?_;have e1:wdM ws e r.p=ws[r.p]:=by unfold wdM;rw[dif_pos hp]
  rw[a5,e1];unfold wc;simp only[wpS];refine aZ a3 rfl rfl fun σ2 a1 a4 a0=>?_;rw[aL a0 4 rfl,wp_ret];exact⟨_,rfl,rfl,a2.fresh a1 fun j hj h=>by omega⟩
 ·rw[if_neg (by simp;omega),aB h1.st rfl];simp only[wpS];rw[aB h1.st rfl];simp only[wpS];have e1:wdM ws e r.p=⟨0,[],e,e⟩:=by unfold wdM;rw[dif_neg hp]
  refine aZ a3 rfl rfl fun σ2 a1 a4 a0=>?_;rw[aL a0 4 rfl,wp_ret,e1];exact⟨_,rfl,rfl,a2.fresh a1 fun j hj h=>by omega⟩
theorem wp_is92(h:Rdr σ B lo p cap ws e r)(s:List UInt8):WpF aG ovD 96 [bI B,.string (mkB s)] σ fun v σ'=>v=.bool (isM ws e s r)/\Frm σ σ' NoB:=by
 refine WpF.of (T96_eq _ _) rfl ?_;rw[T96,aE];refine WpF.mono (dX h) ?_;rintro _ σ1 ⟨rfl,a1⟩;unfold wc;simp only[wpS];refine aJ fun σ2 a4 a6 a2=>?_;refine aZ a2 rfl rfl fun σ3 a3 a5 a0=>?_;have hF:Frm σ σ3 NoB:=(a1.seq a4).fresh a3 fun j hj h=>by have:=a1.n;omega
 have h3:=h.frm hF;simp only[wpS];rw[aB h3.st rfl];simp only[wpS];rw[aA];have fin:∀b:Bool,b=isM ws e s r->Wp aG ovD (T96k0 .normal [.bool b]) σ3 fun _ vs σ'=>∃v,vs=[v]/\v=.bool (isM ws e s r)/\Frm σ σ' NoB:=by rintro b rfl;simp only[wpS,T96k0];exact⟨_,rfl,rfl,hF⟩
 unfold isM at fin ⊢;by_cases hb:r.bad=true
 ·rw[if_neg (by simp[hb]),wp_ret];exact fin _ (by simp[hb])
 ·have hb:r.bad=false:=by simpa using hb
  rw[if_pos (by simp[hb]),aB a0 rfl];simp only[wpS];rw[aA];by_cases hk:(wdM ws e r.p).k>3
  ·rw[if_pos (by simpa using hk),aB a0 rfl];simp only[wpS];rw[eP];exact fin _ (by simp[hb,hk])
  ·rw[if_neg (by simpa using hk),wp_ret];exact fin _ (by simp[hb,hk])
def gQ(ws:List Wd)(e:Nat)(s:List UInt8)(r:Rs):Rs:=if isM ws e s r=true then r.next else r
theorem bX(h:Rdr σ B lo p cap ws e r)(s:List UInt8):WpF aG ovD 70 [bI B,.string (mkB s)] σ fun v σ'=>v=.bool (isM ws e s r)/\Rdr σ' B lo p cap ws e (gQ ws e s r)/\Frm σ σ' (· =B):=by
 refine WpF.of (T70_eq _ _) rfl ?_;rw[T70,aE];refine WpF.mono (wp_is92 h s) ?_;rintro _ σ1 ⟨rfl,a0⟩;have h1:=h.frm a0;simp only[wpS];rw[aA];unfold gQ;by_cases hm:isM ws e s r=true
 ·have hl:=bA hm;have a4:=h.len;rw[if_neg (by simp[hm]),aB h1.st rfl];simp only[wpS];have e1:aP (((r.p:Nat):Int)+1)=((r.p+1:Nat):Int):=by rw[aS (by omega)];omega
  rw[e1];refine aT h1.st (by simp) rfl fun σ2 a3 a5 a2=>?_;simp only[List.set_cons_succ,List.set_cons_zero]at a2;simp only[wpS,hm,if_true];exact⟨_,rfl,rfl,h1.to a3 hl.2 a2,a0.no.seq a3⟩
 ·have a1:isM ws e s r=false:=by simpa using hm
  rw[if_pos (by simp[a1]),wp_ret,if_neg hm];exact⟨_,rfl,by rw[a1],h1,a0.no⟩
theorem cH(h:Rdr σ B lo p cap ws e r)(s:List UInt8):WpF aG ovD 72 [bI B,.string (mkB s)] σ fun v σ'=>v=.tuple #[]/\Rdr σ' B lo p cap ws e (bQ ws e s r)/\Frm σ σ' (· =B):=by
 refine WpF.of (T72_eq _ _) rfl ?_;rw[T72,aE];refine WpF.mono (bX h s) ?_;rintro _ σ1 ⟨rfl,h1,a2⟩;simp only[wpS];rw[aA];unfold gQ at h1;unfold bQ;by_cases hm:isM ws e s r=true
 ·rw[if_pos hm]at h1 ⊢;rw[if_neg (by simp[hm])];simp only[wpS,T72k0];exact⟨_,rfl,rfl,h1,a2⟩
 ·rw[if_neg hm]at h1 ⊢;rw[if_pos (by simpa using hm)];refine aT h1.st (by simp) rfl fun σ2 a1 a3 a0=>?_;simp only[List.set_cons_succ,List.set_cons_zero]at a0;simp only[wpS,T72k0];exact⟨_,rfl,rfl,h1.to a1 h1.pl a0,a2.seq a1⟩
theorem gK(h:Rdr σ B lo p cap ws e r){k:Int}(hk:k≠0):WpF aG ovD 71 [bI B,.int .i64 k] σ fun v σ'=>v=.string (mkB (bK ws e k r).1)/\Rdr σ' B lo p cap ws e (bK ws e k r).2/\Frm σ σ' (· =B):=by
 refine WpF.of (T71_eq _ _) rfl ?_;rw[T71,aE];refine WpF.mono (dX h) ?_;rintro _ σ1 ⟨rfl,a4⟩;unfold wc;simp only[wpS];refine aJ fun σ2 b0 b2 a8=>?_;refine aZ a8 rfl rfl fun σ3 a9 b1 a3=>?_;have hF:Frm σ σ3 NoB:=(a4.seq b0).fresh a9 fun j hj h=>by have:=a4.n;omega
 have h3:=h.frm hF;have a7:σ1.n≠B:=by have:=h.st.1;have:=a4.n;omega
 simp only[wpS];rw[aB h3.st rfl];simp only[wpS];rw[aA];have no:(r.bad=true\/(wdM ws e r.p).k≠k\/(wdM ws e r.p).t=[95])->Wp aG ovD (T71k0 (some ⟨B,0,some 0⟩) ⟨σ1.n,0,some 0⟩ .normal [.bool true]) σ3 fun _ vs σ'=>∃v,vs=[v]/\v=.string (mkB (bK ws e k r).1)/\Rdr σ' B lo p cap ws e (bK ws e k r).2/\Frm σ σ' (· =B):=by
  intro hc;simp only[wpS,T71k0];rw[aA,if_pos rfl];refine aT h3.st (by simp) rfl fun σ4 a0 a5 a2=>?_;simp only[List.set_cons_succ,List.set_cons_zero]at a2;simp only[wpS];unfold bK;rw[if_pos hc];exact⟨_,rfl,rfl,h3.to a0 h.pl a2,hF.no.seq a0⟩
 by_cases hb:r.bad=true
 ·rw[if_neg (by simp[hb]),wp_ret];exact no (.inl hb)
 rw[if_pos (by simpa using hb),aB a3 rfl];simp only[wpS];rw[aA];by_cases a1:(wdM ws e r.p).k=k
 case neg=>rw[if_neg (by simpa using a1),wp_ret];exact no (.inr (.inl a1))
 rw[if_pos (by simpa using a1),aB a3 rfl];simp only[wpS];rw[bR];by_cases ht:(wdM ws e r.p).t=[95]
 ·rw[decide_eq_true ht];exact no (.inr (.inr ht))
 rw[decide_eq_false ht];simp only[wpS,T71k0];rw[aA,if_neg (by simp),aB h3.st rfl];simp only[wpS];have hl:r.p<ws.length:=zY (by rw[a1];exact hk);have a6:=h.len;have e1:aP (((r.p:Nat):Int)+1)=((r.p+1:Nat):Int):=by rw[aS (by omega)];omega
 rw[e1];refine aT h3.st (by simp) rfl fun σ4 a0 a5 a2=>?_;simp only[List.set_cons_succ,List.set_cons_zero]at a2;rw[aB (a0.st a3 a7) rfl];simp only[wpS];unfold bK;rw[if_neg (by simp[hb,a1,ht])];exact⟨_,rfl,rfl,h3.to a0 hl a2,hF.no.seq a0⟩
theorem lV(h:Rdr σ B lo p cap ws e r)(h1:1<=r.p):WpF aG ovD 158 [bI B] σ fun v σ'=>v=.int .i64 (nM ws e r)/\σ'=σ:=by
 refine WpF.of (T158_eq _) rfl ?_;rw[T158];simp only[wpS];rw[aB h.st rfl];simp only[wpS];rw[aB h.st rfl];simp only[wpS];have a2:=h.len;have a4:=h.pl;have e1:aP (((r.p:Nat):Int)-1)=((r.p-1:Nat):Int):=by rw[aS (by omega)];omega
 have a0:r.p-1<ws.length:=by omega
 obtain⟨x,cs,hx,_,a1,a3⟩:=h.row (r.p-1) a0;rw[hx,e1];simp only[wpS];rw[aO];refine⟨by simp only[Bool.and_eq_true,decide_eq_true_eq];omega,?_⟩;have e2:ld1 (aadd (aadd x ((r.p-1)*4)) 3) σ=some (.int .i64 ((ws[r.p-1].to:Nat):Int),σ):=by
  unfold ld1;have h4:σ.rdN (aadd (aadd x ((r.p-1)*4)) 3) 1=some [.int .i64 ((ws[r.p-1].to:Nat):Int)]:=by
   have:=nG (o:=3) (k:=1) a1 (by omega);rw[this,a3];try rfl
  rw[h4]
 rw[Int.toNat_natCast,aV,e2];simp only[wpS];have e3:nM ws e r=((ws[r.p-1].to:Nat):Int):=by unfold nM wdM;rw[dif_pos a0]
 rw[e3];exact⟨_,rfl,rfl,trivial⟩
theorem wp_in77{Y:Nat->Prop}{l:List (List UInt8)}{c:Nat}(h:aN σ Y 1 (fun cs t=>cs=[.string (mkB t)]) p l)(hl:l.length<=1000000)(s:List UInt8):
  WpF aG ovD 101 [.slice p l.length c,.string (mkB s)] σ fun v σ'=>v=.bool (l.contains s)/\σ'=σ:=by
 refine WpF.of (T101_eq _ _ _ _) rfl ?_;rw[T101];refine Wp.count l.length (fun j st σ'=>σ'=σ/\st=[.int .i64 ((j:Nat):Int),.bool false]/\l.contains s=(l.drop j).contains s) ⟨rfl,rfl,rfl⟩ ?_ ?_
 ·rintro j st σ' hj ⟨rfl,rfl,ha⟩;have e1:aP ((j:Int)+1)=((j+1:Nat):Int):=by rw[aS (by omega)];omega
  unfold T101b0;simp only[wpS];rw[aA,if_pos (by simp;omega),aF];obtain⟨x,cs,hx,_,a0,a1⟩:=h j hj;rw[hx];simp only[wpS];rw[aO];refine⟨by simp;omega,?_⟩;have e2:ld1 (aadd x (j*1)) σ'=some (.string (mkB l[j]),σ'):=by
   unfold ld1;rw[a0,a1]
  rw[Int.toNat_natCast,aV,e2];simp only[wpS];rw[eP,aA];rw[List.drop_eq_getElem_cons hj,List.contains_cons]at ha;by_cases he:l[j]=s
  ·rw[if_pos (by simpa using he)];simp only[wpS,T101k0,T101k1];rw[ha,he];simp
  ·rw[if_neg (by simpa using he)];simp only[wpS,T101k0,e1];refine⟨trivial,trivial,?_⟩;rw[ha];have:(s==l[j])=false:=by simpa using fun e:s=l[j]=>he e.symm
   rw[this,Bool.false_or]
 ·rintro st σ' ⟨rfl,rfl,ha⟩;unfold T101b0;simp only[wpS];rw[aA,if_neg (by simp)];simp only[wpS,T101k1];rw[ha,List.drop_length];simp
theorem contains_any(l:List (List UInt8))(s:List UInt8):l.contains s=l.any (s== ·):=by rw[List.contains_eq_any_beq]
theorem tY(h:Rdr σ B lo p cap ws e r):WpF aG ovD 149 [bI B] σ fun v σ'=>v=.bool (mO ws e r)/\Frm σ σ' NoB:=by
 refine WpF.of (T149_eq _) rfl ?_;rw[T149,aE];refine WpF.mono (dX h) ?_;rintro _ σ1 ⟨rfl,a6⟩;unfold wc;simp only[wpS];refine aJ fun σ2 b2 b4 b0=>?_;refine aZ b0 rfl rfl fun σ3 b1 b3 a0=>?_;have hF:Frm σ σ3 NoB:=(a6.seq b2).fresh b1 fun j hj h=>by have:=a6.n;omega
 have h3:=h.frm hF;simp only[wpS];rw[aB h3.st rfl];simp only[wpS];rw[aA];unfold mO;have no:Wp aG ovD (T149k2 ⟨σ1.n,0,some 0⟩ .normal [.bool true]) σ3 fun _ vs σ'=>∃v,vs=[v]/\v=.bool false/\Frm σ σ' NoB:=by simp only[wpS,T149k2];rw[aA,if_pos rfl];simp only[wpS];exact⟨_,rfl,rfl,hF⟩
 by_cases hb:r.bad=true
 ·rw[if_neg (by simp[hb]),wp_ret,if_pos (.inl hb)];exact no
 rw[if_pos (by simpa using hb),aB a0 rfl];simp only[wpS];by_cases a2:(wdM ws e r.p).k=0
 ·rw[if_pos (.inr a2),a2];exact no
 rw[if_neg (by simp[hb,a2]),show((wdM ws e r.p).k==0)=false by simpa using a2];simp only[wpS,T149k2];rw[aA,if_neg (by simp),aF,aB a0 rfl];simp only[wpS];rw[aA];have yes:Wp aG ovD (T149k1 ⟨σ1.n,0,some 0⟩ .normal [.bool true]) σ3 fun _ vs σ'=>∃v,vs=[v]/\v=.bool true/\Frm σ σ' NoB:=by simp only[wpS,T149k1];rw[aA,if_pos rfl];simp only[wpS];exact⟨_,rfl,rfl,hF⟩
 by_cases c1:(wdM ws e r.p).k=1
 ·rw[if_neg (by simp[c1]),wp_ret,if_pos (.inl c1)];exact yes
 rw[if_pos (by simpa using c1),aB a0 rfl];simp only[wpS];rw[aA];by_cases c3:(wdM ws e r.p).k=3
 ·rw[if_neg (by simp[c3]),wp_ret,if_pos (.inr (.inl c3))];exact yes
 rw[if_pos (by simpa using c3),aB a0 rfl];simp only[wpS];rw[aA];have row:¬((wdM ws e r.p).k=1\/(wdM ws e r.p).k=3\/(wdM ws e r.p).k=2/\(wdM ws e r.p).t≠[95])->Wp aG ovD (T149k1 ⟨σ1.n,0,some 0⟩ .normal [.bool false]) σ3 fun _ vs σ'=>∃v,vs=[v]/\v=.bool (decide ((wdM ws e r.p).k>3)&&begs.any ((wdM ws e r.p).t== ·))/\Frm σ σ' NoB:=by
  intro _;simp only[wpS,T149k1];rw[aA,if_neg (by simp),aV,cM];have a1:=Row.new σ3 1 (begs.map fun t=>Value.string (bs t)) 13 (by decide) (by simp[begs]) (by intro y hy;obtain⟨t,_,rfl⟩:=List.mem_map.1 hy;rfl);have a3:=Frm.new σ3 (begs.map fun t=>Value.string (bs t)) 1 NoB;have a9:begs.map (fun t=>Value.string (bs t))=[(.string (bs [114,101,102])),(.string (bs [33])),(.string (bs [112,114,105,110,116])),(.string (bs [114,97,105,115,101])),(.string (bs [116,114,117,101])),(.string (bs [102,97,108,115,101])),(.string (bs [114,101,97,100])),(.string (bs [40])),(.string (bs [102,117,110])),(.string (bs [108,101,116])),(.string (bs [105,102])),(.string (bs [109,97,116,99,104])),(.string (bs [116,114,121]))]:=rfl;rw[<-a9];generalize hσ:σ3.newBlk (begs.map fun t=>Value.string (bs t)) 1=σ4 at a1 a3 ⊢;have a4:=a3.stN a0;have a5:=hF.seq a3;simp only[wpS];rw[aB a4 rfl];simp only[wpS];rw[aA];by_cases c4:(wdM ws e r.p).k>3
  ·rw[if_pos (by simpa using c4),aB a4 rfl];simp only[wpS];have a7:aN σ4 NoB 1 (fun cs t=>cs=[.string (mkB t)]) (some ⟨σ3.n,0,some 1⟩) begs:=aN.own (css:=begs.map fun t=>[Value.string (bs t)]) (by rw[show(begs.map fun t=>[Value.string (bs t)]).flatten=begs.map fun t=>Value.string (bs t) from rfl];exact a1) (fun h=>h) (by simp) (by intro cs a8;obtain⟨t,_,rfl⟩:=List.mem_map.1 a8;rfl) (fun i h1 h2=>by simp[bs_mkB]);rw[aE];refine WpF.mono (wp_in77 (c:=13) a7 (by decide) (wdM ws e r.p).t) ?_;rintro _ _ ⟨rfl,rfl⟩;simp only[wpS,T149k0];rw[contains_any,decide_eq_true c4,Bool.true_and];exact⟨_,rfl,rfl,a5⟩
  ·rw[if_neg (by simpa using c4)];simp only[wpS,T149k0];rw[decide_eq_false c4,Bool.false_and];exact⟨_,rfl,rfl,a5⟩
 by_cases c2:(wdM ws e r.p).k=2
 ·rw[if_pos (by simpa using c2),aB a0 rfl];simp only[wpS];rw[bR];by_cases ct:(wdM ws e r.p).t=[95]
  ·rw[decide_eq_true ct,if_neg (by simp[c1,c3,ct])];exact row (by simp[c1,c3,ct])
  ·rw[decide_eq_false ct,if_pos (.inr (.inr ⟨c2,ct⟩))];exact yes
 ·rw[if_neg (by simpa using c2),wp_ret,if_neg (by simp[c1,c3,c2])];exact row (by simp[c1,c3,c2])
def ndc(x:Nd)(p:Option Addr)(n c:Nat):List Value:=[.int .i64 x.k,.int .i64 x.n,.string (mkB x.nm),.string (mkB x.pm),.slice none 0 0,.int .i64 x.fr,.int .i64 x.to,.slice p n c]
inductive TmB(σ:aC)(Y:Nat->Prop):Nat->Tm->Prop
 |mk {b:Nat} {x:Nd} {l:List Tm} {p:Option Addr} {c:Nat} (bl:List Nat) (hb:¬Y b) (hs:St σ b (ndc x p l.length c)) (hr:aN σ Y 1 (fun cs (j:Nat)=>cs=[bI j]) p bl) (hl:bl.length=l.length)
   (hk:∀i (h:i<bl.length) (h':i<l.length),TmB σ Y bl[i] l[i]):TmB σ Y b (.mk x l)
theorem TmB.step{Y Y' S:Nat->Prop}{b:Nat}{t:Tm}(f:Frm σ σ' S)(hS:∀j,j<σ.n->S j->Y j)(hY:∀j,j<σ.n->Y' j->Y j)(h:TmB σ Y b t):TmB σ' Y' b t:=by
 induction h with
 |mk bl hb hs hr hl hk ih=>exact .mk bl (fun h=>hb (hY _ hs.1 h)) (f.st hs fun h=>hb (hS _ hs.1 h)) (hr.step f hS hY fun _ _ h=>h) hl ih
theorem TmB.st{Y:Nat->Prop}{b:Nat}{t:Tm}(h:TmB σ Y b t):∃p c,St σ b (ndc t.a p t.args.length c):=by
 cases h with
 |mk bl hb hs hr hl hk=>exact⟨_,_,hs⟩
theorem tV{Y:Nat->Prop}{b off s c:Nat}{bl:List Nat}(h:Row σ b off s c 1 (bl.map bI))(hb:¬Y b):aN σ Y 1 (fun cs (j:Nat)=>cs=[bI j]) (some ⟨b,off,some s⟩) bl:=
 aN.own (css:=bl.map fun j=>[bI j]) (by
  have e:(bl.map fun j=>[bI j]).flatten=bl.map bI:=by
   clear h;induction bl with
   |nil=>rfl
   |cons j r ih=>rw[List.map_cons,List.flatten_cons,List.map_cons,<-ih];try rfl
  rw[e];exact h) hb (by simp) (by intro cs a0;obtain⟨t,_,rfl⟩:=List.mem_map.1 a0;rfl) (fun i h1 h2=>by simp)
abbrev cE(B n:Nat):Nat->Prop:=fun j=>j=B\/j<n
theorem TmB.frm{n b:Nat}{t:Tm}(f:Frm σ σ' (· =B))(h:TmB σ (cE B n) b t):TmB σ' (cE B n) b t:=h.step f (fun _ _ h=>.inl h) fun _ _ h=>h
theorem TmB.no{Y:Nat->Prop}{b:Nat}{t:Tm}(f:Frm σ σ' NoB)(h:TmB σ Y b t):TmB σ' Y b t:=h.step (S:=NoB) f (fun _ _ h=>h.elim) fun _ _ h=>h
theorem TmB.low{n m b:Nat}{t:Tm}(hn:m<=n)(h:TmB σ (cE B n) b t):TmB σ (cE B m) b t:=h.step (Frm.refl σ NoB) (fun _ _ h=>h.elim) fun _ _ h=>h.elim .inl fun h=>.inr (Nat.lt_of_lt_of_le h hn)
end
theorem chks_two{h k:Act}{v w:Value}{σ τ τ':aC}(e:h σ=some (v,τ))(e':k σ=some (w,τ')):chks [(h,v),(k,w)] σ=true:=by simp[chks,pK,e,e',lZ]
theorem ndc_len(x:Nd)(p:Option Addr)(n c:Nat):(ndc x p n c).length=8:=rfl
section
variable{σ σ':aC}{B lo:Nat}{p:Option Addr}{cap:Nat}{ws:List Wd}{e:Nat}{r:Rs}
theorem TmB.leaf{Y:Nat->Prop}{b:Nat}{x:Nd}(hb:¬Y b)(hs:St σ b (ndc x none 0 0)):TmB σ Y b (.mk x []):=.mk [] hb hs aN.nil rfl fun _ h=>absurd h (Nat.not_lt_zero _)
theorem wp_two73{Y:Nat->Prop}(hY:∀j,Y j->j<σ.n)(k:Int)(nm:List UInt8){a b:Nat}{ta tb:Tm}(ha:TmB σ Y a ta)(hb:TmB σ Y b tb):
  WpF aG ovD 74 [.int .i64 k,.string (mkB nm),bI a,bI b] σ fun v σ'=>∃c,v=bI c/\TmB σ' Y c (two k nm ta tb)/\Frm σ σ' NoB:=by
 refine WpF.of (T74_eq _ _ _ _) rfl ?_;rw[T74];obtain⟨pa,ca,sa⟩:=ha.st;obtain⟨pb,cb,sb⟩:=hb.st;simp only[wpS,bS];rw[aB sa (v:=.int .i64 ta.a.fr) rfl];simp only[wpS];rw[aB sb (v:=.int .i64 tb.a.to) rfl];simp only[wpS];rw[aV,cM];have a0:=Frm.new σ [bI a,bI b] 1 NoB;have a1:=Row.new σ 1 [bI a,bI b] 2 (by decide) rfl (by intro y hy;simp at hy;rcases hy with rfl|rfl<;>rfl);have a3:(σ.newBlk [bI a,bI b] 1).n=σ.n+1:=rfl;generalize σ.newBlk [bI a,bI b] 1=σ1 at a0 a1 a3 ⊢;simp only[wpS];rw[bC,aO];refine⟨chks_two ((a0.stN sb).ldF (v:=.int .i64 tb.a.to) rfl) ((a0.stN sa).ldF (v:=.int .i64 ta.a.fr) rfl),?_⟩;refine aJ fun σ2 a2 a5 a4=>?_;simp only[wpS];have hF:=a0.seq a2;refine⟨_,rfl,_,rfl,?_,hF⟩;refine .mk (p:=some ⟨σ.n,0,some 1⟩) (c:=2) [a,b] (fun h=>by have:=hY _ h;omega) a4 (tV (bl:=[a,b]) (a2.rowN a1) fun h=>by have:=hY _ h;omega) rfl ?_;intro i h h'
 match i,h with
 |0,_=>exact ha.no hF
 |1,_=>exact hb.no hF
theorem wp_none119{Q:Value->aC->Prop}(hQ:∀σ',Frm σ σ' NoB->(∀Y:Nat->Prop,(∀j,Y j->j<σ.n)->TmB σ' Y σ.n tI)->Q (bI σ.n) σ'):WpF aG ovD 152 [] σ Q:=by refine WpF.of T152_eq rfl ?_;rw[T152];refine aJ fun σ1 a1 a2 a0=>?_;simp only[wpS];exact⟨_,rfl,hQ σ1 a1 fun Y hY=>.leaf (x:={k:=3}) (fun h=>by have:=hY _ h;omega) a0⟩
theorem uY(h:Rdr σ B lo p cap ws e r)(hp:r.p<ws.length)(k n:Int)(nm:List UInt8):
  WpF aG ovD 153 [bI B,.agg #[.int .i64 k,.int .i64 n,.string (mkB nm),.string (bs []),.slice none 0 0,.int .i64 0,.int .i64 0]] σ fun v σ'=>∃b,v=bI b/\σ.n<=b/\b≠B/\St σ' b (ndc (jZ ws e k n nm r).a none 0 0)/\Rdr σ' B lo p cap ws e r.next/\Frm σ σ' (· =B):=by
 refine WpF.of (T153_eq _ _ _ _ _ _ _ _ _ _) rfl ?_;rw[T153];have hB:=h.st.1;refine aJ fun σ1 a4 c3 b4=>?_;rw[aE];refine WpF.mono (dX (h.frm a4)) ?_;rintro _ σ2 ⟨rfl,a1⟩;unfold wc;simp only[wpS];rw[aE];refine WpF.mono (dX ((h.frm a4).frm a1)) ?_;rintro _ σ3 ⟨rfl,a3⟩;unfold wc;simp only[wpS];have b3:=a3.stN (a1.stN b4);refine aT b3 (by simp) rfl fun σ4 b6 c0 a7=>?_;simp only[List.set_cons_succ,List.set_cons_zero]at a7;refine aT a7 (by simp) rfl fun σ5 b5 b9 a6=>?_;simp only[List.set_cons_succ,List.set_cons_zero]at a6;have c1:=a1.n;have b0:=a3.n;have a0:Frm σ σ5 NoB:=(((a4.seq a1).seq a3).fresh b6 fun j hj h=>by omega).fresh b5 fun j hj h=>by omega
 have h5:=h.frm a0;rw[aB h5.st rfl];simp only[wpS];have b1:=h.len;have e1:aP (((r.p:Nat):Int)+1)=((r.p+1:Nat):Int):=by rw[aS (by omega)];omega
 rw[e1];refine aT h5.st (by simp) rfl fun σ6 a2 b8 a5=>?_;simp only[List.set_cons_succ,List.set_cons_zero]at a5;rw[aL (a2.st a6 (by omega)) 7 rfl];simp only[wpS];refine aJ fun σ7 a8 b7 b2=>?_;simp only[wpS];have a9:=a0.n;refine⟨_,rfl,_,rfl,by omega,by omega,b2,(h5.to (r':=r.next) a2 hp a5).frm a8,(a0.no.seq a2).seq a8.no⟩
theorem valM_wrap(b:UInt8):aP (wu8 (((b.toNat:Nat):Int)-48))=(((b.toNat+208)%256:Nat):Int):=by have hb:=b.toNat_lt;rw[wu8_eq,aS (by omega)];omega
theorem ev_value(t:List UInt8)(hl:t.length<=1000000):EvF aG ovD 154 [.string (mkB t)] σ (.int .i64 (valM t 0)) σ:=by
 refine EvF.of (T154_eq _) rfl ?_;rw[T154];have a0:=cC t;refine Wp.count t.length (fun j st σ'=>σ'=σ/\∃n,st=[.int .i64 ((j:Nat):Int),.int .i64 n]/\valM t 0=valM (t.drop j) n) ⟨rfl,0,rfl,rfl⟩ ?_ ?_
 ·rintro j st σ' hj ⟨rfl,n,rfl,hv⟩;have e1:aP ((j:Int)+1)=((j+1:Nat):Int):=by rw[aS (by omega)];omega
  obtain⟨b,hb,hd⟩:=xX hj;unfold T154b0;simp only[wpS];rw[aA,a0,if_pos (by simp;omega),aF,aO];refine⟨by simp;omega,?_⟩;rw[Int.toNat_natCast,hb,valM_wrap];simp only[wpS,T154k0,e1];refine⟨trivial,_,rfl,?_⟩;rw[hv,hd,valM]
 ·rintro st σ' ⟨rfl,n,rfl,hv⟩;unfold T154b0;simp only[wpS];rw[aA,a0,if_neg (by simp)];simp only[wpS,T154k1];rw[hv,List.drop_length,valM];exact⟨rfl,trivial⟩
structure OpT(σ:aC)(Y:Nat->Prop)(b rb:Nat)(x:Nd)(l:List Tm)(bl:List Nat)(p:Option Addr)(c:Nat):Prop where
 hb:¬Y b
 hs:St σ b (ndc x p l.length c)
 row:SlE σ rb p c 1 (bl.map bI)
 hr:p≠none->¬Y rb/\rb≠b
 hl:bl.length=l.length
 hk:∀i (h:i<bl.length) (h':i<l.length),TmB σ (fun j=>Y j\/j=b\/p≠none/\j=rb) bl[i] l[i]
theorem OpT.start{Y:Nat->Prop}{b:Nat}{x:Nd}(hb:¬Y b)(hs:St σ b (ndc x none 0 0)):OpT σ Y b 0 x [] [] none 0:=
 ⟨hb,hs,.inl ⟨rfl,rfl,rfl⟩,fun h=>absurd rfl h,rfl,fun _ h=>absurd h (Nat.not_lt_zero _)⟩
theorem OpT.frm{Y S:Nat->Prop}{b rb:Nat}{x:Nd}{l:List Tm}{bl:List Nat}{p:Option Addr}{c:Nat}(h:OpT σ Y b rb x l bl p c)(f:Frm σ σ' S)(hS:∀j,j<σ.n->S j->Y j):OpT σ' Y b rb x l bl p c:=
 ⟨h.hb,f.st h.hs fun h1=>h.hb (hS _ h.hs.1 h1),h.row.frm f fun hp h1=>(h.hr hp).1 (hS _ (h.row.lt hp) h1),h.hr,h.hl,fun i h1 h2=>(h.hk i h1 h2).step f (fun j hj h3=>.inl (hS j hj h3)) fun _ _ h3=>h3⟩
theorem OpT.close{Y:Nat->Prop}{b rb:Nat}{x:Nd}{l:List Tm}{bl:List Nat}{p:Option Addr}{c:Nat}(h:OpT σ Y b rb x l bl p c):TmB σ Y b (.mk x l):=by
 refine .mk bl h.hb h.hs ?_ h.hl fun i h1 h2=>(h.hk i h1 h2).step (Frm.refl σ NoB) (fun _ _ h=>h.elim) fun _ _ h=>.inl h;rcases h.row with⟨rfl,_,h0⟩|⟨off,s,rfl,hR⟩
 ·have:bl=[]:=by simpa using h0
  rw[this];exact aN.nil
 ·exact tV hR (h.hr (by simp)).1
theorem wp_kid{Y:Nat->Prop}{b rb j:Nat}{x:Nd}{l:List Tm}{bl:List Nat}{p:Option Addr}{c:Nat}{t:Tm}{K:Pg}{Q:bW}(hY:∀j,Y j->j<σ.n)(h:OpT σ Y b rb x l bl p c)(b2:l.length<=100000)(ht:TmB σ (fun i=>Y i\/i=b\/p≠none/\i=rb) j t)
  (k:∀σ' rb' p' c',Frm σ σ' (fun i=>i=b\/p≠none/\i=rb)->OpT σ' Y b rb' x (l++[t]) (bl++[j]) p' c'->(σ.n<=rb'\/p≠none/\rb'=rb)->p'≠none->Wp aG ovD K σ' Q):
  Wp aG ovD (.get fun h1=>grd (chks [((ld1 (aadd ⟨b,0,some 0⟩ 7)),.slice p l.length c)] h1) (.act (tU 1 1 [bI j]) fun v=>aI v fun p1 n1 c1=>.get fun h2=>grd (chks [((ld1 (aadd ⟨b,0,some 0⟩ 7)),.slice p l.length c)] h2) (.act (apS 1 8 p l.length c p1 n1 c1) fun w=>aI w fun p2 n2 c2=>.act (stC (aadd ⟨b,0,some 0⟩ 7) [(.slice p2 n2 c2)]) fun v93=>bM v93 fun l94=>aH l94 K))) σ Q:=by
 refine wp_appC (len:=l.length) h.row (by rw[List.length_map,h.hl,Nat.mul_one]) (by decide) (by decide) rfl (by intro y hy;simp at hy;subst hy;rfl) (by omega) (by omega) (fun σ1 a1=>kI ((a1.stN h.hs).ldF rfl)) fun σ1 rb' off s c' a1 a0 b0=>?_;have a8:St σ1 b (ndc x p l.length c):=a1.st h.hs fun h1=>(h.hr h1.1).2 h1.2.symm;refine aT a8 (by rw[ndc_len];decide) rfl fun σ2 a5 b1 a9=>?_;have hF:Frm σ σ2 (fun i=>i=b\/p≠none/\i=rb):=a1.trans a5 (fun _ _ h=>.inr h) fun _ _ h=>.inl h;have a2:rb'≠b:=by
  rcases a0 with⟨hp,rfl⟩|a0
  ·exact(h.hr hp).2
  ·have:=h.hs.1;omega
 have a6:¬Y rb':=by
  rcases a0 with⟨hp,rfl⟩|a0
  ·exact(h.hr hp).1
  ·intro h1;have:=hY _ h1;omega
 have a4:∀i,i<σ.n->(Y i\/i=b\/some (⟨rb',off,some s⟩:Addr)≠none/\i=rb')->(Y i\/i=b\/p≠none/\i=rb):=by
  rintro i hi (h1|h1|⟨_,h1⟩)
  ·exact .inl h1
  ·exact .inr (.inl h1)
  ·subst h1;rcases a0 with⟨hp,rfl⟩|a0
   ·exact .inr (.inr ⟨hp,rfl⟩)
   ·omega
 refine k σ2 rb' (some ⟨rb',off,some s⟩) c' hF ⟨h.hb,?_,.inr ⟨off,s,rfl,?_⟩,fun _=>⟨a6,a2⟩,by simp[h.hl],?_⟩ (a0.elim .inr .inl) (by simp)
 ·rw[List.length_append];exact a9
 ·have:=a5.row b0 a2;simpa using this
 ·intro i h1 h2;have hS:∀j,j<σ.n->(fun i=>i=b\/p≠none/\i=rb) j->(Y j\/j=b\/p≠none/\j=rb):=fun _ _ h=>.inr h;by_cases hi:i<bl.length
  ·have a3:i<l.length:=by rw[<-h.hl];exact hi
   rw[List.getElem_append_left hi,List.getElem_append_left a3];exact(h.hk i hi a3).step hF hS a4
  ·have a7:i=bl.length:=by simp at h1;omega
   subst a7;have e1:(bl++[j])[bl.length]'h1=j:=by simp
   have e2:(l++[t])[bl.length]'h2=t:=by simp[h.hl]
   rw[e1,e2];exact ht.step hF hS a4
end
def fnum:Fn->FuncId
 |.expr=>43|.set=>73|.cmp=>97|.sum=>116|.mul=>130|.app=>142|.pre=>148|.atom=>151|.con=>155|.bracket=>156|.long=>157|.pat=>159
 |_=>0
section
variable(B lo:Nat)(p:Option Addr)(cap:Nat)(ws:List Wd)(e:Nat)
def RQ(σ:aC)(x:Tm×Rs)(v:Value)(σ':aC):Prop:=∃b,v=bI b/\TmB σ' (cE B σ.n) b x.1/\Rdr σ' B lo p cap ws e x.2/\Frm σ σ' (· =B)
def RIH(n:Nat):Prop:=∀(f:Fn) (r:Rs) (x:Tm×Rs) (σ:aC),f.eats=true->Pre ws f r->parse ws e n f r=some x->Rdr σ B lo p cap ws e r->WpF aG ovD (fnum f) [bI B] σ (RQ B lo p cap ws e σ x)
end
section
variable{σ σ':aC}{B lo:Nat}{p:Option Addr}{cap:Nat}{ws:List Wd}{e:Nat}{r:Rs}{x:Tm×Rs}{n:Nat}
theorem oY{σ3:aC}(hF:Frm σ σ3 (· =B))(hR:Rdr σ3 B lo p cap ws e r){a b:Nat}{A T:Tm}(ta:TmB σ3 (cE B σ.n) a A)(tb:TmB σ3 (cE B σ.n) b T)(k:Int)(nm:List UInt8){t:Tm}(ht:t=two k nm A T):
  WpF aG ovD 74 [.int .i64 k,.string (mkB nm),bI a,bI b] σ3 (RQ B lo p cap ws e σ (t,r)):=by
 subst ht;have hn:=hF.n;have hB:=hR.st.1;refine WpF.mono (wp_two73 (Y:=cE B σ.n) (fun j hj=>by rcases hj with rfl|hj;exact hB;omega) k nm ta tb) ?_;rintro _ σ4 ⟨c,rfl,tc,a0⟩;exact⟨c,rfl,tc,hR.frm a0,hF.seq a0.no⟩
theorem wp_expr(ih:RIH B lo p cap ws e n)(h:parse ws e (n+1) .expr r=some x)(hR:Rdr σ B lo p cap ws e r):WpF aG ovD 43 [bI B] σ (RQ B lo p cap ws e σ x):=by
 refine WpF.of (T43_eq _) rfl ?_;rw[T43,aE];rw[parse]at h;obtain⟨a,h1,h⟩:=aW h;refine WpF.mono (ih .set r a σ rfl trivial h1 hR) ?_;rintro _ σ1 ⟨ba,rfl,ta,a5,a6⟩;simp only[wpS];rw[aE];refine WpF.mono (bX a5 [59]) ?_;rintro _ σ2 ⟨rfl,a1,a2⟩;simp only[wpS];rw[aA];unfold gQ at a1;have a0:=a6.seq a2;by_cases hm:isM ws e [59] a.2=true
 ·rw[if_pos hm]at h a1;rw[if_pos hm];obtain⟨b,h2,h⟩:=aW h;have hx:=ofS h;subst hx;rw[aE];refine WpF.mono (ih .expr _ b σ2 rfl trivial h2 a1) ?_;rintro _ σ3 ⟨bb,rfl,tb,a4,a3⟩;simp only[wpS];rw[aE];refine WpF.mono (oY (a0.seq a3) a4 ((ta.frm a2).frm a3) (tb.low a0.n) 12 [] rfl) ?_;rintro _ σ4 ⟨c,rfl,hc⟩;simp only[wpS];exact⟨_,rfl,c,rfl,hc⟩
 ·rw[if_neg hm]at h a1;rw[if_neg hm];have hx:=ofS h;subst hx;simp only[wpS];exact⟨_,rfl,ba,rfl,ta.frm a2,a1,a0⟩
theorem wp_set'(ih:RIH B lo p cap ws e n)(h:parse ws e (n+1) .set r=some x)(hR:Rdr σ B lo p cap ws e r):WpF aG ovD 73 [bI B] σ (RQ B lo p cap ws e σ x):=by
 refine WpF.of (T73_eq _) rfl ?_;rw[T73,aE];rw[parse]at h;obtain⟨a,h1,h⟩:=aW h;refine WpF.mono (ih .cmp r a σ rfl trivial h1 hR) ?_;rintro _ σ1 ⟨ba,rfl,ta,a5,a6⟩;simp only[wpS];rw[aE];refine WpF.mono (bX a5 [58,61]) ?_;rintro _ σ2 ⟨rfl,a1,a2⟩;simp only[wpS];rw[aA];unfold gQ at a1;have a0:=a6.seq a2;by_cases hm:isM ws e [58,61] a.2=true
 ·rw[if_pos hm]at h a1;rw[if_pos hm];obtain⟨b,h2,h⟩:=aW h;have hx:=ofS h;subst hx;rw[aE];refine WpF.mono (ih .set _ b σ2 rfl trivial h2 a1) ?_;rintro _ σ3 ⟨bb,rfl,tb,a4,a3⟩;simp only[wpS];rw[aE];refine WpF.mono (oY (a0.seq a3) a4 ((ta.frm a2).frm a3) (tb.low a0.n) 13 [] rfl) ?_;rintro _ σ4 ⟨c,rfl,hc⟩;simp only[wpS];exact⟨_,rfl,c,rfl,hc⟩
 ·rw[if_neg hm]at h a1;rw[if_neg hm];have hx:=ofS h;subst hx;simp only[wpS];exact⟨_,rfl,ba,rfl,ta.frm a2,a1,a0⟩
theorem wp_cmp(ih:RIH B lo p cap ws e n)(h:parse ws e (n+1) .cmp r=some x)(hR:Rdr σ B lo p cap ws e r):WpF aG ovD 97 [bI B] σ (RQ B lo p cap ws e σ x):=by
 refine WpF.of (T97_eq _) rfl ?_;rw[T97,aE];rw[parse]at h;obtain⟨a,h1,h⟩:=aW h;refine WpF.mono (ih .sum r a σ rfl trivial h1 hR) ?_;rintro _ σ1 ⟨ba,rfl,ta,a9,b0⟩;simp only[wpS];rw[aE];refine WpF.mono (bX a9 [60]) ?_;rintro _ σ2 ⟨rfl,a4,a6⟩;simp only[wpS];rw[aA];unfold gQ at a4;have a2:=b0.seq a6;by_cases hm:isM ws e [60] a.2=true
 ·rw[if_pos hm]at h a4;rw[if_pos hm];obtain⟨b,h2,h⟩:=aW h;have hx:=ofS h;subst hx;rw[aE];refine WpF.mono (ih .sum _ b σ2 rfl trivial h2 a4) ?_;rintro _ σ3 ⟨bb,rfl,tb,a0,a3⟩;simp only[wpS];rw[aE];refine WpF.mono (oY (a2.seq a3) a0 ((ta.frm a6).frm a3) (tb.low a2.n) 14 [60] rfl) ?_;rintro _ σ4 ⟨c,rfl,hc⟩;simp only[wpS];exact⟨_,rfl,c,rfl,hc⟩
 ·rw[if_neg hm]at h a4;rw[if_neg hm,aE];refine WpF.mono (bX a4 [61]) ?_;rintro _ σ3 ⟨rfl,a0,a3⟩;simp only[wpS];rw[aA];unfold gQ at a0;have a1:=a2.seq a3;by_cases a5:isM ws e [61] a.2=true
  ·rw[if_pos a5]at h a0;rw[if_pos a5];obtain⟨b,h2,h⟩:=aW h;have hx:=ofS h;subst hx;rw[aE];refine WpF.mono (ih .sum _ b σ3 rfl trivial h2 a0) ?_;rintro _ σ4 ⟨bb,rfl,tb,a8,a7⟩;simp only[wpS];rw[aE];refine WpF.mono (oY (a1.seq a7) a8 (((ta.frm a6).frm a3).frm a7) (tb.low a1.n) 14 [61] rfl) ?_;rintro _ σ5 ⟨c,rfl,hc⟩;simp only[wpS];exact⟨_,rfl,c,rfl,hc⟩
  ·rw[if_neg a5]at h a0;rw[if_neg a5];have hx:=ofS h;subst hx;simp only[wpS];exact⟨_,rfl,ba,rfl,(ta.frm a6).frm a3,a0,a1⟩
theorem wp_sum(ih:∀m,m<=n->RIH B lo p cap ws e m)(h:parse ws e (n+1) .sum r=some x)(hR:Rdr σ B lo p cap ws e r):WpF aG ovD 116 [bI B] σ (RQ B lo p cap ws e σ x):=by
 refine WpF.of (T116_eq _) rfl ?_;rw[T116,aE];rw[parse]at h;obtain⟨a,h1,h⟩:=aW h;refine WpF.mono (ih n (Nat.le_refl _) .mul r a σ rfl trivial h1 hR) ?_;rintro _ σ1 ⟨ba,rfl,ta,a9,b1⟩;simp only[wpS];refine Wp.loop (fun m st σ'=>m<=n/\∃(a:Tm) (r':Rs) (ba:Nat),st=[bI ba]/\parse ws e m (.sumL a) r'=some x/\TmB σ' (cE B σ.n) ba a/\Rdr σ' B lo p cap ws e r'/\Frm σ σ' (· =B)) n ⟨Nat.le_refl _,a.1,a.2,ba,rfl,h,ta,a9,b1⟩ ?_;clear h h1 ta a9 b1;rintro m st σ2 ⟨hm,a,r',ba,rfl,h,ta,a8,b0⟩;cases m with
 |zero=>cases h
 |succ m=>
 rw[parse]at h;unfold T116b0;simp only[wpS];rw[aB a8.st rfl];simp only[wpS];rw[aA];by_cases hb:r'.bad=true
 ·rw[if_pos hb]at h;have hx:=ofS h;subst hx;rw[if_neg (by simp[hb])];simp only[wpS,T116k2];exact⟨_,rfl,ba,rfl,ta,a8,b0⟩
 rw[if_neg hb]at h;rw[if_pos (by simpa using hb),aF,aE];refine WpF.mono (bX a8 [43]) ?_;rintro _ σ3 ⟨rfl,a4,a6⟩;simp only[wpS];rw[aA];unfold gQ at a4;have a2:=b0.seq a6;by_cases c1:isM ws e [43] r'=true
 ·rw[if_pos c1]at h a4;rw[if_pos c1];obtain⟨b,h2,h⟩:=aW h;rw[aE];refine WpF.mono (ih m (by omega) .mul _ b σ3 rfl trivial h2 a4) ?_;rintro _ σ4 ⟨bb,rfl,tb,a0,a3⟩;simp only[wpS];rw[aE];refine WpF.mono (oY (a2.seq a3) a0 ((ta.frm a6).frm a3) (tb.low a2.n) 14 [43] rfl) ?_;rintro _ σ5 ⟨c,rfl,tc,a7,a5⟩;simp only[wpS,T116k0,T116k1];exact⟨m,by omega,by omega,_,_,c,rfl,h,tc,a7,a5⟩
 rw[if_neg c1]at h a4;rw[if_neg c1,aE];refine WpF.mono (bX a4 [45]) ?_;rintro _ σ4 ⟨rfl,a0,a3⟩;simp only[wpS];rw[aA];unfold gQ at a0;have a1:=a2.seq a3;by_cases c2:isM ws e [45] r'=true
 ·rw[if_pos c2]at h a0;rw[if_pos c2];obtain⟨b,h2,h⟩:=aW h;rw[aE];refine WpF.mono (ih m (by omega) .mul _ b σ4 rfl trivial h2 a0) ?_;rintro _ σ5 ⟨bb,rfl,tb,a7,a5⟩;simp only[wpS];rw[aE];refine WpF.mono (oY (a1.seq a5) a7 (((ta.frm a6).frm a3).frm a5) (tb.low a1.n) 14 [45] rfl) ?_;rintro _ σ6 ⟨c,rfl,tc,b2,b3⟩;simp only[wpS,T116k0,T116k1];exact⟨m,by omega,by omega,_,_,c,rfl,h,tc,b2,b3⟩
 rw[if_neg c2]at h a0;have hx:=ofS h;subst hx;rw[if_neg c2];simp only[wpS,T116k0,T116k1,T116k2];exact⟨_,rfl,ba,rfl,(ta.frm a6).frm a3,a0,a1⟩
theorem wp_mul(ih:∀m,m<=n->RIH B lo p cap ws e m)(h:parse ws e (n+1) .mul r=some x)(hR:Rdr σ B lo p cap ws e r):WpF aG ovD 130 [bI B] σ (RQ B lo p cap ws e σ x):=by
 refine WpF.of (T130_eq _) rfl ?_;rw[T130,aE];rw[parse]at h;obtain⟨a,h1,h⟩:=aW h;refine WpF.mono (ih n (Nat.le_refl _) .app r a σ rfl trivial h1 hR) ?_;rintro _ σ1 ⟨ba,rfl,ta,a3,a5⟩;simp only[wpS];refine Wp.loop (fun m st σ'=>m<=n/\∃(a:Tm) (r':Rs) (ba:Nat),st=[bI ba]/\parse ws e m (.mulL a) r'=some x/\TmB σ' (cE B σ.n) ba a/\Rdr σ' B lo p cap ws e r'/\Frm σ σ' (· =B)) n ⟨Nat.le_refl _,a.1,a.2,ba,rfl,h,ta,a3,a5⟩ ?_;clear h h1 ta a3 a5;rintro m st σ2 ⟨hm,a,r',ba,rfl,h,ta,a8,b0⟩;cases m with
 |zero=>cases h
 |succ m=>
 rw[parse]at h;unfold T130b0;simp only[wpS];rw[aE];refine WpF.mono (bX a8 [42]) ?_;rintro _ σ3 ⟨rfl,a1,a2⟩;simp only[wpS];rw[aA];unfold gQ at a1;have a0:=b0.seq a2;by_cases c1:isM ws e [42] r'=true
 ·rw[if_pos c1]at h a1;rw[if_pos c1,aF];obtain⟨b,h2,h⟩:=aW h;rw[aE];refine WpF.mono (ih m (by omega) .app _ b σ3 rfl trivial h2 a1) ?_;rintro _ σ4 ⟨bb,rfl,tb,a7,a4⟩;simp only[wpS];rw[aE];refine WpF.mono (oY (a0.seq a4) a7 ((ta.frm a2).frm a4) (tb.low a0.n) 14 [42] rfl) ?_;rintro _ σ5 ⟨c,rfl,tc,a6,a9⟩;simp only[wpS,T130k0];exact⟨m,by omega,by omega,_,_,c,rfl,h,tc,a6,a9⟩
 rw[if_neg c1]at h a1;have hx:=ofS h;subst hx;rw[if_neg c1];simp only[wpS,T130k1];exact⟨_,rfl,ba,rfl,ta.frm a2,a1,a0⟩
theorem wp_app(ih:∀m,m<=n->RIH B lo p cap ws e m)(h:parse ws e (n+1) .app r=some x)(hR:Rdr σ B lo p cap ws e r):WpF aG ovD 142 [bI B] σ (RQ B lo p cap ws e σ x):=by
 refine WpF.of (T142_eq _) rfl ?_;rw[T142,aE];rw[parse]at h;obtain⟨a,h1,h⟩:=aW h;refine WpF.mono (ih n (Nat.le_refl _) .pre r a σ rfl trivial h1 hR) ?_;rintro _ σ1 ⟨ba,rfl,ta,a4,a6⟩;simp only[wpS];refine Wp.loop (fun m st σ'=>m<=n/\∃(a:Tm) (r':Rs) (ba:Nat),st=[bI ba]/\parse ws e m (.appL a) r'=some x/\TmB σ' (cE B σ.n) ba a/\Rdr σ' B lo p cap ws e r'/\Frm σ σ' (· =B)) n ⟨Nat.le_refl _,a.1,a.2,ba,rfl,h,ta,a4,a6⟩ ?_;clear h h1 ta a4 a6;rintro m st σ2 ⟨hm,a,r',ba,rfl,h,ta,a3,b0⟩;cases m with
 |zero=>cases h
 |succ m=>
 rw[parse]at h;unfold T142b0;simp only[wpS];rw[aE];refine WpF.mono (tY a3) ?_;rintro _ σ3 ⟨rfl,a1⟩;simp only[wpS];rw[aA];have a0:=b0.seq a1.no;have a2:=a3.frm a1;by_cases c1:mO ws e r'=true
 ·rw[if_pos c1]at h;rw[if_pos c1,aF];obtain⟨b,h2,h⟩:=aW h;rw[aE];refine WpF.mono (ih m (by omega) .pre _ b σ3 rfl trivial h2 a2) ?_;rintro _ σ4 ⟨bb,rfl,tb,a8,a5⟩;simp only[wpS];rw[aE];refine WpF.mono (oY (a0.seq a5) a8 ((ta.no a1).frm a5) (tb.low a0.n) 7 [] rfl) ?_;rintro _ σ5 ⟨c,rfl,tc,a7,a9⟩;simp only[wpS,T142k0];exact⟨m,by omega,by omega,_,_,c,rfl,h,tc,a7,a9⟩
 rw[if_neg c1]at h;have hx:=ofS h;subst hx;rw[if_neg c1];simp only[wpS,T142k1];exact⟨_,rfl,ba,rfl,ta.no a1,a2,a0⟩
end
section
variable{σ σ':aC}{B lo:Nat}{p:Option Addr}{cap:Nat}{ws:List Wd}{e:Nat}{r:Rs}{x:Tm×Rs}{n:Nat}
def pws:List (List UInt8):=[kRef,[33],kPrint,kRaise]
def pks:List Int:=[15,16,17,19]
theorem preK_some{j:Nat}(hj:j<4)(h0:∀i,i<j->isM ws e (pws.getD i []) r=false)(h1:isM ws e (pws.getD j []) r=true):preK ws e r=some (pks.getD j 0):=by
 unfold preK
 match j,hj with
 |0,_=>simp only[pws,List.getD_cons_zero,List.getD_cons_succ]at h1;rw[if_pos h1];try rfl
 |1,_=>have a:=h0 0 (by omega);simp only[pws,List.getD_cons_zero,List.getD_cons_succ]at a h1;rw[a,if_neg (by simp),if_pos h1];try rfl
 |2,_=>have a:=h0 0 (by omega);have b:=h0 1 (by omega);simp only[pws,List.getD_cons_zero,List.getD_cons_succ]at a b h1;rw[a,b,if_neg (by simp),if_neg (by simp),if_pos h1];try rfl
 |3,_=>have a:=h0 0 (by omega);have b:=h0 1 (by omega);have c:=h0 2 (by omega);simp only[pws,List.getD_cons_zero,List.getD_cons_succ]at a b c h1;rw[a,b,c,if_neg (by simp),if_neg (by simp),if_neg (by simp),if_pos h1];try rfl
theorem preK_none(h0:∀i,i<4->isM ws e (pws.getD i []) r=false):preK ws e r=none:=by unfold preK;have a:=h0 0 (by omega);have b:=h0 1 (by omega);have c:=h0 2 (by omega);have d:=h0 3 (by omega);simp only[pws,List.getD_cons_zero,List.getD_cons_succ]at a b c d;rw[a,b,c,d];try rfl
theorem one_kid{Y:Nat->Prop}(hY:∀j,Y j->j<σ.n){a:Nat}{T:Tm}(ta:TmB σ Y a T)(x:Nd){f:Addr->Pg}{Q:bW}{ck:List (Act×Value)}(a4:∀σ',Frm σ σ' NoB->chks ck σ'=true)
  (k:∀σ' b,Frm σ σ' NoB->TmB σ' Y b (.mk x [T])->Wp aG ovD (f ⟨b,0,some 0⟩) σ' Q):
  Wp aG ovD (.act (tU 1 1 [bI a]) fun v43=>aI v43 fun p44 n45 n46=>.get fun a6=>grd (chks ck a6) (.act (newC [(.int .i64 x.k),(.int .i64 x.n),(.string (mkB x.nm)),(.string (mkB x.pm)),(.slice none 0 0),(.int .i64 x.fr),(.int .i64 x.to),(.slice p44 n45 n46)]) fun v47=>aR v47 fun p48=>aD p48 f)) σ Q:=by
 rw[aV,cM];have a0:=Frm.new σ [bI a] 1 NoB;have a1:=Row.new σ 1 [bI a] 1 (by decide) rfl (by intro y hy;simp at hy;subst hy;rfl);have a3:(σ.newBlk [bI a] 1).n=σ.n+1:=rfl;generalize σ.newBlk [bI a] 1=σ1 at a0 a1 a3 ⊢;simp only[wpS];rw[bC,aO];refine⟨a4 σ1 a0,?_⟩;refine aJ fun σ2 a2 a7 a5=>?_;have hF:=a0.seq a2;refine k σ2 σ1.n hF (.mk (p:=some ⟨σ.n,0,some 1⟩) (c:=1) [a] (fun h=>by have:=hY _ h;omega) a5 (tV (bl:=[a]) (a2.rowN a1) fun h=>by have:=hY _ h;omega) rfl ?_);intro i h h'
 match i,h with
 |0,_=>exact ta.no hF
theorem kX(hR:Rdr σ B lo p cap ws e r){m:Nat}(hm:m<=σ.n):∀j,cE B m j->j<σ.n:=fun j hj=>by
 rcases hj with rfl|hj
 ·exact hR.st.1
 ·omega
theorem wp_pre(ih:RIH B lo p cap ws e n)(h:parse ws e (n+1) .pre r=some x)(hR:Rdr σ B lo p cap ws e r):WpF aG ovD 148 [bI B] σ (RQ B lo p cap ws e σ x):=by
 refine WpF.of (T148_eq _) rfl ?_;rw[T148,aE];refine WpF.mono (dX hR) ?_;rintro _ σ1 ⟨rfl,b6⟩;unfold wc;simp only[wpS];rw[aV,cM];have b5:=Frm.new σ1 (pws.map fun t=>Value.string (bs t)) 1 NoB;have b3:=Row.new σ1 1 (pws.map fun t=>Value.string (bs t)) 4 (by decide) rfl (by intro y hy;obtain⟨t,_,rfl⟩:=List.mem_map.1 hy;rfl);have b9:(σ1.newBlk (pws.map fun t=>Value.string (bs t)) 1).n=σ1.n+1:=rfl;rw[show([(.string (bs [114,101,102])),(.string (bs [33])),(.string (bs [112,114,105,110,116])),(.string (bs [114,97,105,115,101]))]:List Value)=pws.map fun t=>Value.string (bs t) from rfl];generalize σ1.newBlk (pws.map fun t=>Value.string (bs t)) 1=σ2 at b5 b3 b9 ⊢;simp only[wpS];rw[aV,cM];have a8:=Frm.new σ2 (pks.map fun t=>Value.int .i64 t) 1 NoB;have b2:=Row.new σ2 1 (pks.map fun t=>Value.int .i64 t) 4 (by decide) rfl (by intro y hy;obtain⟨t,_,rfl⟩:=List.mem_map.1 hy;rfl);have b8:(σ2.newBlk (pks.map fun t=>Value.int .i64 t) 1).n=σ2.n+1:=rfl;rw[show([(.int .i64 15),(.int .i64 16),(.int .i64 17),(.int .i64 19)]:List Value)=pks.map fun t=>Value.int .i64 t from rfl];generalize σ2.newBlk (pks.map fun t=>Value.int .i64 t) 1=σ3 at a8 b2 b8 ⊢;simp only[wpS];have hB:=hR.st.1;have c5:=b6.n;have b0:=(b6.seq b5).seq a8;refine Wp.count 4 (fun j st σ'=>st=[.int .i64 ((j:Nat):Int),.pointer none]/\Frm σ3 σ' (· =B)/\Rdr σ' B lo p cap ws e r/\∀i,i<j->isM ws e (pws.getD i []) r=false) ⟨rfl,Frm.refl _ _,hR.frm b0,fun i hi=>by omega⟩ ?_ ?_
 ·rintro j st σ4 hj ⟨rfl,a0,a7,h0⟩;have e1:aP ((j:Int)+1)=((j+1:Nat):Int):=by rw[aS (by omega)];omega
  have a6:=a0.row (a8.rowN b3) (by omega);have a5:=a0.row b2 (by omega);have c0:=a0.n;unfold T148b0;simp only[wpS];rw[aA,if_pos (by simp;omega)];simp only[wpS];rw[aO];refine⟨by simp;omega,?_⟩;have b7:(pws.map fun t=>Value.string (bs t))[j]?=some (.string (bs (pws.getD j []))):=by have:j<pws.length:=hj;simp[List.getD,this]
  have b1:(pks.map fun t=>Value.int .i64 t)[j]?=some (.int .i64 (pks.getD j 0)):=by have:j<pks.length:=hj;simp[List.getD,this]
  rw[Int.toNat_natCast,mQ a6 b7];simp only[wpS];rw[aE];refine WpF.mono (bX a7 (pws.getD j [])) ?_;rintro _ σ5 ⟨rfl,a1,a2⟩;simp only[wpS];rw[aA];unfold gQ at a1;by_cases hm:isM ws e (pws.getD j []) r=true
  ·rw[if_pos hm]at a1;rw[if_pos hm,aE];have hk:=preK_some hj h0 hm;rw[parse,hk]at h;simp only at h;obtain⟨a,h1,h⟩:=aW h;have hx:=ofS h;subst hx;have c4:=a2.n;refine WpF.mono (ih .pre r.next a σ5 rfl trivial h1 a1) ?_;rintro _ σ6 ⟨ba,rfl,ta,b4,a9⟩;have c3:=a9.n;obtain⟨pa,ca,sa⟩:=ta.st;have a3:=a9.row (a2.row a5 (by omega)) (by omega);simp only[wpS];rw[aO];refine⟨by simp;omega,?_⟩;rw[mQ a3 b1];simp only[wpS,bS];rw[aB sa (v:=.int .i64 a.1.a.to) rfl];simp only[wpS];refine one_kid (Y:=cE B σ.n) (kX b4 (by omega)) (ta.low (by omega)) {k:=pks.getD j 0,fr:=(wdM ws e r.p).fr,to:=a.1.a.to} (fun σ7 a4=>chks_two ((a4.stN sa).ldF (v:=.int .i64 a.1.a.to) rfl) (by
    have e2:=(a4.rowN a3).ld b1;have e3:aadd ⟨σ2.n,0,some 1⟩ (j*1)=⟨σ2.n,0+j,some 1⟩:=by simp[aadd]
    rw[e3];exact e2)) fun σ7 b a4 hb=>?_
   simp only[wpS,T148k0,T148k1];exact⟨_,rfl,b,rfl,hb,b4.frm a4,((((b0.no.seq a0).seq a2).seq a9).seq a4.no)⟩
  ·rw[if_neg hm]at a1;rw[if_neg hm];simp only[wpS,T148k0,e1];refine⟨trivial,a0.seq a2,a1,fun i hi=>?_⟩;by_cases c1:i=j
   ·subst c1;simpa using hm
   ·exact h0 i (by omega)
 ·rintro st σ4 ⟨rfl,a0,a7,h0⟩;unfold T148b0;simp only[wpS];rw[aA,if_neg (by simp)];simp only[wpS,T148k1];rw[aE];rw[parse,preK_none h0]at h;simp only at h;have c0:=a0.n;refine WpF.mono (ih .atom r x σ4 rfl trivial h a7) ?_;rintro _ σ5 ⟨b,rfl,tb,a1,a2⟩;simp only[wpS];exact⟨_,rfl,b,rfl,tb.low (by omega),a1,(b0.no.seq a0).seq a2⟩
theorem wp_fell(hF:Frm σ σ' (· =B))(hR:Rdr σ' B lo p cap ws e r){Q:bW}(hQ:∀σ2 b,RQ B lo p cap ws e σ (tI,r.fell) (bI b) σ2->Q .ret [bI b] σ2):
  Wp aG ovD (.act (stC (aadd ⟨B,0,some 0⟩ 3) [(.bool true)]) fun v23=>bM v23 fun l24=>aH l24 (.call 152 [] fun v25=>aR v25 fun p26=>.ret .ret [(.pointer p26)])) σ' Q:=by
 have hn:=hF.n;refine aT hR.st (by simp) rfl fun σ2 a3 a4 a0=>?_;simp only[List.set_cons_succ,List.set_cons_zero]at a0;have a1:=hR.to (r':=r.fell) a3 hR.pl a0;rw[aE];refine wp_none119 fun σ3 a2 ht=>?_;simp only[wpS];exact hQ σ3 σ2.n ⟨_,rfl,ht _ (kX a1 (by omega)),a1.frm a2,(hF.seq a3).seq a2.no⟩
theorem one_RQ(hF:Frm σ σ' (· =B))(hR:Rdr σ' B lo p cap ws e r)(hp:r.p<ws.length)(k n:Int)(nm:List UInt8):
  WpF aG ovD 153 [bI B,.agg #[.int .i64 k,.int .i64 n,.string (mkB nm),.string (bs []),.slice none 0 0,.int .i64 0,.int .i64 0]] σ' (RQ B lo p cap ws e σ (jZ ws e k n nm r,r.next)):=by
 refine WpF.mono (uY hR hp k n nm) ?_;rintro _ σ2 ⟨b,rfl,hb,a0,hS,a1,a2⟩;have hn:=hF.n;exact⟨b,rfl,.leaf (x:=(jZ ws e k n nm r).a) (fun h=>by rcases h with h|h;exact a0 h;omega) hS,a1,hF.seq a2⟩
theorem wp_atom(ih:RIH B lo p cap ws e n)(h:parse ws e (n+1) .atom r=some x)(hR:Rdr σ B lo p cap ws e r)(ht:(wdM ws e r.p).t.length<=1000000):WpF aG ovD 151 [bI B] σ (RQ B lo p cap ws e σ x):=by
 refine WpF.of (T151_eq _) rfl ?_;rw[T151,aE];refine WpF.mono (dX hR) ?_;rintro _ σ1 ⟨rfl,a5⟩;unfold wc;simp only[wpS];refine aJ fun σ2 b1 b3 a7=>?_;refine aZ a7 rfl rfl fun σ3 b0 b2 a6=>?_;have hB:=hR.st.1;have b4:=a5.n;have a1:Frm σ σ3 NoB:=(a5.seq b1).fresh b0 fun j hj h=>by omega
 rw[aE];refine WpF.mono (tY (hR.frm a1)) ?_;rintro _ σ4 ⟨rfl,a4⟩;have a0:=a1.seq a4;have a3:=hR.frm a0;have a2:=a4.stN a6;simp only[wpS];rw[parse]at h;rw[aA];by_cases hb:mO ws e r=true
 case neg=>rw[if_neg hb]at h;have hx:=ofS h;subst hx;rw[if_pos (by simpa using hb)];exact wp_fell a0.no a3 fun σ5 b hq=>⟨_,rfl,hq⟩
 rw[if_pos hb]at h;have hl:=jU hb;rw[if_neg (by simp[hb]),aB a2 rfl];simp only[wpS];rw[aA];have one:∀(k n:Int) (nm:List UInt8),some (jZ ws e k n nm r,r.next)=some x->WpF aG ovD 153 [bI B,.agg #[.int .i64 k,.int .i64 n,.string (mkB nm),.string (bs []),.slice none 0 0,.int .i64 0,.int .i64 0]] σ4 (RQ B lo p cap ws e σ x):=fun k n nm hx=>by have hx:=ofS hx;subst hx;exact one_RQ a0.no a3 hl.2 k n nm
 have sub:∀{f:Fn},f.eats=true->Pre ws f r->parse ws e n f r=some x->WpF aG ovD (fnum f) [bI B] σ4 (RQ B lo p cap ws e σ x):=fun he hp hx=>by refine WpF.mono (ih _ r x σ4 he hp hx a3) ?_;rintro _ σ5 ⟨b,rfl,tb,a8,a9⟩;exact⟨b,rfl,tb.low a0.n,a8,a0.no.seq a9⟩
 by_cases c1:(wdM ws e r.p).k=1
 ·rw[if_pos c1]at h;rw[if_pos (by simpa using c1),aB a2 rfl];simp only[wpS];rw[aE,WpF.eq (ev_value _ ht)];simp only[wpS];rw[aE];refine WpF.mono (one _ _ _ h) ?_;rintro _ σ5 ⟨b,rfl,hq⟩;simp only[wpS,T151k1];exact⟨_,rfl,b,rfl,hq⟩
 rw[if_neg c1]at h;rw[if_neg (by simpa using c1),aA];by_cases c2:(wdM ws e r.p).k=2
 ·rw[if_pos c2]at h;rw[if_pos (by simpa using c2),aB a2 rfl];simp only[wpS];rw[aE];refine WpF.mono (one _ _ _ h) ?_;rintro _ σ5 ⟨b,rfl,hq⟩;simp only[wpS,T151k1];exact⟨_,rfl,b,rfl,hq⟩
 rw[if_neg c2]at h;rw[if_neg (by simpa using c2),aA];by_cases c3:(wdM ws e r.p).k=3
 ·rw[if_pos c3]at h;rw[if_pos (by simpa using c3),aE];refine WpF.mono (sub (f:=.con) rfl ⟨hl.2,hl.1⟩ h) ?_;rintro _ σ5 ⟨b,rfl,hq⟩;simp only[wpS,T151k1];exact⟨_,rfl,b,rfl,hq⟩
 rw[if_neg c3]at h;rw[if_neg (by simpa using c3)];simp only[wpS,T151k1];rw[aB a2 rfl];simp only[wpS,bR];rw[aA];by_cases c4:(wdM ws e r.p).t=tA
 ·rw[if_pos c4]at h;rw[if_pos (decide_eq_true c4),aE];refine WpF.mono (one 2 1 [] h) ?_;rintro _ σ5 ⟨b,rfl,hq⟩;simp only[wpS,T151k0];exact⟨_,rfl,b,rfl,hq⟩
 rw[if_neg c4]at h;rw[if_neg (fun hh=>c4 (of_decide_eq_true hh)),aA];by_cases c5:(wdM ws e r.p).t=oK
 ·rw[if_pos c5]at h;rw[if_pos (decide_eq_true c5),aE];refine WpF.mono (one 2 0 [] h) ?_;rintro _ σ5 ⟨b,rfl,hq⟩;simp only[wpS,T151k0];exact⟨_,rfl,b,rfl,hq⟩
 rw[if_neg c5]at h;rw[if_neg (fun hh=>c5 (of_decide_eq_true hh)),aA];by_cases c6:(wdM ws e r.p).t=kRead
 ·rw[if_pos c6]at h;rw[if_pos (decide_eq_true c6),aE];refine WpF.mono (one 18 0 [] h) ?_;rintro _ σ5 ⟨b,rfl,hq⟩;simp only[wpS,T151k0];exact⟨_,rfl,b,rfl,hq⟩
 rw[if_neg c6]at h;rw[if_neg (fun hh=>c6 (of_decide_eq_true hh)),aA];by_cases c7:(wdM ws e r.p).t=[40]
 ·rw[if_pos c7]at h;rw[if_pos (decide_eq_true c7),aE];refine WpF.mono (sub (f:=.bracket) rfl hl.1 h) ?_;rintro _ σ5 ⟨b,rfl,hq⟩;simp only[wpS,T151k0];exact⟨_,rfl,b,rfl,hq⟩
 rw[if_neg c7]at h;rw[if_neg (fun hh=>c7 (of_decide_eq_true hh))];simp only[wpS,T151k0];rw[aE];refine WpF.mono (sub (f:=.long) rfl trivial h) ?_;rintro _ σ5 ⟨b,rfl,hq⟩;simp only[wpS];exact⟨_,rfl,b,rfl,hq⟩
theorem wp_bracket(ih:RIH B lo p cap ws e n)(h:parse ws e (n+1) .bracket r=some x)(hR:Rdr σ B lo p cap ws e r):WpF aG ovD 156 [bI B] σ (RQ B lo p cap ws e σ x):=by
 refine WpF.of (T156_eq _) rfl ?_;rw[T156,aE];refine WpF.mono (dX hR) ?_;rintro _ σ1 ⟨rfl,a5⟩;unfold wc;simp only[wpS];rw[aE];refine WpF.mono (cH (hR.frm a5) [40]) ?_;rintro _ σ2 ⟨rfl,a9,b1⟩;simp only[wpS];rw[aE];refine WpF.mono (bX a9 [41]) ?_;rintro _ σ3 ⟨rfl,a0,b0⟩;simp only[wpS];rw[parse]at h;rw[aA];unfold gQ at a0;have a1:=(a5.no.seq b1).seq b0;have a3:=a1.n;by_cases hm:isM ws e [41] (bQ ws e [40] r)=true
 ·rw[if_pos hm]at h a0;have hx:=ofS h;subst hx;rw[if_pos hm,aE];refine WpF.mono (lV a0 (Nat.le_add_left _ _)) ?_;rintro _ _ ⟨rfl,rfl⟩;simp only[wpS];refine aJ fun σ4 a2 b2 a6=>?_;simp only[wpS];refine⟨_,rfl,_,rfl,.leaf (x:={k:=3,fr:=(wdM ws e r.p).fr,to:=nM ws e (bQ ws e [40] r).next}) (fun h=>by have:=kX a0 a3 _ h;omega) a6,a0.frm a2,a1.seq a2.no⟩
 ·rw[if_neg hm]at h a0;rw[if_neg hm];obtain⟨a,h1,h⟩:=aW h;have hx:=ofS h;subst hx;rw[aE];refine WpF.mono (ih .expr _ a σ3 rfl trivial h1 a0) ?_;rintro _ σ4 ⟨ba,rfl,ta,a8,a2⟩;simp only[wpS];rw[aE];refine WpF.mono (cH a8 [41]) ?_;rintro _ σ5 ⟨rfl,a7,a4⟩;simp only[wpS];exact⟨_,rfl,ba,rfl,(ta.low a3).frm a4,a7,(a1.seq a2).seq a4⟩
end
section
variable{σ σ':aC}{B lo:Nat}{p:Option Addr}{cap:Nat}{ws:List Wd}{e:Nat}{r:Rs}{x:Tm×Rs}{n:Nat}
theorem Rdr.cell(h:Rdr σ B lo p cap ws e r){i:Nat}(hi:i<ws.length):∃y,p=some y/\∀(o:Nat) (v:Value),(wc ws[i])[o]?=some v->ld1 (aadd (aadd y (i*4)) o) σ=some (v,σ):=by obtain⟨y,cs,hy,_,a0,a1⟩:=h.row i hi;refine⟨y,hy,fun o v hv=>?_⟩;subst a1;have ho:o<4:=(List.getElem?_eq_some_iff.1 hv).1;unfold ld1;rw[nG (o:=o) (k:=1) a0 (by omega),List.drop_eq_getElem_cons (show o<(wc ws[i]).length from ho),List.take_succ_cons,List.take_zero,(List.getElem?_eq_some_iff.1 hv).2]
theorem wdM_at{i:Nat}(hi:i<ws.length):wdM ws e i=ws[i]:=by unfold wdM;rw[dif_pos hi]
theorem OpT.low{m b rb:Nat}{y:Nd}{l:List Tm}{bl:List Nat}{q:Option Addr}{c:Nat}(h:OpT σ (cE B m) b rb y l bl q c):b≠B/\m<=b/\(q≠none->rb≠B/\m<=rb):=by
 refine⟨fun h1=>h.hb (.inl h1),?_,fun hq=>⟨fun h1=>(h.hr hq).1 (.inl h1),?_⟩⟩
 ·have:=h.hb;simp only[cE,not_or]at this;omega
 ·have:=(h.hr hq).1;simp only[cE,not_or]at this;omega
theorem wp_setTo{Y:Nat->Prop}{b rb:Nat}{y:Nd}{l:List Tm}{bl:List Nat}{q:Option Addr}{c:Nat}{K:Pg}{Q:bW}(h:OpT σ Y b rb y l bl q c)(i:Int)
  (k:∀σ',Frm σ σ' (· =b)->OpT σ' Y b rb {y with to:=i} l bl q c->Wp aG ovD K σ' Q):
  Wp aG ovD (.act (stC (aadd ⟨b,0,some 0⟩ 6) [(.int .i64 i)]) fun v106=>bM v106 fun l107=>aH l107 K) σ Q:=by
 refine aT h.hs (by rw[ndc_len];decide) rfl fun σ1 a0 a2 a1=>?_;refine k σ1 a0 ⟨h.hb,a1,h.row.frm a0 fun hq h1=>(h.hr hq).2 h1,h.hr,h.hl,fun i h1 h2=>(h.hk i h1 h2).step a0 (fun _ _ h=>.inr (.inl h)) fun _ _ h=>h⟩
theorem yD{σ0:aC}{b rb j:Nat}{y:Nd}{l:List Tm}{bl:List Nat}{q:Option Addr}{c:Nat}{t:Tm}{K:Pg}{Q:bW}(a2:Frm σ0 σ (· =B))(h:OpT σ (cE B σ0.n) b rb y l bl q c)(a3:l.length<=100000)(hlo:lo<=σ0.n)
  {m:Nat} (hm:b<m/\(q≠none->rb<m)) (ht:TmB σ (cE B m) j t) (hR:Rdr σ B lo p cap ws e r)
  (k:∀σ' rb' p' c',Frm σ0 σ' (· =B)->Rdr σ' B lo p cap ws e r->OpT σ' (cE B σ0.n) b rb' y (l++[t]) (bl++[j]) p' c'->Wp aG ovD K σ' Q):
  Wp aG ovD (.get fun h1=>grd (chks [((ld1 (aadd ⟨b,0,some 0⟩ 7)),.slice q l.length c)] h1) (.act (tU 1 1 [bI j]) fun v=>aI v fun p1 n1 c1=>.get fun h2=>grd (chks [((ld1 (aadd ⟨b,0,some 0⟩ 7)),.slice q l.length c)] h2) (.act (apS 1 8 q l.length c p1 n1 c1) fun w=>aI w fun p2 n2 c2=>.act (stC (aadd ⟨b,0,some 0⟩ 7) [(.slice p2 n2 c2)]) fun v93=>bM v93 fun l94=>aH l94 K))) σ Q:=by
 have a0:=h.low;have hn:=a2.n;refine wp_kid (kX hR hn) h a3 (ht.step (Frm.refl σ NoB) (fun _ _ h=>h.elim) ?_) fun σ1 rb' p' c' a1 hO a4 a5=>?_
 ·rintro i _ (h1|h1|⟨h1,h2⟩)
  ·rcases h1 with h1|h1
   ·exact .inl h1
   ·exact .inr (by omega)
  ·exact .inr (by omega)
  ·exact .inr (by have:=hm.2 h1;omega)
 ·refine k σ1 rb' p' c' (a2.trans a1 (fun _ _ h=>h) ?_) (hR.frmS a1 ?_ ?_) hO
  ·rintro i hi (h1|⟨h1,h2⟩)
   ·omega
   ·have:=(a0.2.2 h1).2;omega
  ·rintro(h1|⟨h1,h2⟩)
   ·exact a0.1 h1.symm
   ·exact(a0.2.2 h1).1 h2.symm
  ·rintro i (h1|⟨h1,h2⟩)
   ·omega
   ·have:=(a0.2.2 h1).2;omega
theorem wp_con(ih:∀m,m<=n->RIH B lo p cap ws e m)(hp:r.p<ws.length/\r.bad=false)(h:parse ws e (n+1) .con r=some x)(hR:Rdr σ B lo p cap ws e r):WpF aG ovD 155 [bI B] σ (RQ B lo p cap ws e σ x):=by
 refine WpF.of (T155_eq _) rfl ?_;rw[T155,aE];refine WpF.mono (dX hR) ?_;rintro _ σ1 ⟨rfl,b7⟩;unfold wc;simp only[wpS];rw[aE];refine WpF.mono (uY (hR.frm b7) hp.1 5 0 _) ?_;rintro _ σ2 ⟨b,rfl,hb,d6,d8,c8,e3⟩;simp only[wpS];rw[aE];refine WpF.mono (wp_is92 c8 [40]) ?_;rintro _ σ3 ⟨rfl,b6⟩;simp only[wpS];have hB:=hR.st.1;have e6:=b7.n;have d7:=hR.len;have a6:Frm σ σ3 (· =B):=(b7.no.seq e3).seq b6.no;have a0:=c8.frm b6;have d1:OpT σ3 (cE B σ.n) b 0 (jZ ws e 5 0 (wdM ws e r.p).t r).a [] [] none 0:=(OpT.start (Y:=cE B σ.n) (fun h=>by rcases h with h|h;exact d6 h;omega) d8).frm b6 fun _ _ h=>h.elim;rw[parse]at h;have bare:¬(isM ws e [40] r.next=true/\¬(r.p+2<ws.length/\(wdM ws e (r.p+2)).k=5/\(wdM ws e (r.p+2)).t=[41]))->Wp aG ovD (T155k2 (some ⟨b,0,some 0⟩) (some ⟨B,0,some 0⟩) .normal [.bool true]) σ3 fun _ vs σ'=>∃v,vs=[v]/\RQ B lo p cap ws e σ x v σ':=by intro hc;rw[if_neg hc]at h;have hx:=ofS h;subst hx;simp only[wpS,T155k2];rw[aA,if_pos rfl];simp only[wpS];exact⟨_,rfl,b,rfl,d1.close,a0,a6⟩
 have full:isM ws e [40] r.next=true/\¬(r.p+2<ws.length/\(wdM ws e (r.p+2)).k=5/\(wdM ws e (r.p+2)).t=[41])->Wp aG ovD (T155k2 (some ⟨b,0,some 0⟩) (some ⟨B,0,some 0⟩) .normal [.bool false]) σ3 fun _ vs σ'=>∃v,vs=[v]/\RQ B lo p cap ws e σ x v σ':=by
  intro hc;rw[if_pos hc]at h;obtain⟨b1,h1,h⟩:=aW h;obtain⟨c1,h2,h⟩:=aW h;have hx:=ofS h;subst hx;simp only[wpS,T155k2];rw[aA,if_neg (by simp),aE];refine WpF.mono (cH a0 [40]) ?_;rintro _ σ4 ⟨rfl,c7,d4⟩;have e4:bQ ws e [40] r.next=r.next.next:=by unfold bQ;rw[if_pos hc.1]
  rw[e4]at c7;simp only[wpS];have b4:=d1.frm d4 fun _ _ h=>.inl h;rw[aB b4.hs (v:=.slice none 0 0) rfl];simp only[wpS];rw[aE];have b8:=a6.seq d4;have g1:=(fS _ _ _ _ (show Pre ws .expr r.next.next from trivial) h1).2.le;refine WpF.mono (ih n (Nat.le_refl _) .expr _ b1 σ4 rfl trivial h1 c7) ?_;rintro _ σ5 ⟨j1,rfl,t1,c5,b5⟩;simp only[wpS];have d0:=b4.frm b5 fun _ _ h=>.inl h;refine yD (l:=[]) (q:=none) (b8.seq b5) d0 (by simp) (Nat.le_trans hR.low (Nat.le_refl _)) ⟨b4.hs.1,fun h=>absurd rfl h⟩ t1 c5 fun σ6 rb6 p6 c6 d3 c0 c9=>?_;refine Wp.loop (fun m st σ'=>m<=n/\st=[]/\∃(a:Tm) (r':Rs) (rb:Nat) (bl:List Nat) (q:Option Addr) (c:Nat),parse ws e m (.conL a) r'=some c1/\OpT σ' (cE B σ.n) b rb a.a a.args bl q c/\Rdr σ' B lo p cap ws e r'/\Frm σ σ' (· =B)/\a.args.length<=r'.p/\1<=r'.p) n
   ⟨Nat.le_refl _,rfl,_,b1.2,rb6,_,p6,c6,h2,c9,c0,d3,by simp only[Rs.next]at g1;simp[addT,Tr.args,jZ];omega,by simp only[Rs.next]at g1;omega⟩ ?_
  clear h1 h2 c9 c0 d3 d0 c5 b5 t1;rintro m st σ7 ⟨hm,rfl,a,r',rb,bl,q,c,h2,e0,b9,e2,e7,d5⟩;cases m with
  |zero=>cases h2
  |succ m=>
  rw[parse]at h2;unfold T155b0;simp only[wpS];rw[aE];refine WpF.mono (bX b9 [44]) ?_;rintro _ σ8 ⟨rfl,a2,d2⟩;simp only[wpS];rw[aA];unfold gQ at a2;have a3:=e0.frm d2 fun _ _ h=>.inl h;have a5:=e2.seq d2;by_cases a7:isM ws e [44] r'=true
  ·rw[if_pos a7]at h2 a2;rw[if_pos a7,aF];obtain⟨b2,h3,h2⟩:=aW h2;have g2:=(fS _ _ _ _ (show Pre ws .expr r'.next from trivial) h3).2.le;rw[aB a3.hs (v:=.slice q a.args.length c) rfl];simp only[wpS];rw[aE];refine WpF.mono (ih m (by omega) .expr _ b2 σ8 rfl trivial h3 a2) ?_;rintro _ σ9 ⟨j2,rfl,t2,a8,a4⟩;simp only[wpS];have e5:=a2.pl;refine yD (a5.seq a4) (a3.frm a4 fun _ _ h=>.inl h) (by have:=b9.pl;omega) hR.low ⟨a3.hs.1,fun h=>a3.row.lt h⟩ t2 a8 fun σa rba pa ca b0 d9 a9=>?_;simp only[wpS,T155k0];refine⟨m,by omega,by omega,trivial,addT a b2.1,b2.2,rba,_,pa,ca,h2,a9,d9,b0,?_,?_⟩
   ·simp only[Rs.next]at g2;show(a.args++[b2.1]).length<=b2.2.p;rw[List.length_append,List.length_singleton];omega
   ·simp only[Rs.next]at g2;omega
  ·rw[if_neg a7]at h2 a2;have hx:=ofS h2;subst hx;rw[if_neg a7];simp only[wpS,T155k1];rw[aE];refine WpF.mono (cH a2 [41]) ?_;rintro _ σ9 ⟨rfl,a8,a4⟩;simp only[wpS];rw[aE];refine WpF.mono (lV a8 (Nat.le_trans d5 (bJ [41] r').1.le)) ?_;rintro _ _ ⟨rfl,rfl⟩;simp only[wpS,bS];refine wp_setTo (a3.frm a4 fun _ _ h=>.inl h) _ fun σa b0 a9=>?_;simp only[wpS];have b3:=a9.low;exact⟨_,rfl,b,rfl,a9.close,a8.frmS b0 (fun h=>b3.1 h.symm) fun j hj=>by have:=hR.low;omega,(a5.seq a4).trans b0 (fun _ _ h=>h) fun j hj h=>by omega⟩
 rw[aA];by_cases c1:isM ws e [40] r.next=true
 case neg=>rw[if_neg (by simp[c1])];simp only[wpS];exact bare fun h=>c1 h.1
 rw[if_pos (by simp[c1]),aB a0.st (v:=.int .i64 ((r.p+1:Nat):Int)) rfl];simp only[wpS];rw[aB a0.st rfl];simp only[wpS];have e1:aP (((r.p+1:Nat):Int)+1)=((r.p+2:Nat):Int):=by rw[aS (by omega)];omega
 rw[aA,e1];by_cases c2:r.p+2<ws.length
 case neg=>rw[if_neg (by simp;omega)];simp only[wpS];exact full ⟨c1,fun h=>c2 h.1⟩
 obtain⟨y,rfl,a1⟩:=a0.cell c2;rw[if_pos (by simp;omega),aB a0.st rfl];simp only[wpS];rw[aB a0.st (v:=.int .i64 ((r.p+1:Nat):Int)) rfl];simp only[wpS,e1];rw[aO];refine⟨by simp only[Bool.and_eq_true,decide_eq_true_eq];omega,?_⟩;rw[Int.toNat_natCast,aV,a1 0 _ rfl];simp only[wpS];rw[aA];have ew:=wdM_at (e:=e) c2;by_cases c3:ws[r.p+2].k=5
 case neg=>rw[if_neg (by simpa using c3)];simp only[wpS];exact full ⟨c1,fun h=>c3 (by rw[<-ew];exact h.2.1)⟩
 rw[if_pos (by simpa using c3),aB a0.st (v:=.slice (some y) ws.length cap) rfl];simp only[wpS];rw[aB a0.st (v:=.int .i64 ((r.p+1:Nat):Int)) rfl];simp only[wpS,e1];rw[aO];refine⟨by simp only[Bool.and_eq_true,decide_eq_true_eq];omega,?_⟩;rw[Int.toNat_natCast,aV,a1 1 _ rfl];simp only[wpS,bR];by_cases c4:ws[r.p+2].t=[41]
 ·rw[decide_eq_true c4];exact bare fun h=>h.2 ⟨c2,by rw[ew];exact c3,by rw[ew];exact c4⟩
 ·rw[decide_eq_false c4];exact full ⟨c1,fun h=>c4 (by rw[<-ew];exact h.2.2)⟩
end
section
variable{σ σ':aC}{B lo:Nat}{p:Option Addr}{cap:Nat}{ws:List Wd}{e:Nat}{r:Rs}{x:Tm×Rs}{n:Nat}
theorem tr_eta(a:Tm):Tr.mk a.a a.args=a:=by cases a;rfl
theorem wp_pat(ih:∀m,m<=n->RIH B lo p cap ws e m)(h:parse ws e (n+1) .pat r=some x)(hR:Rdr σ B lo p cap ws e r)(ht:(wdM ws e r.p).t.length<=1000000):WpF aG ovD 159 [bI B] σ (RQ B lo p cap ws e σ x):=by
 refine WpF.of (T159_eq _) rfl ?_;rw[T159,aE];refine WpF.mono (dX hR) ?_;rintro _ σ1 ⟨rfl,e6⟩;unfold wc;simp only[wpS];refine aJ fun σ2 f9 g6 f2=>?_;refine aZ f2 rfl rfl fun σ3 f8 g5 a0=>?_;have hB:=hR.st.1;have g7:=e6.n;have a4:Frm σ σ3 NoB:=(e6.seq f9).fresh f8 fun j hj h=>by omega
 have c0:=hR.frm a4;have e7:σ1.n≠B:=by omega
 simp only[wpS];rw[aB c0.st rfl];simp only[wpS];rw[parse]at h;have ret:∀(v:Value) (σ':aC),RQ B lo p cap ws e σ x v σ'->Wp aG ovD (T159k8 .ret [v]) σ' fun e_1 vs σ'=>Wp aG ovD (T159k9 (some ⟨B,0,some 0⟩) e_1 vs) σ' fun _ vs σ'=>∃v,vs=[v]/\RQ B lo p cap ws e σ x v σ':=by
  rintro v σ' ⟨b,rfl,hq⟩;simp only[wpS,T159k8,T159k9];exact⟨_,rfl,b,rfl,hq⟩
 have fall:∀(r':Rs) (σ':aC),Frm σ σ' (· =B)->Rdr σ' B lo p cap ws e r'->x=(tI,r'.fell)->Wp aG ovD (T159k8 .normal [.pointer none]) σ' fun e_1 vs σ'=>Wp aG ovD (T159k9 (some ⟨B,0,some 0⟩) e_1 vs) σ' fun _ vs σ'=>∃v,vs=[v]/\RQ B lo p cap ws e σ x v σ':=by rintro r' σ' g0 f4 rfl;simp only[wpS,T159k8,T159k9];exact wp_fell g0 f4 fun σ5 b hq=>⟨_,rfl,hq⟩
 rw[aA];by_cases c1:r.bad=true
 ·rw[if_pos c1]at h;rw[if_pos c1];simp only[wpS];exact fall r σ3 a4.no c0 (ofS h)
 rw[if_neg c1]at h;rw[if_neg c1];have lt:∀{k:Int},(wdM ws e r.p).k=k->k≠0->r.p<ws.length:=fun h hk=>zY (by rw[h];exact hk);have one:∀(k n:Int) (nm:List UInt8),r.p<ws.length->some (jZ ws e k n nm r,r.next)=some x->WpF aG ovD 153 [bI B,.agg #[.int .i64 k,.int .i64 n,.string (mkB nm),.string (bs []),.slice none 0 0,.int .i64 0,.int .i64 0]] σ3 (RQ B lo p cap ws e σ x):=fun k n nm hl hx=>by have hx:=ofS hx;subst hx;exact one_RQ a4.no c0 hl k n nm
 simp only[wpS];rw[aB a0 rfl];simp only[wpS];have s7:∀b:Bool,(b=true↔(wdM ws e r.p).k=2/\(wdM ws e r.p).t=[95])->Wp aG ovD (T159k7 (some ⟨B,0,some 0⟩) ⟨σ1.n,0,some 0⟩ .normal [.bool b]) σ3 fun e_1 vs σ'=>Wp aG ovD (T159k8 e_1 vs) σ' fun e_1 vs σ'=>Wp aG ovD (T159k9 (some ⟨B,0,some 0⟩) e_1 vs) σ' fun _ vs σ'=>∃v,vs=[v]/\RQ B lo p cap ws e σ x v σ':=by
  intro b hb;simp only[wpS,T159k7];rw[aA];by_cases c2:(wdM ws e r.p).k=2/\(wdM ws e r.p).t=[95]
  ·rw[if_pos c2]at h;rw[if_pos (hb.2 c2),aE];refine WpF.mono (one 21 0 [] (lt c2.1 (by decide)) h) ?_;rintro _ σ5 hq;have a2:=hq;obtain⟨b,rfl,_⟩:=a2;simp only[wpS];exact ret _ _ hq
  rw[if_neg c2]at h;rw[if_neg fun hh=>c2 (hb.1 hh),aB a0 rfl];simp only[wpS];rw[aA];by_cases c3:(wdM ws e r.p).k=2
  ·rw[if_pos c3]at h;rw[if_pos (by simpa using c3),aB a0 rfl];simp only[wpS];rw[aE];refine WpF.mono (one 22 0 _ (lt c3 (by decide)) h) ?_;rintro _ σ5 hq;have a2:=hq;obtain⟨b,rfl,_⟩:=a2;simp only[wpS];exact ret _ _ hq
  rw[if_neg c3]at h;rw[if_neg (by simpa using c3),aB a0 rfl];simp only[wpS];rw[aA];by_cases c4:(wdM ws e r.p).k=1
  ·rw[if_pos c4]at h;rw[if_pos (by simpa using c4),aB a0 rfl];simp only[wpS];rw[aE,WpF.eq (ev_value _ ht)];simp only[wpS];rw[aE];refine WpF.mono (one 23 _ [] (lt c4 (by decide)) h) ?_;rintro _ σ5 hq;have a2:=hq;obtain⟨b,rfl,_⟩:=a2;simp only[wpS];exact ret _ _ hq
  rw[if_neg c4]at h;rw[if_neg (by simpa using c4),aF,aB a0 rfl];simp only[wpS];have s6:∀b:Bool,(b=true↔(wdM ws e r.p).k=4/\(wdM ws e r.p).t=tA)->Wp aG ovD (T159k6 (some ⟨B,0,some 0⟩) ⟨σ1.n,0,some 0⟩ .normal [.bool b]) σ3 fun e_1 vs σ'=>Wp aG ovD (T159k8 e_1 vs) σ' fun e_1 vs σ'=>Wp aG ovD (T159k9 (some ⟨B,0,some 0⟩) e_1 vs) σ' fun _ vs σ'=>∃v,vs=[v]/\RQ B lo p cap ws e σ x v σ':=by
   intro b hb;simp only[wpS,T159k6];rw[aA];by_cases c5:(wdM ws e r.p).k=4/\(wdM ws e r.p).t=tA
   ·rw[if_pos c5]at h;rw[if_pos (hb.2 c5),aE];refine WpF.mono (one 24 1 [] (lt c5.1 (by decide)) h) ?_;rintro _ σ5 hq;have a2:=hq;obtain⟨b,rfl,_⟩:=a2;simp only[wpS];exact ret _ _ hq
   rw[if_neg c5]at h;rw[if_neg fun hh=>c5 (hb.1 hh),aF,aB a0 rfl];simp only[wpS];have s5:∀b:Bool,(b=true↔(wdM ws e r.p).k=4/\(wdM ws e r.p).t=oK)->Wp aG ovD (T159k5 (some ⟨B,0,some 0⟩) ⟨σ1.n,0,some 0⟩ .normal [.bool b]) σ3 fun e_1 vs σ'=>Wp aG ovD (T159k8 e_1 vs) σ' fun e_1 vs σ'=>Wp aG ovD (T159k9 (some ⟨B,0,some 0⟩) e_1 vs) σ' fun _ vs σ'=>∃v,vs=[v]/\RQ B lo p cap ws e σ x v σ':=by
    intro b hb;simp only[wpS,T159k5];rw[aA];by_cases c6:(wdM ws e r.p).k=4/\(wdM ws e r.p).t=oK
    ·rw[if_pos c6]at h;rw[if_pos (hb.2 c6),aE];refine WpF.mono (one 24 0 [] (lt c6.1 (by decide)) h) ?_;rintro _ σ5 hq;have a2:=hq;obtain⟨b,rfl,_⟩:=a2;simp only[wpS];exact ret _ _ hq
    rw[if_neg c6]at h;rw[if_neg fun hh=>c6 (hb.1 hh),aE];refine WpF.mono (bX c0 [40]) ?_;rintro _ σ4 ⟨rfl,a7,e5⟩;simp only[wpS];rw[aA];unfold gQ at a7;have a3:=a4.no.seq e5;have d6:=e5.st a0 e7;by_cases c7:isM ws e [40] r=true
    ·rw[if_pos c7]at h a7;rw[if_pos c7,aE];refine WpF.mono (cH a7 [41]) ?_;rintro _ σ5 ⟨rfl,a5,d4⟩;have a1:=a3.seq d4;have b9:=d4.st d6 e7;simp only[wpS];rw[aB a5.st rfl];simp only[wpS];rw[aA];by_cases c8:(bQ ws e [41] r.next).bad=true
     ·rw[if_pos c8]at h;rw[if_neg (by simp[c8])];simp only[wpS,T159k4];exact fall _ σ5 a1 a5 (ofS h)
     ·rw[if_neg c8]at h;have hx:=ofS h;rw[if_pos (by simpa using c8),aB b9 rfl];simp only[wpS];rw[aE];refine WpF.mono (lV a5 (Nat.le_trans (Nat.le_add_left 1 r.p) (bJ [41] r.next).1.le)) ?_;rintro _ _ ⟨rfl,rfl⟩;simp only[wpS];rw[bC,aO];refine⟨kI (b9.ldF rfl),?_⟩;refine aJ fun σ6 b4 g3 f1=>?_;simp only[wpS,T159k4];have f0:=a1.n;refine ret _ _ ⟨_,rfl,?_,?_,a1.seq b4.no⟩
      ·rw[hx];exact .leaf (x:={k:=25,fr:=(wdM ws e r.p).fr,to:=nM ws e (bQ ws e [41] r.next)}) (fun h=>by have:=kX a5 f0 _ h;omega) f1
      ·rw[hx];exact a5.frm b4
    rw[if_neg c7]at h a7;rw[if_neg c7,aB d6 rfl];simp only[wpS];rw[aA];by_cases c8:(wdM ws e r.p).k=3
    case neg=>rw[if_neg c8]at h;rw[if_neg (by simpa using c8)];simp only[wpS,T159k4];exact fall r σ4 a3 a7 (ofS h)
    rw[if_pos c8]at h;rw[if_pos (by simpa using c8),aB d6 rfl];simp only[wpS];rw[aE];refine WpF.mono (uY a7 (lt c8 (by decide)) 26 0 _) ?_;rintro _ σ5 ⟨b,rfl,hb,e9,b9,a5,d4⟩;simp only[wpS];rw[aE];have a1:=a3.seq d4;have g4:=a3.n;have f6:OpT σ5 (cE B σ.n) b 0 (jZ ws e 26 0 (wdM ws e r.p).t r).a [] [] none 0:=OpT.start (Y:=cE B σ.n) (fun h=>by rcases h with h|h;exact e9 h;omega) b9;refine WpF.mono (bX a5 [40]) ?_;rintro _ σ6 ⟨rfl,a9,b4⟩;simp only[wpS];rw[aA];unfold gQ at a9;have d2:=f6.frm b4 fun _ _ h=>.inl h;have b7:=a1.seq b4;by_cases c9:isM ws e [40] r.next=true
    case neg=>
     rw[if_neg c9]at h a9;have hx:=ofS h;rw[if_neg c9];simp only[wpS,T159k3,T159k4];refine ret _ _ ⟨b,rfl,?_,?_,b7⟩
     ·rw[hx];exact d2.close
     ·rw[hx];exact a9
    rw[if_pos c9]at h a9;obtain⟨b1,h1,h⟩:=aW h;obtain⟨c1',h2,h⟩:=aW h;rw[if_pos c9];rw[aB d2.hs (v:=.slice none 0 0) rfl];simp only[wpS];rw[aE];have g1:=(fS _ _ _ _ (show Pre ws .pat r.next.next from trivial) h1).2.le;refine WpF.mono (ih n (Nat.le_refl _) .pat _ b1 σ6 rfl trivial h1 a9) ?_;rintro _ σ7 ⟨j1,rfl,t1,e0,d8⟩;simp only[wpS];refine yD (l:=[]) (q:=none) (b7.seq d8) (d2.frm d8 fun _ _ h=>.inl h) (by simp) hR.low ⟨d2.hs.1,fun h=>absurd rfl h⟩ t1 e0 fun σ8 rb8 p8 k8 e4 d9 e2=>?_;refine Wp.loop (fun m st σ'=>m<=n/\st=[]/\∃(a:Tm) (r':Rs) (rb:Nat) (bl:List Nat) (q:Option Addr) (c:Nat),parse ws e m (.patL a) r'=some c1'/\OpT σ' (cE B σ.n) b rb a.a a.args bl q c/\Rdr σ' B lo p cap ws e r'/\Frm σ σ' (· =B)/\a.args.length<=r'.p/\1<=r'.p) n
     ⟨Nat.le_refl _,rfl,_,b1.2,rb8,_,p8,k8,h2,e2,d9,e4,by simp only[Rs.next]at g1;show 1<=b1.2.p;omega,by simp only[Rs.next]at g1;omega⟩ ?_
    clear h1 h2 e2 d9 e4 e0 d8 t1;rintro m st σ9 ⟨hm,rfl,a,r',rb,bl,q,c,h2,f5,d7,f7,g8,e8⟩;cases m with
    |zero=>cases h2
    |succ m=>
    rw[parse]at h2;unfold T159b0;simp only[wpS];rw[aE];refine WpF.mono (bX d7 [44]) ?_;rintro _ σa ⟨rfl,a8,e3⟩;simp only[wpS];rw[aA];unfold gQ at a8;have b0:=f5.frm e3 fun _ _ h=>.inl h;have b6:=f7.seq e3;by_cases b8:isM ws e [44] r'=true
    ·rw[if_pos b8]at h2 a8;rw[if_pos b8,aF];obtain⟨b2,h3,h2⟩:=aW h2;have g2:=(fS _ _ _ _ (show Pre ws .pat r'.next from trivial) h3).2.le;rw[aB b0.hs (v:=.slice q a.args.length c) rfl];simp only[wpS];rw[aE];refine WpF.mono (ih m (by omega) .pat _ b2 σa rfl trivial h3 a8) ?_;rintro _ σb ⟨j2,rfl,t2,a6,b3⟩;simp only[wpS];refine yD (b6.seq b3) (b0.frm b3 fun _ _ h=>.inl h) (by have:=d7.pl;have:=d7.len;omega) hR.low ⟨b0.hs.1,fun h=>b0.row.lt h⟩ t2 a6 fun σc rbc pc kc d3 f3 d0=>?_;simp only[wpS,T159k0];refine⟨m,by omega,by omega,trivial,addT a b2.1,b2.2,rbc,_,pc,kc,h2,d0,f3,d3,?_,?_⟩
     ·simp only[Rs.next]at g2;show(a.args++[b2.1]).length<=b2.2.p;rw[List.length_append,List.length_singleton];omega
     ·simp only[Rs.next]at g2;omega
    ·rw[if_neg b8]at h2 a8;have hx:=ofS h2;subst hx;rw[if_neg b8];simp only[wpS,T159k2];rw[aE];refine WpF.mono (cH a8 [41]) ?_;rintro _ σb ⟨rfl,a6,b3⟩;simp only[wpS];rw[aB a6.st rfl];simp only[wpS];have e1:=b0.frm b3 fun _ _ h=>.inl h;have b5:=b6.seq b3;rw[aA];by_cases ca:(bQ ws e [41] r').bad=true
     ·rw[if_pos ca]at h;have hx:=ofS h;rw[if_neg (by simp[ca])];simp only[wpS,T159k1,T159k3,T159k4];refine ret _ _ ⟨b,rfl,?_,?_,b5⟩
      ·rw[hx];have q:=e1.close;rw[tr_eta]at q;exact q
      ·rw[hx];exact a6
     ·rw[if_neg ca]at h;have hx:=ofS h;rw[if_pos (by simpa using ca),aE];refine WpF.mono (lV a6 (Nat.le_trans e8 (bJ [41] r').1.le)) ?_;rintro _ _ ⟨rfl,rfl⟩;simp only[wpS,bS];refine wp_setTo e1 _ fun σc d3 d0=>?_;simp only[wpS,T159k1,T159k3,T159k4];have d5:=d0.low;refine ret _ _ ⟨b,rfl,?_,?_,b5.trans d3 (fun _ _ h=>h) fun j hj h=>by omega⟩
      ·rw[hx];exact d0.close
      ·rw[hx];exact a6.frmS d3 (fun h=>d5.1 h.symm) fun j hj=>by have:=hR.low;omega
   rw[aA];by_cases d1:(wdM ws e r.p).k=4
   ·rw[if_pos (by simpa using d1),aB a0 rfl];simp only[wpS,bR];exact s5 _ (by rw[decide_eq_true_eq];exact⟨fun h=>⟨d1,h⟩,fun h=>h.2⟩)
   ·rw[if_neg (by simpa using d1)];simp only[wpS];exact s5 false ⟨fun h=>(Bool.noConfusion h),fun h=>absurd h.1 d1⟩
  rw[aA];by_cases d1:(wdM ws e r.p).k=4
  ·rw[if_pos (by simpa using d1),aB a0 rfl];simp only[wpS,bR];exact s6 _ (by rw[decide_eq_true_eq];exact⟨fun h=>⟨d1,h⟩,fun h=>h.2⟩)
  ·rw[if_neg (by simpa using d1)];simp only[wpS];exact s6 false ⟨fun h=>(Bool.noConfusion h),fun h=>absurd h.1 d1⟩
 rw[aA];by_cases d1:(wdM ws e r.p).k=2
 ·rw[if_pos (by simpa using d1),aB a0 rfl];simp only[wpS,bR];exact s7 _ (by rw[decide_eq_true_eq];exact⟨fun h=>⟨d1,h⟩,fun h=>h.2⟩)
 ·rw[if_neg (by simpa using d1)];simp only[wpS];exact s7 false ⟨fun h=>(Bool.noConfusion h),fun h=>absurd h.1 d1⟩
end
structure KR(σ:aC)(Y:Nat->Prop)(rb:Nat)(l:List Tm)(bl:List Nat)(p:Option Addr)(c:Nat):Prop where
 row:SlE σ rb p c 1 (bl.map bI)
 hr:p≠none->¬Y rb
 hl:bl.length=l.length
 hk:∀i (h:i<bl.length) (h':i<l.length),TmB σ (fun j=>Y j\/p≠none/\j=rb) bl[i] l[i]
section
variable{σ σ':aC}{B lo:Nat}{p:Option Addr}{cap:Nat}{ws:List Wd}{e:Nat}{r:Rs}{x:Tm×Rs}{n:Nat}
theorem KR.none{Y:Nat->Prop}:KR σ Y 0 [] [] none 0:=⟨.inl ⟨rfl,rfl,rfl⟩,fun h=>absurd rfl h,rfl,fun _ h=>absurd h (Nat.not_lt_zero _)⟩
theorem KR.frm{Y S:Nat->Prop}{rb:Nat}{l:List Tm}{bl:List Nat}{q:Option Addr}{c:Nat}(h:KR σ Y rb l bl q c)(f:Frm σ σ' S)(hS:∀j,j<σ.n->S j->Y j):KR σ' Y rb l bl q c:=
 ⟨h.row.frm f fun hp h1=>h.hr hp (hS _ (h.row.lt hp) h1),h.hr,h.hl,fun i h1 h2=>(h.hk i h1 h2).step f (fun j hj h3=>.inl (hS j hj h3)) fun _ _ h3=>h3⟩
theorem jE{rb j m m':Nat}{l:List Tm}{bl:List Nat}{q:Option Addr}{c:Nat}{t:Tm}{g:Option Addr->Nat->Nat->Pg}{Q:bW}(h:KR σ (cE B m) rb l bl q c)(b0:l.length<=100000)(hlo:lo<=m)(hm:m<=m')(a2:q≠none->rb<m')(ht:TmB σ (cE B m') j t)(hR:Rdr σ B lo p cap ws e r)(a9:m<=σ.n)
  (k:∀σ' rb' p' c',Frm σ σ' (fun i=>m<=i/\i≠B)->Rdr σ' B lo p cap ws e r->KR σ' (cE B m) rb' (l++[t]) (bl++[j]) (some p') c'->Wp aG ovD (g (some p') (l.length+1) c') σ' Q):
  Wp aG ovD (.act (tU 1 1 [bI j]) fun v=>aI v fun p1 n1 c1=>.act (apS 1 8 q l.length c p1 n1 c1) fun w=>aI w g) σ Q:=by
 have hB:=hR.st.1;have a5:q≠none->m<=rb/\rb≠B:=fun hq=>by have:=h.hr hq;simp only[cE,not_or]at this;exact⟨by omega,this.1⟩
 refine kV (len:=l.length) h.row (by rw[List.length_map,h.hl,Nat.mul_one]) (by decide) (by decide) rfl (by intro y hy;simp at hy;subst hy;rfl) (by omega) (by omega) fun σ1 rb' off s c' a1 a0 a8=>?_;have hF:Frm σ σ1 (fun i=>m<=i/\i≠B):=a1.mono fun j _ hj=>by have:=a5 hj.1;rw[hj.2];exact this
 have a6:¬cE B m rb':=by
  rcases a0 with⟨hp,rfl⟩|a0
  ·exact h.hr hp
  ·rintro(h1|h1)<;>omega
 have a4:∀i,i<σ.n->(cE B m i\/some (⟨rb',off,some s⟩:Addr)≠none/\i=rb')->(cE B m i\/q≠none/\i=rb):=by
  rintro i hi (h1|⟨_,h1⟩)
  ·exact .inl h1
  ·subst h1;rcases a0 with⟨hp,rfl⟩|a0
   ·exact .inr ⟨hp,rfl⟩
   ·omega
 refine k σ1 rb' ⟨rb',off,some s⟩ c' hF (hR.frmS hF (fun h=>h.2 rfl) fun j hj=>Nat.le_trans hlo hj.1) ⟨.inr ⟨off,s,rfl,by simpa using a8⟩,fun _=>a6,by simp[h.hl],?_⟩;intro i h1 h2;have hS:∀j,j<σ.n->(fun j=>q≠none/\j=rb) j->(cE B m j\/q≠none/\j=rb):=fun _ _ h=>.inr h;by_cases hi:i<bl.length
 ·have a3:i<l.length:=by rw[<-h.hl];exact hi
  rw[List.getElem_append_left hi,List.getElem_append_left a3];exact(h.hk i hi a3).step a1 hS a4
 ·have a7:i=bl.length:=by simp at h1;omega
  subst a7;have e1:(bl++[j])[bl.length]'h1=j:=by simp
  have e2:(l++[t])[bl.length]'h2=t:=by simp[h.hl]
  rw[e1,e2];refine ht.step a1 ?_ ?_
  ·rintro i _ ⟨h3,h4⟩;exact .inr (by rw[h4];exact a2 h3)
  ·rintro i hi h3;rcases a4 i hi h3 with(h3|h3)|⟨h3,h4⟩
   ·exact .inl h3
   ·exact .inr (by omega)
   ·exact .inr (by rw[h4];exact a2 h3)
theorem KR.close{b m rb:Nat}{y:Nd}{l:List Tm}{bl:List Nat}{q:Option Addr}{c k:Nat}(h:KR σ (cE B m) rb l bl q c)(hk:k<=m)(hb:¬cE B k b)(hs:St σ b (ndc y q l.length c)):TmB σ (cE B k) b (.mk y l):=by
 have lw:∀j,j<σ.n->cE B k j->cE B m j:=fun j _ hj=>hj.elim .inl fun hj=>.inr (by omega);refine .mk bl hb hs ?_ h.hl fun i h1 h2=>(h.hk i h1 h2).step (Frm.refl σ NoB) (fun _ _ h=>h.elim) fun j hj h=>.inl (lw j hj h);rcases h.row with⟨rfl,_,h0⟩|⟨off,s,rfl,hR⟩
 ·have:bl=[]:=by simpa using h0
  rw[this];exact aN.nil
 ·exact tV hR fun h1=>h.hr (by simp) (lw _ hR.lt h1)
theorem gI{σ0:aC}{A i:Nat}{v:Value}{cs:List Value}{K:Pg}{Q:bW}(hA:σ0.n<=A)(a3:A≠B)(hlo:lo<=σ0.n)(a2:Frm σ0 σ (· =B))(hR:Rdr σ B lo p cap ws e r)(hS:St σ A cs)(hi:i<cs.length)(hv:one v=true)
  (k:∀σ',Frm σ0 σ' (· =B)->Frm σ σ' (· =A)->Rdr σ' B lo p cap ws e r->St σ' A (cs.set i v)->Wp aG ovD K σ' Q):
  Wp aG ovD (.act (stC (aadd ⟨A,0,some 0⟩ i) [v]) fun w=>bM w fun l=>aH l K) σ Q:=by
 refine aT hS hi hv fun σ1 a0 a4 a1=>?_;exact k σ1 (a2.trans a0 (fun _ _ h=>h) fun j hj h=>by omega) a0 (hR.frmS a0 (fun h=>a3 h.symm) fun j hj=>by omega) a1
def nd7(k:Int)(nm pm:List UInt8)(fr to:Int):List Value:=[.int .i64 k,.int .i64 0,.string (mkB nm),.string (mkB pm),.slice none 0 0,.int .i64 fr,.int .i64 to]
theorem gG(k:Int)(nm pm:List UInt8)(fr to:Int):(nd7 k nm pm fr to).length=7:=rfl
theorem lastTo_at{l:List Tm}(h:l.length-1<l.length):yi l=l[l.length-1].a.to:=by unfold yi;rw[List.getLast?_eq_getElem?,List.getElem?_eq_getElem h]
theorem wp_longE{A rb:Nat}{l:List Tm}{bl:List Nat}{q:Option Addr}{c:Nat}(hA:σ.n<=A)(b1:A≠B)(hlo:lo<=σ.n){r':Rs}(hF:Frm σ σ' (· =B))(hR:Rdr σ' B lo p cap ws e r')(en:Bool)(k:Int)(nm pm:List UInt8){fr:Int}(b3:fr=(wdM ws e r.p).fr)
  (hS:St σ' A (nd7 k nm pm fr 0)) (hK:KR σ' (cE B (A+1)) rb l bl q c) (b4:en=true->1<=r'.p) (hl:l.length<=100000)
  (hx:(oT ws e (parse ws e n) r).bind (fun x=>if x.2.2.bad=true\/x.2.1=[] then some (tI,x.2.2.fell) else some (.mk {x.1 with fr:=(wdM ws e r.p).fr} x.2.1,x.2.2))=some x)
  (hg:oT ws e (parse ws e n) r=some ({k:=k,nm:=nm,pm:=pm,to:=if en=true then nM ws e r' else yi l},l,r')):
  Wp aG ovD (T157k12 (some ⟨B,0,some 0⟩) ⟨A,0,some 0⟩ .normal [.bool en,.slice q l.length c]) σ' fun _ vs σ'=>∃v,vs=[v]/\RQ B lo p cap ws e σ x v σ':=by
 rw[hg]at hx;simp only[Option.bind_some]at hx;simp only[wpS,T157k12];rw[aB hR.st rfl];simp only[wpS];have next:∀b:Bool,(b=true↔r'.bad=true\/l=[])->Wp aG ovD (T157k11 (some ⟨B,0,some 0⟩) q l.length ⟨A,0,some 0⟩ en c .normal [.bool b]) σ' fun _ vs σ'=>∃v,vs=[v]/\RQ B lo p cap ws e σ x v σ':=by
  intro b hb;simp only[wpS,T157k11];rw[aA];by_cases hc:r'.bad=true\/l=[]
  ·rw[if_pos hc]at hx;have hx:=ofS hx;subst hx;rw[if_pos (hb.2 hc)];exact wp_fell hF hR fun σ5 b hq=>⟨_,rfl,hq⟩
  rw[if_neg hc]at hx;have hx:=ofS hx;subst hx;rw[if_neg fun h=>hc (hb.1 h)];rw[not_or]at hc;have c0:1<=l.length:=List.length_pos_iff.2 hc.2;have hi:l.length-1<l.length:=by omega
  have a0:l.length-1<bl.length:=by rw[hK.hl];exact hi
  rcases hK.row with⟨_,_,h0⟩|⟨off,s,rfl,a3⟩
  ·have:bl=[]:=by simpa using h0
   rw[this]at a0;exact absurd a0 (Nat.not_lt_zero _)
  have e1:aP (((l.length:Nat):Int)-1)=((l.length-1:Nat):Int):=by rw[aS (by omega)];omega
  simp only[wpS,e1];rw[aO];refine⟨by simp only[Bool.and_eq_true,decide_eq_true_eq];omega,?_⟩;have hv:(bl.map bI)[l.length-1]?=some (bI bl[l.length-1]):=by simp[a0]
  rw[Int.toNat_natCast,mQ a3 hv];simp only[wpS,bS];have b2:=hK.hk _ a0 hi;obtain⟨pa,ca,sa⟩:=b2.st;rw[aB sa (v:=.int .i64 l[l.length-1].a.to) rfl,<-lastTo_at hi];simp only[wpS];refine gI hA b1 hlo hF hR hS (by rw[gG];decide) rfl fun σ2 b0 b7 a5 a8=>?_;have a9:=hK.frm b7 fun j _ hj=>.inr (by omega);rw[aF,aA];have last:∀(σ3:aC) (to:Int),Frm σ σ3 (· =B)->Rdr σ3 B lo p cap ws e r'->St σ3 A (nd7 k nm pm fr to)->KR σ3 (cE B (A+1)) rb l bl (some ⟨rb,off,some s⟩) c->to=(if en=true then nM ws e r' else yi l)->
    Wp aG ovD (T157k10 ⟨A,0,some 0⟩ (some ⟨rb,off,some s⟩) l.length c .normal []) σ3 fun _ vs σ'=>∃v,vs=[v]/\RQ B lo p cap ws e σ (.mk { ({k:=k,nm:=nm,pm:=pm,to:=if en=true then nM ws e r' else yi l}:Nd)with fr:=(wdM ws e r.p).fr} l,r') v σ':=by
   rintro σ3 to a2 a1 a4 b6 rfl;simp only[wpS,T157k10];rw[aL a4 7 rfl];unfold nd7;simp only[wpS];refine aJ fun σ4 a7 b8 b5=>?_;simp only[wpS];have b9:=a2.n;have c1:=a1.st.1;subst b3;refine⟨_,rfl,_,rfl,KR.close (b6.frm a7 fun _ _ h=>h.elim) (by omega) ?_ b5,a1.frm a7,a2.seq a7.no⟩;rintro(h1|h1)<;>omega
  by_cases he:en=true
  ·rw[if_pos he,aE];refine WpF.mono (lV a5 (b4 he)) ?_;rintro _ _ ⟨rfl,rfl⟩;simp only[wpS];refine gI hA b1 hlo b0 a5 a8 (by rw[List.length_set,gG];decide) rfl fun σ3 a2 a6 a1 a4=>?_;simp only[wpS];exact last σ3 _ a2 a1 a4 (a9.frm a6 fun j _ hj=>.inr (by omega)) (by rw[if_pos he])
  ·rw[if_neg he];simp only[wpS];exact last σ2 _ b0 a5 a8 a9 (by rw[if_neg he])
 rw[aA];by_cases hb:r'.bad=true
 ·rw[if_neg (by simp[hb])];simp only[wpS];exact next true ⟨fun _=>.inl hb,fun _=>rfl⟩
 ·rw[if_pos (by simpa using hb)];simp only[wpS];refine next _ ?_
  rw[beq_iff_eq];constructor
  ·intro h;exact .inr (List.eq_nil_of_length_eq_zero (by omega))
  ·rintro(h|h)
   ·exact absurd h hb
   ·rw[h];try rfl
end
section
variable{σ σ':aC}{B lo:Nat}{p:Option Addr}{cap:Nat}{ws:List Wd}{e:Nat}{r:Rs}{x:Tm×Rs}{n:Nat}
theorem wp_long(ih:∀m,m<=n->RIH B lo p cap ws e m)(h:parse ws e (n+1) .long r=some x)(hR:Rdr σ B lo p cap ws e r):WpF aG ovD 157 [bI B] σ (RQ B lo p cap ws e σ x):=by
 refine WpF.of (T157_eq _) rfl ?_;rw[T157,aE];refine WpF.mono (dX hR) ?_;rintro _ σ1 ⟨rfl,k0⟩;unfold wc;simp only[wpS];refine aJ fun σ2 l3 l9 l1=>?_;refine aZ l1 rfl rfl fun σ3 l2 l8 i4=>?_;have hB:=hR.st.1;have m0:=k0.n;have i0:Frm σ σ3 NoB:=(k0.seq l3).fresh l2 fun j hj h=>by omega
 have m8:=hR.frm i0;generalize o2:σ1.n=A at i4;have hA:σ.n<=A:=by omega
 have a0:A≠B:=by omega
 have hlo:=hR.low;have o3:σ3.n=A+1:=by omega
 generalize k6:(((wdM ws e r.p).fr:Nat):Int)=fr at i4;have i7:St σ3 A (nd7 0 [] [] fr 0):=i4;clear i4 l1 l3 l2 l9 l8 k0 m0;rw[parse]at h;have fin:=fun {rb:Nat} {l:List Tm} {bl:List Nat} {q:Option Addr} {c:Nat} {r':Rs} {σ':aC} (hF:Frm σ σ' (· =B)) (j4:Rdr σ' B lo p cap ws e r') (en:Bool) (k:Int) (nm pm:List UInt8) (hS:St σ' A (nd7 k nm pm fr 0)) (hK:KR σ' (cE B (A+1)) rb l bl q c) (m2:en=true->1<=r'.p) (hl:l.length<=100000) hg=>wp_longE (x:=x) hA a0 hlo hF j4 en k nm pm k6.symm hS hK m2 hl h hg;clear k6;unfold oT at fin;simp only[wpS];rw[aE];refine WpF.mono (bX m8 kFun) ?_;rintro _ σ4 ⟨rfl,f6,j9⟩;simp only[wpS];rw[aA];unfold gQ at f6;have g9:=i0.no.seq j9;have l0:=j9.st i7 a0;have n9:=j9.n;by_cases c1:isM ws e kFun r=true
 ·rw[if_pos c1]at fin f6;rw[if_pos c1,aE];refine WpF.mono (gK f6 (by decide)) ?_;rintro _ σ5 ⟨rfl,d3,e1⟩;simp only[wpS];refine gI hA a0 hlo (g9.seq e1) d3 (e1.st l0 a0) (by rw[gG];decide) rfl fun σ6 d0 e0 c0 e8=>?_;refine gI hA a0 hlo d0 c0 e8 (by rw[List.length_set,gG];decide) rfl fun σ7 b4 d9 a9 e7=>?_;rw[aE];refine WpF.mono (cH a9 [45,62]) ?_;rintro _ σ8 ⟨rfl,a8,a6⟩;simp only[wpS];rw[aE];obtain⟨a,h1⟩:∃a,parse ws e n .expr (bQ ws e [45,62] (bK ws e 2 r.next).2)=some a:=by
   rw[oT,if_pos c1]at h;cases hh:parse ws e n .expr (bQ ws e [45,62] (bK ws e 2 r.next).2)with
   |none=>rw[hh]at h;cases h
   |some a=>exact⟨a,rfl⟩
  have e5:A+1<=σ8.n:=by have:=e1.n;have:=e0.n;have:=d9.n;have:=a6.n;omega
  refine WpF.mono (ih n (Nat.le_refl _) .expr _ a σ8 rfl trivial h1 a8) ?_;rintro _ σ9 ⟨j1,rfl,t1,b1,a1⟩;simp only[wpS];have e4:=a1.n;refine jE (l:=[]) (q:=none) (m:=A+1) (KR.none (Y:=cE B (A+1))) (by simp) (by omega) e5 (fun h=>absurd rfl h) t1 b1 (by omega) fun σa rba pa ca a3 b0 c6=>?_;simp only[wpS,T157k9];have k2:=((b4.seq a6).seq a1).trans a3 (fun _ _ h=>h) fun j hj h=>by omega
  have f2:=a3.st (a1.st (a6.st e7 a0) a0) (by omega);exact fin k2 b0 false 6 [] _ f2 c6 (fun h=>by cases h) (by simp) (by rw[h1];rfl)
 rw[if_neg c1]at fin f6;rw[if_neg c1,aE];refine WpF.mono (bX f6 kLet) ?_;rintro _ σ5 ⟨rfl,d3,e1⟩;simp only[wpS];rw[aA];unfold gQ at d3;have g8:=g9.seq e1;have k9:=e1.st l0 a0;have n8:=e1.n;by_cases c2:isM ws e kLet r=true
 ·rw[if_pos c2]at fin d3;rw[if_pos c2];refine gI hA a0 hlo g8 d3 k9 (by rw[gG];decide) rfl fun σ6 d0 e0 c0 e8=>?_;have f3:St σ6 A (nd7 8 [] [] fr 0):=e8;have l7:=e0.n;rw[aE];refine WpF.mono (bX c0 kRec) ?_;rintro _ σ7 ⟨rfl,a9,b4⟩;simp only[wpS];unfold gQ at a9;have k5:=b4.n;have body:∀(k:Int) (nm pm:List UInt8) (r':Rs) (σ':aC),Frm σ σ' (· =B)->Rdr σ' B lo p cap ws e r'->St σ' A (nd7 k nm pm fr 0)->A+1<=σ'.n->
    (if isM ws e kRec r.next=true then some ((9:Int),(bK ws e 2 r.next.next).1,(bK ws e 2 (bK ws e 2 r.next.next).2).1,(bK ws e 2 (bK ws e 2 r.next.next).2).2) else some (8,(bK ws e 2 r.next).1,[],(bK ws e 2 r.next).2))=some (k,nm,pm,r')->
    Wp aG ovD (T157k0 (some ⟨B,0,some 0⟩) .normal []) σ' fun e_1 vs σ'=>Wp aG ovD (T157k8 e_1 vs) σ' fun e_1 vs σ'=>Wp aG ovD (T157k9 e_1 vs) σ' fun e_1 vs σ'=>Wp aG ovD (T157k12 (some ⟨B,0,some 0⟩) ⟨A,0,some 0⟩ e_1 vs) σ' fun _ vs σ'=>∃v,vs=[v]/\RQ B lo p cap ws e σ x v σ':=by
   intro k nm pm r' σ' n2 j4 m7 o0 hz;rw[oT,if_neg c1,if_pos c2,hz]at h;simp only[Option.bind_some]at h;rw[hz]at fin;simp only[Option.bind_some]at fin;obtain⟨y,h1,_⟩:=aW h;obtain⟨a,h2,h1⟩:=aW h1;obtain⟨b,h3,h1⟩:=aW h1;have hy:=ofS h1;simp only[wpS,T157k0];rw[aE];refine WpF.mono (cH j4 [61]) ?_;rintro _ σ8 ⟨rfl,a8,a6⟩;simp only[wpS];rw[aE];have e5:=a6.n;refine WpF.mono (ih n (Nat.le_refl _) .expr _ a σ8 rfl trivial h2 a8) ?_;rintro _ σ9 ⟨j1,rfl,t1,b1,a1⟩;simp only[wpS];have e4:=a1.n;refine jE (l:=[]) (q:=none) (m:=A+1) (KR.none (Y:=cE B (A+1))) (by simp) (by omega) (m':=σ8.n) (by omega) (fun h=>absurd rfl h) t1 b1 (by omega) fun σa rba pa ca a3 b0 c6=>?_;have f0:=a3.n;have n1:Frm σ9 σa (· =B)->True:=fun _=>trivial;rw[aE];refine WpF.mono (cH b0 kIn) ?_;rintro _ σb ⟨rfl,b7,a4⟩;simp only[wpS];rw[aE];have i2:=a4.n;have d5:=c6.frm a4 fun _ _ h=>.inl h;refine WpF.mono (ih n (Nat.le_refl _) .expr _ b σb rfl trivial h3 b7) ?_;rintro _ σc ⟨j2,rfl,t2,b3,a7⟩;simp only[wpS];have i1:=a7.n;refine jE (l:=[]++[a.1]) (m:=A+1) (d5.frm a7 fun _ _ h=>.inl h) (by simp) (by omega) (m':=σb.n) (by omega) (fun h=>d5.row.lt h) t2 b3 (by omega) fun σd rbd pd cd a5 b9 e9=>?_;simp only[wpS,T157k8,T157k9];have lowA:∀{τ:aC},∀j,j<σ.n->(A+1<=j/\j≠B)->j=B:=fun j hj h=>by omega
   have e3:=((((((n2.seq a6).seq a1).trans a3 (fun _ _ h=>h) (lowA (τ:=σ))).seq a4).seq a7)).trans a5 (fun _ _ h=>h) (lowA (τ:=σ));have i6:=a5.st (a7.st (a4.st (a3.st (a1.st (a6.st m7 a0) a0) (by omega)) a0) a0) (by omega);exact fin e3 b9 false k nm pm i6 e9 (fun h=>by cases h) (by simp) (by rw[h2,Option.bind_some,h3];rfl)
  rw[aA];by_cases c3:isM ws e kRec r.next=true
  ·rw[if_pos c3]at a9;rw[if_pos c3];refine gI hA a0 hlo (d0.seq b4) a9 (b4.st f3 a0) (by rw[gG];decide) rfl fun σ8 a6 d8 a8 e6=>?_;have e5:=d8.n;simp only[wpS,T157k1];rw[aE];refine WpF.mono (gK a8 (by decide)) ?_;rintro _ σ9 ⟨rfl,b1,a1⟩;simp only[wpS];refine gI hA a0 hlo (a6.seq a1) b1 (a1.st e6 a0) (by rw[List.length_set,gG];decide) rfl fun σa a3 d7 b0 f2=>?_;have b6:St σa A (nd7 9 (bK ws e 2 r.next.next).1 [] fr 0):=f2;rw[aB b6 rfl];simp only[wpS];rw[aA,if_pos (by rfl),aE];refine WpF.mono (gK b0 (by decide)) ?_;rintro _ σb ⟨rfl,b7,a4⟩;simp only[wpS];refine gI hA a0 hlo (a3.seq a4) b7 (a4.st b6 a0) (by rw[gG];decide) rfl fun σc a7 j7 b3 i3=>?_;simp only[wpS];have e4:=a1.n;have f0:=d7.n;have i2:=a4.n;have i1:=j7.n;exact body 9 _ _ _ σc a7 b3 i3 (by omega) (if_pos c3)
  ·rw[if_neg c3]at a9;rw[if_neg c3];simp only[wpS,T157k1];rw[aE];refine WpF.mono (gK a9 (by decide)) ?_;rintro _ σ9 ⟨rfl,b1,a1⟩;simp only[wpS];refine gI hA a0 hlo ((d0.seq b4).seq a1) b1 (a1.st (b4.st f3 a0) a0) (by rw[gG];decide) rfl fun σa a3 d7 b0 f2=>?_;have b6:St σa A (nd7 8 (bK ws e 2 r.next).1 [] fr 0):=f2;rw[aB b6 rfl];simp only[wpS];rw[aA,if_neg (by decide)];simp only[wpS];have e4:=a1.n;have f0:=d7.n;exact body 8 _ [] _ σa a3 b0 b6 (by omega) (if_neg c3)
 rw[if_neg c2]at fin d3;rw[if_neg c2,aE];refine WpF.mono (bX d3 kIf) ?_;rintro _ σ6 ⟨rfl,c0,d0⟩;simp only[wpS];rw[aA];unfold gQ at c0;have g7:=g8.seq d0;have e8:=d0.st k9 a0;have l7:=d0.n;have lowA:∀j,j<σ.n->(A+1<=j/\j≠B)->j=B:=fun j hj h=>by omega
 by_cases c3:isM ws e kIf r=true
 ·rw[if_pos c3]at fin c0;rw[oT,if_neg c1,if_neg c2,if_pos c3]at h;obtain⟨y,h1,_⟩:=aW h;obtain⟨a,h2,h1⟩:=aW h1;obtain⟨b,h3,h1⟩:=aW h1;obtain⟨c,h4,h1⟩:=aW h1;rw[if_pos c3];refine gI hA a0 hlo g7 c0 e8 (by rw[gG];decide) rfl fun σ7 b4 d9 a9 e7=>?_;have k5:=d9.n;rw[aE];refine WpF.mono (ih n (Nat.le_refl _) .expr _ a σ7 rfl trivial h2 a9) ?_;rintro _ σ8 ⟨j1,rfl,t1,a8,a6⟩;simp only[wpS];have e5:=a6.n;refine jE (l:=[]) (q:=none) (m:=A+1) (KR.none (Y:=cE B (A+1))) (by simp) (by omega) (m':=σ7.n) (by omega) (fun h=>absurd rfl h) t1 a8 (by omega) fun σ9 rb9 p9 c9 a1 b1 m9=>?_;have e4:=a1.n;rw[aE];refine WpF.mono (cH b1 kThen) ?_;rintro _ σa ⟨rfl,b0,a3⟩;simp only[wpS];have f0:=a3.n;rw[aE];refine WpF.mono (ih n (Nat.le_refl _) .expr _ b σa rfl trivial h3 b0) ?_;rintro _ σb ⟨j2,rfl,t2,b7,a4⟩;simp only[wpS];have i2:=a4.n;have c6:=m9.frm a3 fun _ _ h=>.inl h;refine jE (l:=[]++[a.1]) (m:=A+1) (c6.frm a4 fun _ _ h=>.inl h) (by simp) (by omega) (m':=σa.n) (by omega) (fun h=>c6.row.lt h) t2 b7 (by omega) fun σc rbc pc cc a7 b3 f7=>?_;have i1:=a7.n;rw[aE];refine WpF.mono (cH b3 kElse) ?_;rintro _ σd ⟨rfl,b9,a5⟩;simp only[wpS];have k4:=a5.n;rw[aE];refine WpF.mono (ih n (Nat.le_refl _) .expr _ c σd rfl trivial h4 b9) ?_;rintro _ σe ⟨j3,rfl,t3,f5,b8⟩;simp only[wpS];have k3:=b8.n;have e9:=f7.frm a5 fun _ _ h=>.inl h;refine jE (l:=[]++[a.1]++[b.1]) (m:=A+1) (e9.frm b8 fun _ _ h=>.inl h) (by simp) (by omega) (m':=σd.n) (by omega) (fun h=>e9.row.lt h) t3 f5 (by omega) fun σf rbf pf cf b5 f4 d4=>?_;simp only[wpS,T157k7,T157k8,T157k9];have k1:=((((((((b4.seq a6).trans a1 (fun _ _ h=>h) lowA).seq a3).seq a4).trans a7 (fun _ _ h=>h) lowA).seq a5).seq b8)).trans b5 (fun _ _ h=>h) lowA;have m4:=b5.st (b8.st (a5.st (a7.st (a4.st (a3.st (a1.st (a6.st e7 a0) (by omega)) a0) a0) (by omega)) a0) a0) (by omega);exact fin k1 f4 false 10 [] [] m4 d4 (fun h=>by cases h) (by simp) (by rw[h2,Option.bind_some,h3,Option.bind_some,h4];rfl)
 rw[if_neg c3]at fin c0;rw[if_neg c3,aE];refine WpF.mono (bX c0 kMatch) ?_;rintro _ σ7 ⟨rfl,a9,b4⟩;simp only[wpS];rw[aA];unfold gQ at a9;have g6:=g7.seq b4;have e7:=b4.st e8 a0;have k5:=b4.n;by_cases c4:isM ws e kMatch r=true
 ·rw[if_pos c4]at fin a9;rw[oT,if_neg c1,if_neg c2,if_neg c3,if_pos c4]at h;obtain⟨y,h1,_⟩:=aW h;obtain⟨a,h2,h1⟩:=aW h1;obtain⟨b,h3,h1⟩:=aW h1;rw[if_pos c4];refine gI hA a0 hlo g6 a9 e7 (by rw[gG];decide) rfl fun σ8 a6 d8 a8 e6=>?_;have e5:=d8.n;rw[aE];have g0:=(fS _ _ _ _ (show Pre ws .expr r.next from trivial) h2).2.le;refine WpF.mono (ih n (Nat.le_refl _) .expr _ a σ8 rfl trivial h2 a8) ?_;rintro _ σ9 ⟨j1,rfl,t1,b1,a1⟩;simp only[wpS];have e4:=a1.n;refine jE (l:=[]) (q:=none) (m:=A+1) (KR.none (Y:=cE B (A+1))) (by simp) (by omega) (m':=σ8.n) (by omega) (fun h=>absurd rfl h) t1 b1 (by omega) fun σa rba pa ca a3 b0 c6=>?_;have f0:=a3.n;rw[aE];refine WpF.mono (cH b0 rT) ?_;rintro _ σb ⟨rfl,b7,a4⟩;simp only[wpS];have i2:=a4.n;have f9:=(((a6.seq a1).trans a3 (fun _ _ h=>h) lowA).seq a4);have k8:=a4.st (a3.st (a1.st e6 a0) (by omega)) a0;have d5:=c6.frm a4 fun _ _ h=>.inl h;have gw:=(bJ (ws:=ws) (e:=e) rT a.2).1.le;have n3:=h3;refine Wp.loop (fun m st σ'=>m<=n/\∃(l:List Tm) (more:Bool) (r':Rs) (rb:Nat) (bl:List Nat) (q:Addr) (c:Nat),st=[.bool more,.slice (some q) l.length c]/\parse ws e m (.armL l more) r'=some b/\KR σ' (cE B (A+1)) rb l bl (some q) c/\Rdr σ' B lo p cap ws e r'/\Frm σ σ' (· =B)/\St σ' A (nd7 11 [] [] fr 0)/\A+1<=σ'.n/\1<=r'.p/\l.length<=r'.p+2/\(r'.bad=false->l.length<=r'.p)) n
   ⟨Nat.le_refl _,_,true,_,rba,_,pa,ca,rfl,h3,d5,b7,f9,k8,by omega,by simp only[Rs.next]at g0;omega,by simp,fun _=>by simp only[Rs.next]at g0;simp;omega⟩ ?_
  clear h3 d5 b7 f9 k8 a4 b0 c6 a3 b1 a1 t1;rintro m st σc ⟨hm,l,more,r',rb,bl,q,c,rfl,h3,f7,b3,a7,i3,i1,n6,o1,m1⟩;cases m with
  |zero=>cases h3
  |succ m=>
  rw[parse]at h3;have n5:=b3.pl;have n4:=b3.len;unfold T157b0;simp only[wpS];have done:¬(more=true/\r'.bad=false)->Wp aG ovD (T157k4 (some ⟨B,0,some 0⟩) (.exit 1) [.bool more,.slice (some q) l.length c]) σc fun e_1 vs σ'=>Wp aG ovD (T157k6 e_1 vs) σ' fun e_1 vs σ'=>Wp aG ovD (T157k7 e_1 vs) σ' fun e_1 vs σ'=>Wp aG ovD (T157k8 e_1 vs) σ' fun e_1 vs σ'=>Wp aG ovD (T157k9 e_1 vs) σ' fun e_1 vs σ'=>Wp aG ovD (T157k12 (some ⟨B,0,some 0⟩) ⟨A,0,some 0⟩ e_1 vs) σ' fun _ vs σ'=>∃v,vs=[v]/\RQ B lo p cap ws e σ x v σ':=by intro hc;rw[if_neg hc]at h3;have hx:=ofS h3;subst hx;simp only[wpS,T157k4];rw[aE];refine WpF.mono (cH b3 kEnd) ?_;rintro _ σd ⟨rfl,b9,a5⟩;simp only[wpS,T157k6,T157k7,T157k8,T157k9];have ge:=(bJ (ws:=ws) (e:=e) kEnd r').1.le;exact fin (a7.seq a5) b9 true 11 [] [] (a5.st i3 a0) (f7.frm a5 fun _ _ h=>.inl h) (fun _=>by omega) (by omega) (by rw[h2,Option.bind_some,n3];rfl)
  rw[aA];by_cases d1:more=true
  case neg=>rw[if_neg (by simpa using d1)];simp only[wpS,T157k3];rw[aA,if_neg (by simp)];simp only[wpS];exact done fun h=>d1 h.1
  rw[if_pos (by simpa using d1),aB b3.st rfl];simp only[wpS,T157k3];rw[aA];by_cases d2:r'.bad=true
  ·rw[if_neg (by simp[d2])];simp only[wpS];exact done fun h=>by rw[d2]at h;exact absurd h.2 (by simp)
  have d2':r'.bad=false:=by simpa using d2
  rw[if_pos ⟨d1,d2'⟩]at h3;obtain⟨a2,h4,h3⟩:=aW h3;obtain⟨b2,h5,h3⟩:=aW h3;rw[if_pos (by simp[d2']),aF,aE];refine WpF.mono (ih m (by omega) .pat _ a2 σc rfl trivial h4 b3) ?_;rintro _ σd ⟨j2,rfl,t2,b9,a5⟩;simp only[wpS];have k4:=a5.n;refine jE (m:=A+1) (f7.frm a5 fun _ _ h=>.inl h) (by omega) (by omega) (m':=σc.n) (by omega) (fun h=>f7.row.lt h) t2 b9 (by omega) fun σe rbe pe ce b8 f5 j6=>?_;have k3:=b8.n;rw[aE];refine WpF.mono (cH f5 [45,62]) ?_;rintro _ σf ⟨rfl,f4,b5⟩;simp only[wpS];have l6:=b5.n;rw[aE];refine WpF.mono (ih m (by omega) .expr _ b2 σf rfl trivial h5 f4) ?_;rintro _ σg ⟨j3,rfl,t3,j0,c7⟩;simp only[wpS];have l5:=c7.n;have d4:=j6.frm b5 fun _ _ h=>.inl h;rw[show l.length+1=(l++[a2.1]).length by simp];refine jE (m:=A+1) (d4.frm c7 fun _ _ h=>.inl h) (by simp;omega) (by omega) (m':=σf.n) (by omega) (fun h=>d4.row.lt h) t3 j0 (by omega) fun σh rbh ph ch d6 i9 j5=>?_;simp only[wpS,T157k2];rw[aE];refine WpF.mono (bX i9 [124]) ?_;rintro _ σi ⟨rfl,i8,c8⟩;simp only[wpS];have l4:=d6.n;have n7:=c8.n;have g1:=(fS _ _ _ _ (show Pre ws .pat r' from trivial) h4).1 rfl;have g2:=bJ (ws:=ws) (e:=e) [45,62] a2.2;have g3:=(fS _ _ _ _ (show Pre ws .expr (bQ ws e [45,62] a2.2) from trivial) h5).2;have g4:b2.2.p<=(gQ ws e [124] b2.2).p/\(gQ ws e [124] b2.2).bad=b2.2.bad:=by
   unfold gQ;split
   ·exact⟨Nat.le_succ _,rfl⟩
   ·exact⟨Nat.le_refl _,rfl⟩
  have q1:=g1.1.le;have q2:=g2.1.le;have q3:=g3.le;have lb:=m1 d2';have e2:=(((((a7.seq a5).trans b8 (fun _ _ h=>h) lowA).seq b5).seq c7).trans d6 (fun _ _ h=>h) lowA).seq c8;have i5:=c8.st (d6.st (c7.st (b5.st (b8.st (a5.st i3 a0) (by omega)) a0) a0) (by omega)) a0;have f1:(l++[a2.1]++[b2.1]).length=l.length+2:=by simp
  refine⟨m,by omega,by omega,l++[a2.1]++[b2.1],isM ws e [124] b2.2,gQ ws e [124] b2.2,rbh,_,ph,ch,?_,h3,j5.frm c8 fun _ _ h=>.inl h,i8,e2,i5,by omega,by omega,by omega,?_⟩
  ·rw[f1];simp
  ·intro hb;rw[g4.2]at hb;have m3:(bQ ws e [45,62] a2.2).bad=false:=by
    cases hx:(bQ ws e [45,62] a2.2).bad with
    |false=>rfl
    |true=>rw[g3.bad hx]at hb;cases hb
   have k7:=dQ m3;rcases g1.2 with hg|hg
   ·rw[k7.1]at hg;cases hg
   ·have:=k7.2;omega
 rw[if_neg c4]at fin a9;rw[if_neg c4,aE];refine WpF.mono (bX a9 kTry) ?_;rintro _ σ8 ⟨rfl,a8,a6⟩;simp only[wpS];rw[aA];unfold gQ at a8;have g5:=g6.seq a6;have e6:=a6.st e7 a0;have e5:=a6.n;by_cases c5:isM ws e kTry r=true
 ·rw[if_pos c5]at fin a8;rw[oT,if_neg c1,if_neg c2,if_neg c3,if_neg c4,if_pos c5]at h;obtain⟨y,h1,_⟩:=aW h;obtain⟨a,h2,h1⟩:=aW h1;obtain⟨b,h3,h1⟩:=aW h1;rw[if_pos c5];refine gI hA a0 hlo g5 a8 e6 (by rw[gG];decide) rfl fun σ9 a1 j8 b1 m6=>?_;have e4:=j8.n;rw[aE];refine WpF.mono (ih n (Nat.le_refl _) .expr _ a σ9 rfl trivial h2 b1) ?_;rintro _ σa ⟨j1,rfl,t1,b0,a3⟩;simp only[wpS];have f0:=a3.n;refine jE (l:=[]) (q:=none) (m:=A+1) (KR.none (Y:=cE B (A+1))) (by simp) (by omega) (m':=σ9.n) (by omega) (fun h=>absurd rfl h) t1 b0 (by omega) fun σb rbb pb cb a4 b7 d5=>?_;have i2:=a4.n;rw[aE];refine WpF.mono (cH b7 rT) ?_;rintro _ σc ⟨rfl,b3,a7⟩;simp only[wpS];have i1:=a7.n;rw[aE];refine WpF.mono (gK b3 (by decide)) ?_;rintro _ σd ⟨rfl,b9,a5⟩;simp only[wpS];have k4:=a5.n;have e3:=(((a1.seq a3).trans a4 (fun _ _ h=>h) lowA).seq a7).seq a5;have i6:=a5.st (a7.st (a4.st (a3.st m6 a0) (by omega)) a0) a0;have e9:=(d5.frm a7 fun _ _ h=>.inl h).frm a5 fun _ _ h=>.inl h;refine gI hA a0 hlo e3 b9 i6 (by rw[List.length_set,gG];decide) rfl fun σe b8 f8 f5 m5=>?_;have j6:=e9.frm f8 fun j _ hj=>.inr (by omega);have k3:=f8.n;rw[aE];refine WpF.mono (cH f5 [45,62]) ?_;rintro _ σf ⟨rfl,f4,b5⟩;simp only[wpS];have l6:=b5.n;rw[aE];refine WpF.mono (ih n (Nat.le_refl _) .expr _ b σf rfl trivial h3 f4) ?_;rintro _ σg ⟨j2,rfl,t2,j0,c7⟩;simp only[wpS];have l5:=c7.n;have d4:=j6.frm b5 fun _ _ h=>.inl h;refine jE (l:=[]++[a.1]) (m:=A+1) (d4.frm c7 fun _ _ h=>.inl h) (by simp) (by omega) (m':=σf.n) (by omega) (fun h=>d4.row.lt h) t2 j0 (by omega) fun σh rbh ph ch d6 i9 j5=>?_;have l4:=d6.n;rw[aE];refine WpF.mono (cH i9 kEnd) ?_;rintro _ σi ⟨rfl,i8,c8⟩;simp only[wpS,T157k5,T157k6,T157k7,T157k8,T157k9];have e2:=(((b8.seq b5).seq c7).trans d6 (fun _ _ h=>h) lowA).seq c8;have i5:=c8.st (d6.st (c7.st (b5.st m5 a0) a0) (by omega)) a0;have q0:1<=(bQ ws e kEnd b.2).p:=by have q1:=(fS _ _ _ _ (show Pre ws .expr r.next from trivial) h2).2.le;have q2:=(bJ (ws:=ws) (e:=e) rT a.2).1.le;have q3:=(cG (ws:=ws) (e:=e) (k:=2) (by decide) (bQ ws e rT a.2)).1.le;have q4:=(bJ (ws:=ws) (e:=e) [45,62] (bK ws e 2 (bQ ws e rT a.2)).2).1.le;have q5:=(fS _ _ _ _ (show Pre ws .expr (bQ ws e [45,62] (bK ws e 2 (bQ ws e rT a.2)).2) from trivial) h3).2.le;have q6:=(bJ (ws:=ws) (e:=e) kEnd b.2).1.le;simp only[Rs.next]at q1;omega
  exact fin e2 i8 true 20 [] _ i5 (j5.frm c8 fun _ _ h=>.inl h) (fun _=>q0) (by simp) (by rw[h2,Option.bind_some,h3];rfl)
 rw[if_neg c5]at fin a8;rw[if_neg c5];simp only[wpS,T157k5,T157k6,T157k7,T157k8,T157k9];exact fin (l:=[]) (q:=none) (c:=0) g5 a8 false 0 [] [] e6 KR.none (fun h=>by cases h) (by simp) rfl
end
section
variable{β:Type}
def mI(R:aC->(Nat->Prop)->List Value->β->Prop):Prop:=
 ∀(σ σ':aC) (S Y Y':Nat->Prop) (cs:List Value) (b:β),Frm σ σ' S->(∀j,j<σ.n->S j->Y j)->(∀j,j<σ.n->Y' j->Y j)->R σ Y cs b->R σ' Y' cs b
structure GR(R:aC->(Nat->Prop)->List Value->β->Prop)(k:Nat)(σ:aC)(Y:Nat->Prop)(rb:Nat)(l:List β)(css:List (List Value))(p:Option Addr)(c:Nat):Prop where
 row:SlE σ rb p c k css.flatten
 hr:p≠none->¬Y rb
 len:css.length=l.length
 cl:∀cs∈css,cs.length=k
 el:∀i (h:i<css.length) (h':i<l.length),R σ (fun j=>Y j\/p≠none/\j=rb) css[i] l[i]
variable{R:aC->(Nat->Prop)->List Value->β->Prop}{k:Nat}{σ σ':aC}{Y Y' S:Nat->Prop}{rb:Nat}{l:List β}{css:List (List Value)}{p:Option Addr}{c:Nat}
theorem GR.zero:GR R k σ Y 0 [] [] none 0:=⟨.inl ⟨rfl,rfl,rfl⟩,fun h=>absurd rfl h,rfl,fun _ h=>(List.not_mem_nil h).elim,fun _ h=>absurd h (Nat.not_lt_zero _)⟩
theorem GR.step(hM:mI R)(h:GR R k σ Y rb l css p c)(f:Frm σ σ' S)(hS:∀j,j<σ.n->S j->Y j)(hY:∀j,j<σ.n->Y' j->Y j):GR R k σ' Y' rb l css p c:=
 ⟨h.row.frm f fun hp h1=>h.hr hp (hS _ (h.row.lt hp) h1),fun hp h1=>h.hr hp (hY _ (h.row.lt hp) h1),h.len,h.cl,fun i h1 h2=>hM _ _ _ _ _ _ _ f (fun j hj h3=>.inl (hS j hj h3)) (fun j hj h3=>h3.elim (fun h3=>.inl (hY j hj h3)) .inr) (h.el i h1 h2)⟩
theorem GR.frm(hM:mI R)(h:GR R k σ Y rb l css p c)(f:Frm σ σ' S)(hS:∀j,j<σ.n->S j->Y j):GR R k σ' Y rb l css p c:=GR.step (Y':=Y) hM h f hS fun _ _ h=>h
theorem GR.frmN(hM:mI R)(h:GR R k σ Y rb l css p c)(f:Frm σ σ' NoB):GR R k σ' Y rb l css p c:=GR.step (S:=NoB) (Y':=Y) hM h f (fun _ _ h=>h.elim) fun _ _ h=>h
theorem GR.lt(h:GR R k σ Y rb l css p c)(hp:p≠none):rb<σ.n:=h.row.lt hp
theorem GR.nil(hk:1<=k)(h:GR R k σ Y rb l css p c)(hp:p=none):l=[]/\css=[]:=by
 rcases h.row with⟨_,_,h0⟩|⟨off,s,h1,_⟩
 ·have h1:=cZ h.cl;rw[h0,List.length_nil]at h1;have h2:css.length=0:=by
   rcases Nat.mul_eq_zero.1 h1.symm with h3|h3
   ·exact h3
   ·omega
  have h3:=h.len;exact⟨List.eq_nil_of_length_eq_zero (by omega),List.eq_nil_of_length_eq_zero h2⟩
 ·rw[hp]at h1;cases h1
theorem GR.close(hM:mI R)(hk:1<=k)(h:GR R k σ Y rb l css p c):aN σ Y k (R σ Y) p l:=by
 have el:∀i (h1:i<css.length) (h2:i<l.length),R σ Y css[i] l[i]:=fun i h1 h2=>hM _ _ _ _ _ _ _ (Frm.refl σ NoB) (fun _ _ h=>h.elim) (fun _ _ h=>.inl h) (h.el i h1 h2);rcases h.row with⟨hp,_,_⟩|⟨off,s,rfl,hR⟩
 ·rw[(h.nil hk hp).1];exact aN.nil
 ·exact aN.own hR (h.hr (by simp)) h.len h.cl el
theorem GR.more(hM:mI R)(a6:∀j,Y j->j<σ.n)(h:GR R k σ Y rb l css p c){ys:List Value}{b:β}(hy:ys.length=k)(hb:R σ (fun j=>Y j\/p≠none/\j=rb) ys b){rb' off s c':Nat}(hF:Frm σ σ' fun j=>p≠none/\j=rb)(a1:(p≠none/\rb'=rb)\/σ.n<=rb')(hR:Row σ' rb' off s c' k (css.flatten++ys)):
  GR R k σ' Y rb' (l++[b]) (css++[ys]) (some ⟨rb',off,some s⟩) c':=by
 have a4:¬Y rb':=by
  rcases a1 with⟨hp,rfl⟩|a1
  ·exact h.hr hp
  ·intro h1;have:=a6 _ h1;omega
 have a3:∀i,i<σ.n->(Y i\/some (⟨rb',off,some s⟩:Addr)≠none/\i=rb')->(Y i\/p≠none/\i=rb):=by
  rintro i hi (h1|⟨_,h1⟩)
  ·exact .inl h1
  ·subst h1;rcases a1 with⟨hp,rfl⟩|a1
   ·exact .inr ⟨hp,rfl⟩
   ·omega
 have hS:∀j,j<σ.n->(p≠none/\j=rb)->(Y j\/p≠none/\j=rb):=fun _ _ h=>.inr h;refine⟨.inr ⟨off,s,rfl,by simpa using hR⟩,fun _=>a4,by simp[h.len],?_,?_⟩
 ·intro cs a0;rcases List.mem_append.1 a0 with a0|a0
  ·exact h.cl cs a0
  ·rw[List.mem_singleton.1 a0];exact hy
 ·intro i h1 h2;by_cases hi:i<css.length
  ·have a2:i<l.length:=by rw[<-h.len];exact hi
   rw[List.getElem_append_left hi,List.getElem_append_left a2];exact hM _ _ _ _ _ _ _ hF hS a3 (h.el i hi a2)
  ·have a5:i=css.length:=by simp at h1;omega
   subst a5;have e1:(css++[ys])[css.length]'h1=ys:=by simp
   have e2:(l++[b])[css.length]'h2=b:=by simp[h.len]
   rw[e1,e2];exact hM _ _ _ _ _ _ _ hF hS a3 hb
variable{P:Program}{ov:Ov}
theorem yE(hM:mI R)(a6:∀j,Y j->j<σ.n)(h:GR R k σ Y rb l css p c)(hk:1<=k)(a3:k<64){ys:List Value}{b:β}(hy:ys.length=k)(a2:∀y∈ys,one y=true)(hb:R σ (fun j=>Y j\/p≠none/\j=rb) ys b)(hl:l.length<=1000000){byt:Nat}(a4:byt<=1000){g:Option Addr->Nat->Nat->Pg}{Q:bW}
  (K:∀σ' rb' p' c',Frm σ σ' (fun j=>p≠none/\j=rb)->((p≠none/\rb'=rb)\/σ.n<=rb')->GR R k σ' Y rb' (l++[b]) (css++[ys]) (some p') c'->Wp P ov (g (some p') (l.length+1) c') σ' Q):
  Wp P ov (.act (tU k 1 ys) fun v=>aI v fun p1 n1 c1=>.act (apS k byt p l.length c p1 n1 c1) fun w=>aI w g) σ Q:=by
 have a5:2*(l.length+1)*byt<=281474976710656:=Nat.le_trans (Nat.mul_le_mul (Nat.mul_le_mul (Nat.le_refl 2) (Nat.succ_le_succ hl)) a4) (by decide);refine kV (len:=l.length) h.row (by rw[cZ h.cl,h.len]) hk a3 hy a2 a5 (by omega) fun σ1 rb' off s c' a1 a0 a7=>?_;exact K σ1 rb' ⟨rb',off,some s⟩ c' a1 a0 (h.more hM a6 hy hb a1 a0 a7)
theorem wp_gaddC(hM:mI R)(a7:∀j,Y j->j<σ.n)(h:GR R k σ Y rb l css p c)(hk:1<=k)(a3:k<64){ys:List Value}{b:β}(hy:ys.length=k)(a2:∀y∈ys,one y=true)(hb:R σ (fun j=>Y j\/p≠none/\j=rb) ys b)(hl:l.length<=1000000){byt:Nat}(a5:byt<=1000){ck:List (Act×Value)}(a4:∀σ',Frm σ σ' NoB->chks ck σ'=true){g:Option Addr->Nat->Nat->Pg}{Q:bW}
  (K:∀σ' rb' p' c',Frm σ σ' (fun j=>p≠none/\j=rb)->((p≠none/\rb'=rb)\/σ.n<=rb')->GR R k σ' Y rb' (l++[b]) (css++[ys]) (some p') c'->Wp P ov (g (some p') (l.length+1) c') σ' Q):
  Wp P ov (.get fun h1=>grd (chks ck h1) (.act (tU k 1 ys) fun v=>aI v fun p1 n1 c1=>.get fun h2=>grd (chks ck h2) (.act (apS k byt p l.length c p1 n1 c1) fun w=>aI w g))) σ Q:=by
 have a6:2*(l.length+1)*byt<=281474976710656:=Nat.le_trans (Nat.mul_le_mul (Nat.mul_le_mul (Nat.le_refl 2) (Nat.succ_le_succ hl)) a5) (by decide);refine wp_appC (len:=l.length) h.row (by rw[cZ h.cl,h.len]) hk a3 hy a2 a6 (by omega) a4 fun σ1 rb' off s c' a1 a0 a8=>?_;exact K σ1 rb' ⟨rb',off,some s⟩ c' a1 a0 (h.more hM a7 hy hb a1 a0 a8)
end
section
variable{σ σ':aC}{Y Y' S:Nat->Prop}
def Emp(σ:aC)(Y:Nat->Prop)(q:Option Addr):Prop:=∀a,q=some a->Vis σ Y a/\σ.rdN a 0=some []
theorem Emp.none:Emp σ Y none:=fun _ h=>by cases h
theorem Emp.step{q:Option Addr}(h:Emp σ Y q)(f:Frm σ σ' S)(hS:∀j,j<σ.n->S j->Y j)(hY:∀j,j<σ.n->Y' j->Y j):Emp σ' Y' q:=by intro a ha;obtain⟨h1,h2⟩:=h a ha;have:=gX (n:=0) (k:=0) f h1 hS;rw[show aadd a 0=a from rfl]at this;exact⟨h1.step f hY,by rw[this];exact h2⟩
theorem Row.emp{b off s c esz:Nat}{xs:List Value}(h:Row σ b off s c esz xs)(hb:¬Y b):Emp σ Y (some ⟨b,off,some s⟩):=by intro a ha;cases ha;exact⟨.inr ⟨h.lt,hb⟩,by simpa using h.rdN (i:=0) (k:=0) (Nat.zero_le _)⟩
theorem SlE.emp{b c esz:Nat}{p:Option Addr}{xs:List Value}(h:SlE σ b p c esz xs)(hb:p≠none->¬Y b):Emp σ Y p:=by
 rcases h with⟨rfl,_,_⟩|⟨off,s,rfl,hR⟩
 ·exact Emp.none
 ·exact hR.emp (hb (by simp))
theorem GR.emp{β:Type}{R:aC->(Nat->Prop)->List Value->β->Prop}{k rb c:Nat}{l:List β}{css:List (List Value)}{p:Option Addr}(h:GR R k σ Y rb l css p c):Emp σ Y p:=h.row.emp h.hr
theorem rdN_join{a:Addr}{n k:Nat}{xs ys:List Value}(h:σ.rdN a n=some xs)(h2:σ.rdN (aadd a n) k=some ys):σ.rdN a (n+k)=some (xs++ys):=by
 obtain⟨b,off,s⟩:=a;unfold aC.rdN aadd at h2;unfold aC.rdN at h ⊢;cases s with
 |none=>
  simp only at h h2 ⊢;obtain⟨h1,h3⟩:=qW _ _ _ h;obtain⟨h4,h5⟩:=qW _ _ _ h2;have:=yN (old:=σ.old) (b:=b) (xs++ys) off fun i v hv=>by
   by_cases hi:i<xs.length
   ·rw[List.getElem?_append_left hi]at hv;exact h3 i v hv
   ·rw[List.getElem?_append_right (by omega)]at hv;have:=h5 _ _ hv;rw[show off+n+(i-xs.length)=off+i by omega]at this;exact this
  rw[List.length_append,h1,h4]at this;exact this
 |some s=>
  simp only at h h2 ⊢;split at h2
  ·rename_i B hB;rw[hB]at h;simp only at h;split at h2
   ·rename_i hi a0;rw[a0]at h;simp only at h;obtain⟨h1,h3⟩:=wF h;obtain⟨h4,h5⟩:=wF h2;simp only[Option.some.injEq]at h3 h5;simp only[Bool.and_eq_true,Nat.ble_eq]at h1 h4;have h6:(Nat.ble B.dirty (s/64)&&Nat.ble (off+(n+k)) hi)=true:=by simp only[Bool.and_eq_true,Nat.ble_eq];omega
    rw[h6,cond_true,<-h3,<-h5,List.take_add,List.drop_drop]
   ·cases h2
  ·cases h2
theorem aN.whole{β:Type}{R:List Value->β->Prop}{f:β->Value}(hR:∀cs t,R cs t->cs=[f t]){a:Addr}{ts:List β}(h:aN σ Y 1 R (some a) ts)(he:Emp σ Y (some a)):σ.rdN a ts.length=some (ts.map f):=by
 have:∀m,m<=ts.length->σ.rdN a m=some ((ts.take m).map f):=by
  intro m;induction m with
  |zero=>intro _;simpa using (he a rfl).2
  |succ m ih=>intro hm;obtain⟨x,cs,hx,_,h3,h4⟩:=h m hm;cases hx;rw[hR _ _ h4,Nat.mul_one]at h3;rw[rdN_join (ih (by omega)) h3,List.take_succ_eq_append_getElem hm,List.map_append];try rfl
 have:=this _ (Nat.le_refl _);rwa[List.take_length]at this
variable{P:Program}{ov:Ov}
theorem yG{b cap len cap2 n byt:Nat}{p p2:Option Addr}{xs ys:List Value}{g:Option Addr->Nat->Nat->Pg}{Q:bW}(h:SlV σ b p cap xs)(a1:len=xs.length)(h2:p2=none/\ys=[]\/∃a,p2=some a/\σ.rdN a ys.length=some ys)(hn:n=ys.length)(a0:∀y∈ys,one y=true)
  (hb:2*(len+n)*byt<=281474976710656) (a3:len+n<=4611686018427387904)
  (k:∀σ' b' p' cap',Frm σ σ' (fun j=>p≠none/\j=b)->(p'=none\/(p≠none/\b'=b)\/σ.n<=b')->SlV σ' b' p' cap' (xs++ys)->Wp P ov (g p' (len+n) cap') σ' Q):
  Wp P ov (.act (apS 1 byt p len cap p2 n cap2) fun w=>aI w g) σ Q:=by
 subst a1;subst hn;by_cases h0:ys=[]
 ·subst h0;have e:apS 1 byt p xs.length cap p2 ([]:List Value).length cap2 σ=some (.slice p xs.length cap,σ):=by
   rcases h2 with⟨rfl,_⟩|⟨a,rfl,h2⟩
   ·rw[zV];exact fV h.cap
   ·rw[gY (show σ.rdN a (([]:List Value).length*1)=some [] by simpa using h2)];exact fV h.cap
  rw[aV,e];simp only[bO];refine k σ b p cap (Frm.refl _ _) ?_ (by simpa using h);cases p with
  |none=>exact .inl rfl
  |some a=>exact .inr (.inl ⟨by simp,rfl⟩)
 ·have a2:1<=ys.length:=by
   cases ys with
   |nil=>exact absurd rfl h0
   |cons y ys=>simp
  have hs:∃a,p2=some a/\σ.rdN a (ys.length*1)=some ys:=by
   rcases h2 with⟨_,h2⟩|⟨a,rfl,h2⟩
   ·exact absurd h2 h0
   ·exact⟨a,rfl,by rw[Nat.mul_one];exact h2⟩
  obtain⟨a,rfl,hr⟩:=hs;rw[aV,gY hr];rcases h with⟨rfl,rfl,rfl⟩|⟨off,s,rfl,h⟩
  ·rw[List.length_nil,lX (by decide) a2 (by simp) a0 (by simpa using hb) (by simpa using a3)];simp only[bO];have:=k (σ.newBlk ys 1) σ.n (some ⟨σ.n,0,some 1⟩) ys.length (Frm.new _ _ _ _) (.inr (.inr (Nat.le_refl _))) (.inr ⟨0,1,rfl,by simpa using Row.new σ 1 ys ys.length (by decide) (by simp) a0⟩);simpa using this
  ·obtain⟨σ',s',cap',e1,e2,e3,e4,e5⟩:=h.append (byt:=byt) (len:=xs.length) (n:=ys.length) (ys:=ys) (by simp) (by simp) (by decide) a2 a0 hb a3;rw[e1];simp only[bO];exact k σ' b _ cap' ((Frm.of1 h.lt e2 e3 e4).mono fun j _ e=>⟨by simp,e⟩) (.inr (.inl ⟨by simp,rfl⟩)) (.inr ⟨off,s',rfl,e5⟩)
theorem aN.src{β:Type}{R:List Value->β->Prop}{f:β->Value}(hR:∀cs t,R cs t->cs=[f t]){p:Option Addr}{ts:List β}(h:aN σ Y 1 R p ts)(he:Emp σ Y p):p=none/\ts.map f=[]\/∃a,p=some a/\σ.rdN a (ts.map f).length=some (ts.map f):=by
 cases p with
 |none=>
  refine .inl ⟨rfl,?_⟩;cases ts with
  |nil=>rfl
  |cons t ts=>obtain⟨x,cs,hx,_⟩:=h 0 (by simp);cases hx
 |some a=>exact .inr ⟨a,rfl,by rw[List.length_map];exact h.whole hR he⟩
def Kp(σ:aC)(a:Addr)(v:Value):Prop:=∀σ',Frm σ σ' NoB->ld1 a σ'=some (v,σ')
theorem Kp.frm{a:Addr}{v:Value}(h:Kp σ a v)(f:Frm σ σ' NoB):Kp σ' a v:=fun τ g=>h τ (f.seq g)
theorem Kp.now{a:Addr}{v:Value}(h:Kp σ a v):ld1 a σ=some (v,σ):=h σ (Frm.refl _ _)
theorem Kp.st{b i:Nat}{cs:List Value}{v:Value}(h:St σ b cs)(hv:cs[i]?=some v):Kp σ (aadd ⟨b,0,some 0⟩ i) v:=fun _ f=>(f.stN h).ldF hv
theorem Kp.ofRow{β:Type}{c:Nat}{R:List Value->β->Prop}{p:Option Addr}{ts:List β}(h:aN σ Y c R p ts){i:Nat}(hi:i<ts.length):∃x cs,p=some x/\R cs ts[i]/\∀o v,o<c->cs[o]?=some v->Kp σ (aadd (aadd x (i*c)) o) v:=by
 obtain⟨x,cs,rfl,h1,h2,h3⟩:=h i hi;refine⟨x,cs,rfl,h3,fun o v ho hv τ f=>?_⟩;have hl:=(List.getElem?_eq_some_iff.1 hv).1;have h4:τ.rdN (aadd x (i*c)) c=some cs:=by rw[gX f h1 fun _ _ h=>h.elim];exact h2
 unfold ld1;rw[nG (o:=o) (k:=1) h4 (by omega),List.drop_eq_getElem_cons hl,List.take_succ_cons,List.take_zero,(List.getElem?_eq_some_iff.1 hv).2]
theorem oS{a:Addr}{v:Value}(h:Kp σ a v)(f:Value->Pg)(Q:bW):Wp P ov (.act (ld1 a) f) σ Q=Wp P ov (f v) σ Q:=by rw[aV,h.now]
theorem chkAt_kp{a:Addr}{v:Value}(h:Kp σ a v)(f:Frm σ σ' NoB):pK (ld1 a) v σ'=true:=by unfold pK;rw[h _ f];exact lZ v
theorem bF{a:Addr}{v:Value}{l:List (Act×Value)}(h:Kp σ a v)(hl:chks l σ=true):chks ((ld1 a,v)::l) σ=true:=by unfold chks;rw[chkAt_kp h (Frm.refl _ _),hl];try rfl
theorem xY{a:Addr}{v:Value}:∀{l:List aC},(∀τ∈l,Kp τ a v)->past (ld1 a) v l=true
 |[],_=>rfl
 |τ::l,h=>by unfold past;rw[chkAt_kp (h τ (by simp)) (Frm.refl _ _),xY fun τ' h'=>h τ' (by simp[h'])];try rfl
end
section
variable{σ σ':aC}{B lo:Nat}{p:Option Addr}{cap:Nat}{ws:List Wd}{e:Nat}{r:Rs}
theorem wd_small(hW:∀w∈ws,w.t.length<=1000000)(i:Nat):(wdM ws e i).t.length<=1000000:=by
 unfold wdM;split
 ·exact hW _ (List.getElem_mem _)
 ·simp
theorem wp_reader(hW:∀w∈ws,w.t.length<=1000000):∀n,RIH B lo p cap ws e n:=by
 intro n;induction n using Nat.strongRecOn with
 |ind n ih=>
  cases n with
  |zero=>intro f r x σ _ _ h _;cases h
  |succ n=>
   have ih':∀m,m<=n->RIH B lo p cap ws e m:=fun m hm=>ih m (by omega);have ihn:=ih' n (Nat.le_refl _);intro f r x σ he hp h hR;cases f with
   |expr=>exact wp_expr ihn h hR
   |set=>exact wp_set' ihn h hR
   |cmp=>exact wp_cmp ihn h hR
   |sum=>exact wp_sum ih' h hR
   |mul=>exact wp_mul ih' h hR
   |app=>exact wp_app ih' h hR
   |pre=>exact wp_pre ihn h hR
   |atom=>exact wp_atom ihn h hR (wd_small hW _)
   |con=>exact wp_con ih' hp h hR
   |bracket=>exact wp_bracket ihn h hR
   |long=>exact wp_long ih' h hR
   |pat=>exact wp_pat ih' h hR (wd_small hW _)
   |sumL a=>cases he
   |mulL a=>cases he
   |appL a=>cases he
   |conL a=>cases he
   |armL k m=>cases he
   |patL a=>cases he
def rJ(_:aC)(_:Nat->Prop)(cs:List Value)(t:List UInt8):Prop:=cs=[.string (mkB t)]
def cnR(σ:aC)(Y:Nat->Prop)(cs:List Value)(c:Cn):Prop:=∃q k,cs=[.string (mkB c.nm),.slice q c.args.length k]/\aN σ Y 1 (rJ σ Y) q c.args/\Emp σ Y q
def dcR(σ:aC)(Y:Nat->Prop)(cs:List Value)(d:Dc):Prop:=∃q k,cs=[.string (mkB d.nm),.slice q d.cons.length k]/\aN σ Y 2 (cnR σ Y) q d.cons
theorem jT:mI rJ:=fun _ _ _ _ _ _ _ _ _ _ h=>h
theorem eB:mI cnR:=by rintro σ σ' S Y Y' cs c f hS hY ⟨q,k,h1,h2,h3⟩;exact⟨q,k,h1,h2.step f hS hY fun _ _ h=>h,h3.step f hS hY⟩
theorem cW:mI dcR:=by rintro σ σ' S Y Y' cs c f hS hY ⟨q,k,h1,h2⟩;exact⟨q,k,h1,h2.step f hS hY fun _ _ h=>eB _ _ _ _ _ _ _ f hS hY h⟩
theorem wp_decls{n:Nat}{x:List Dc×Rs}(h:jL ws e n [] r=some x)(hR:Rdr σ B lo p cap ws e r):
  WpF aG ovD 42 [bI B] σ fun v σ'=>∃q k,v=.slice q x.1.length k/\aN σ' (cE B σ.n) 2 (dcR σ' (cE B σ.n)) q x.1/\Rdr σ' B lo p cap ws e x.2/\Frm σ σ' (· =B):=by
 refine WpF.of (T42_eq _) rfl ?_;rw[T42];have hB:=hR.st.1;have hlo:=hR.low;have k1:=hR.len;refine Wp.loop (fun m st σ'=>∃(l:List Dc) (r':Rs) (rb:Nat) (css:List (List Value)) (q:Option Addr) (c:Nat),st=[.slice q l.length c]/\jL ws e m l r'=some x/\GR dcR 2 σ' (cE B σ.n) rb l css q c/\Rdr σ' B lo p cap ws e r'/\Frm σ σ' (· =B)/\l.length<=r'.p) n
  ⟨[],r,0,[],none,0,rfl,h,.zero,hR,Frm.refl _ _,by simp⟩ ?_
 clear h;rintro m st σ1 ⟨l,r',rb,css,q,c,rfl,h,hG,i2,j2,hl⟩;cases m with
 |zero=>cases h
 |succ m=>
 have m9:=j2.n;have l2:=i2.pl;rw[jL]at h;unfold T42b2;simp only[wpS];rw[aE];refine WpF.mono (bX i2 kType) ?_;rintro _ σ2 ⟨rfl,b2,f6⟩;simp only[wpS];rw[aA];unfold gQ at b2;have c0:=j2.seq f6;have d6:=hG.frm cW f6 fun _ _ h=>.inl h;by_cases hm:isM ws e kType r'=true
 case neg=>rw[if_neg hm]at h b2;have hx:=ofS h;subst hx;rw[if_neg hm];simp only[wpS,T42k7];exact⟨_,rfl,_,_,rfl,d6.close cW (by decide),b2,c0⟩
 rw[if_pos hm]at h b2;rw[if_pos hm,aF,aE];obtain⟨cs,h1,h⟩:=aW h;refine WpF.mono (gK b2 (by decide)) ?_;rintro _ σ3 ⟨rfl,k6,j1⟩;simp only[wpS];refine aJ fun σ4 l0 k0 g8=>?_;refine aZ g8 rfl rfl fun σ5 j0 m6 g7=>?_;have m8:=f6.n;have m7:=j1.n;generalize hA:σ3.n=A at g8 g7 j0 k0;have c1:A≠B:=by omega
 have b7:Frm σ3 σ5 NoB:=l0.fresh j0 fun j hj h=>by omega
 have f5:Frm σ2 σ5 (· =B):=j1.seq b7.no;rw[aE];refine WpF.mono (cH (k6.frm b7) [61]) ?_;rintro _ σ6 ⟨rfl,i1,e2⟩;simp only[wpS];have b9:=f5.seq e2;have e5:=e2.st g7 c1;have j9:=e2.n;have g0:r'.p+1<=(bQ ws e [61] (bK ws e 2 r'.next).2).p:=by have q1:=(cG (ws:=ws) (e:=e) (k:=2) (by decide) r'.next).1.le;have q2:=(bJ (ws:=ws) (e:=e) [61] (bK ws e 2 r'.next).2).1.le;have q3:r'.next.p=r'.p+1:=rfl;omega
 have gc:=(tJ _ _ _ _ _ h1).le;generalize l5:(bK ws e 2 r'.next).1=nm at e5 h;refine Wp.loop (fun m2 st σ'=>∃(lc:List Cn) (more:Bool) (r2:Rs) (rc:Nat) (cc:List (List Value)) (qc:Option Addr) (kc:Nat),st=[.bool more]/\pB ws e m2 lc more r2=some cs/\St σ' A [.string (mkB nm),.slice qc lc.length kc]/\GR cnR 2 σ' (cE B (A+1)) rc lc cc qc kc/\Rdr σ' B lo p cap ws e r2/\Frm σ2 σ' (· =B)/\A+1<=σ'.n/\lc.length<=r2.p+1/\(r2.bad=false->lc.length<=r2.p)) m
  ⟨[],true,_,0,[],none,0,rfl,h1,e5,.zero,i1,b9,by omega,by simp,fun _=>by simp⟩ ?_
 clear h1 e5 i1 b9 e2 j9;rintro m2 st σ7 ⟨lc,more,r2,rc,cc,qc,kc,rfl,h1,g6,d5,d0,i9,m5,n2,k3⟩;cases m2 with
 |zero=>cases h1
 |succ m2=>
 rw[pB]at h1;unfold T42b1;simp only[wpS];have l4:=d0.pl;have done:¬(more=true/\r2.bad=false)->Wp aG ovD (T42k5 (some ⟨B,0,some 0⟩) ⟨A,0,some 0⟩ q l.length c (.exit 2) [.bool more]) σ7 fun e_1 vs σ'=>Wp aG ovD (T42k6 e_1 vs) σ' fun e_1 st' σ'=>match e_1 with
   |.normal=>∃m',m'<m+1/\∃(l:List Dc) (r':Rs) (rb:Nat) (css:List (List Value)) (q:Option Addr) (c:Nat),st'=[.slice q l.length c]/\jL ws e m' l r'=some x/\GR dcR 2 σ' (cE B σ.n) rb l css q c/\Rdr σ' B lo p cap ws e r'/\Frm σ σ' (· =B)/\l.length<=r'.p
   |e_1=>Wp aG ovD (T42k7 e_1 st') σ' fun _ vs σ'=>∃v,vs=[v]/\∃q k,v=.slice q x.1.length k/\aN σ' (cE B σ.n) 2 (dcR σ' (cE B σ.n)) q x.1/\Rdr σ' B lo p cap ws e x.2/\Frm σ σ' (· =B):=by
  intro hc;rw[if_neg hc]at h1;have hx:=ofS h1;subst hx;simp only[wpS,T42k5];rw[aE];refine WpF.mono (cH d0 kIn) ?_;rintro _ σ8 ⟨rfl,c8,a3⟩;simp only[wpS];rw[aL (a3.st g6 c1) 2 rfl];simp only[wpS];have b8:=i9.seq a3;have j8:=a3.n;have e7:=d5.frm eB a3 fun _ _ h=>.inl h;have a1:∀j,j<σ8.n->(cE B σ.n j\/q≠none/\j=rb)->cE B (A+1) j:=by
   rintro j _ ((h1|h1)|⟨h1,h2⟩)
   ·exact .inl h1
   ·exact .inr (by omega)
   ·exact .inr (by have:=d6.lt h1;omega)
  have hb:dcR σ8 (fun j=>cE B σ.n j\/q≠none/\j=rb) [.string (mkB nm),.slice qc lc.length kc] ⟨nm,lc⟩:=
   cW _ _ _ _ _ _ _ (Frm.refl σ8 NoB) (fun _ _ h=>h.elim) a1 ⟨qc,kc,rfl,e7.close eB (by decide)⟩
  refine yE cW (kX c8 (by omega)) (d6.frm cW b8 fun _ _ h=>.inl h) (by decide) (by decide) rfl (by intro y hy;simp at hy;rcases hy with rfl|rfl<;>rfl) hb (by omega) (by decide) fun σ9 rb9 p9 c9 e1 j3 k9=>?_;simp only[wpS,T42k6];have e3:q≠none->σ.n<=rb/\rb≠B:=fun hq=>by have:=d6.hr hq;simp only[cE,not_or]at this;exact⟨by omega,this.1⟩
  have ge:=(bJ (ws:=ws) (e:=e) kIn r2).1.le;refine⟨m,by omega,l++[⟨nm,lc⟩],_,rb9,_,_,c9,by simp,h,k9,c8.frmS e1 (fun h=>(e3 h.1).2 h.2.symm) (fun j hj=>by have:=(e3 hj.1).1;omega),(c0.seq b8).trans e1 (fun _ _ h=>h) fun j hj h=>by have:=(e3 h.1).1;omega,?_⟩;show(l++[(⟨nm,lc⟩:Dc)]).length<=(bQ ws e kIn r2).p;rw[List.length_append,List.length_singleton];have gc':(bQ ws e [61] (bK ws e 2 r'.next).2).p<=r2.p:=gc;omega
 rw[aA];by_cases d1:more=true
 case neg=>rw[if_neg (by simpa using d1)];simp only[wpS,T42k4];rw[aA,if_neg (by simp)];simp only[wpS];exact done fun h=>d1 h.1
 rw[if_pos (by simpa using d1),aB d0.st rfl];simp only[wpS,T42k4];rw[aA];by_cases d2:r2.bad=true
 ·rw[if_neg (by simp[d2])];simp only[wpS];exact done fun h=>by rw[d2]at h;exact absurd h.2 (by simp)
 have d2':r2.bad=false:=by simpa using d2
 clear done;rw[if_pos ⟨d1,d2'⟩]at h1;obtain⟨ar,h3,h1⟩:=aW h1;rw[if_pos (by simp[d2']),aF,aE];refine WpF.mono (gK d0 (by decide)) ?_;rintro _ σ8 ⟨rfl,c8,a3⟩;simp only[wpS];refine aJ fun σ9 e1 j7 g5=>?_;refine aZ g5 rfl rfl fun σa i8 m4 g2=>?_;have j8:=a3.n;generalize hC:σ8.n=C at g5 g2 i8 j7;have a8:C≠B:=by omega
 have n5:A<C:=by omega
 have b3:Frm σ8 σa NoB:=e1.fresh i8 fun j hj h=>by omega
 have f4:Frm σ7 σa (· =B):=a3.seq b3.no;rw[aE];refine WpF.mono (bX (c8.frm b3) kOf) ?_;rintro _ σb ⟨rfl,b1,f0⟩;simp only[wpS];unfold gQ at b1;have b6:=f4.seq f0;have c5:=f0.st g2 a8;have m1:=f0.n;generalize n4:(bK ws e 3 r2).1=cn at c5 h1;have gname:=cG (ws:=ws) (e:=e) (k:=3) (by decide) r2;have put:∀(r3:Rs) (ra:Nat) (ca:List (List Value)) (qa:Option Addr) (ka:Nat) (σ':aC),ar.2=r3->Frm σ7 σ' (· =B)->Rdr σ' B lo p cap ws e r3->St σ' C [.string (mkB cn),.slice qa ar.1.length ka]->GR rJ 1 σ' (cE B (C+1)) ra ar.1 ca qa ka->C+1<=σ'.n->Go2 ws r2 r3->
   Wp aG ovD (T42k2 ⟨A,0,some 0⟩ ⟨C,0,some 0⟩ .normal []) σ' fun e_1 vs σ'=>Wp aG ovD (T42k3 (some ⟨B,0,some 0⟩) e_1 vs) σ' fun e_1 st' σ'=>match e_1 with
    |.normal=>∃m',m'<m2+1/\∃(lc:List Cn) (more:Bool) (r2:Rs) (rc:Nat) (cc:List (List Value)) (qc:Option Addr) (kc:Nat),st'=[.bool more]/\pB ws e m' lc more r2=some cs/\St σ' A [.string (mkB nm),.slice qc lc.length kc]/\GR cnR 2 σ' (cE B (A+1)) rc lc cc qc kc/\Rdr σ' B lo p cap ws e r2/\Frm σ2 σ' (· =B)/\A+1<=σ'.n/\lc.length<=r2.p+1/\(r2.bad=false->lc.length<=r2.p)
    |e_1=>Wp aG ovD (T42k5 (some ⟨B,0,some 0⟩) ⟨A,0,some 0⟩ q l.length c e_1 st') σ' fun e_1 vs σ'=>Wp aG ovD (T42k6 e_1 vs) σ' fun e_1 st' σ'=>match e_1 with
     |.normal=>∃m',m'<m+1/\∃(l:List Dc) (r':Rs) (rb:Nat) (css:List (List Value)) (q:Option Addr) (c:Nat),st'=[.slice q l.length c]/\jL ws e m' l r'=some x/\GR dcR 2 σ' (cE B σ.n) rb l css q c/\Rdr σ' B lo p cap ws e r'/\Frm σ σ' (· =B)/\l.length<=r'.p
     |e_1=>Wp aG ovD (T42k7 e_1 st') σ' fun _ vs σ'=>∃v,vs=[v]/\∃q k,v=.slice q x.1.length k/\aN σ' (cE B σ.n) 2 (dcR σ' (cE B σ.n)) q x.1/\Rdr σ' B lo p cap ws e x.2/\Frm σ σ' (· =B):=by
  rintro r3 ra ca qa ka σ' rfl a4 i3 k5 i7 n1 a9;simp only[wpS,T42k2];have g3:=a4.st g6 c1;rw[aB g3 (v:=.slice qc lc.length kc) rfl];simp only[wpS];rw[aL k5 2 rfl];simp only[wpS];have a1:∀j,j<σ'.n->(cE B (A+1) j\/qc≠none/\j=rc)->cE B (C+1) j:=by
   rintro j _ ((h1|h1)|⟨h1,h2⟩)
   ·exact .inl h1
   ·exact .inr (by omega)
   ·exact .inr (by have:=d5.lt h1;omega)
  have hb:cnR σ' (fun j=>cE B (A+1) j\/qc≠none/\j=rc) [.string (mkB cn),.slice qa ar.1.length ka] ⟨cn,ar.1⟩:=
   eB _ _ _ _ _ _ _ (Frm.refl σ' NoB) (fun _ _ h=>h.elim) a1 ⟨qa,ka,rfl,i7.close jT (by decide),i7.emp⟩
  have c3:qc≠none->A+1<=rc/\rc≠B:=fun hq=>by have:=d5.hr hq;simp only[cE,not_or]at this;exact⟨by omega,this.1⟩
  refine yE eB (kX i3 (by omega)) (d5.frm eB a4 fun _ _ h=>.inl h) (by decide) (by decide) rfl (by intro y hy;simp at hy;rcases hy with rfl|rfl<;>rfl) hb (by omega) (by decide) fun σd rd pd kd a7 l1 e6=>?_;have j6:=a7.n;refine aT (a7.st g3 fun h=>by have:=(c3 h.1).1;omega) (by simp) rfl fun σe a2 j5 a6=>?_;simp only[List.set_cons_succ,List.set_cons_zero]at a6;have c7:=(i3.frmS a7 (fun h=>(c3 h.1).2 h.2.symm) fun j hj=>by have:=(c3 hj.1).1;omega).frmS a2 (fun h=>c1 h.symm) fun j hj=>by omega
  simp only[wpS,T42k3];rw[aE];refine WpF.mono (bX c7 [124]) ?_;rintro _ σf ⟨rfl,c6,e0⟩;simp only[wpS];have j4:=e0.n;have g4:ar.2.p<=(gQ ws e [124] ar.2).p/\(gQ ws e [124] ar.2).bad=ar.2.bad:=by
   unfold gQ;split
   ·exact⟨Nat.le_succ _,rfl⟩
   ·exact⟨Nat.le_refl _,rfl⟩
  have k2:=k3 d2';have q3:=a9.1.le;have a5:(lc++[(⟨cn,ar.1⟩:Cn)]).length=lc.length+1:=by simp
  refine⟨m2,by omega,lc++[⟨cn,ar.1⟩],_,gQ ws e [124] ar.2,rd,_,_,kd,rfl,h1,?_,(e6.step (Y':=cE B (A+1)) eB a2 (fun j hj h=>.inr (by omega)) fun _ _ h=>h).frm eB e0 fun _ _ h=>.inl h,c6,?_,by omega,?_,?_⟩
  ·rw[a5];exact e0.st a6 c1
  ·refine((i9.seq a4).trans a7 (fun _ _ h=>h) ?_ |>.trans a2 (fun _ _ h=>h) ?_).seq e0
   ·intro j hj h;have:=(c3 h.1).1;omega
   ·intro j hj h;omega
  ·rw[a5];omega
  ·rw[a5];intro hb;rw[g4.2]at hb;rcases a9.2 with h|h
   ·rw[hb]at h;cases h
   ·omega
 rw[aA];by_cases d3:isM ws e kOf (bK ws e 3 r2).2=true
 case neg=>rw[if_neg d3]at h3 b1;have hx:=ofS h3;subst hx;rw[if_neg d3];simp only[wpS];exact put _ 0 [] none 0 σb rfl b6 b1 c5 .zero (by omega) gname
 rw[if_pos d3]at h3 b1;rw[if_pos d3,aB c5 (v:=.slice none 0 0) rfl];simp only[wpS];rw[aE];refine WpF.mono (gK b1 (by decide)) ?_;rintro _ σc ⟨rfl,i0,e9⟩;simp only[wpS];have f3:=b6.seq e9;have g1:=e9.st c5 a8;have m0:=e9.n;refine wp_gaddC (R:=rJ) (k:=1) (l:=[]) (css:=[]) (p:=none) (c:=0) (Y:=cE B (C+1)) (rb:=0) jT (kX i0 (by omega)) .zero (by decide) (by decide) rfl (by intro y hy;simp at hy;subst hy;rfl) (b:=(bK ws e 2 (bK ws e 3 r2).2.next).1) rfl (by simp) (by decide) (fun σ' f7=>kI ((f7.stN g1).ldF rfl)) fun σd rd pd kd a7 _ e6=>?_;have a0:Frm σc σd NoB:=a7.mono fun j _ h=>h.1 rfl;refine aT (a0.stN g1) (by simp) rfl fun σe a2 j5 a6=>?_;simp only[List.set_cons_succ,List.set_cons_zero]at a6;have j6:=a0.n;have b5:Frm σ7 σe (· =B):=(f3.seq a0.no).trans a2 (fun _ _ h=>h) fun j hj h=>by omega
 have c7:=(i0.frm a0).frmS a2 (fun h=>a8 h.symm) fun j hj=>by omega
 have i6:=e6.step (Y':=cE B (C+1)) jT a2 (fun j hj h=>.inr (by omega)) fun _ _ h=>h;have q0:Go2 ws r2 (bK ws e 2 (bK ws e 3 r2).2.next).2:=gname.then ((Go1.next (bA d3).2).trans (cG (by decide) _).1);have q1:1<=(bK ws e 2 (bK ws e 3 r2).2.next).2.p:=by have h1:=(cG (ws:=ws) (e:=e) (k:=2) (by decide) (bK ws e 3 r2).2.next).1.le;have h2:(bK ws e 3 r2).2.next.p=(bK ws e 3 r2).2.p+1:=rfl;omega
 refine Wp.loop (fun m3 st σ'=>∃(la:List (List UInt8)) (r3:Rs) (ra:Nat) (ca:List (List Value)) (qa:Option Addr) (ka:Nat),st=[]/\pN ws e m3 la r3=some ar/\St σ' C [.string (mkB cn),.slice qa la.length ka]/\GR rJ 1 σ' (cE B (C+1)) ra la ca qa ka/\Rdr σ' B lo p cap ws e r3/\Frm σ7 σ' (· =B)/\C+1<=σ'.n/\la.length<=r3.p/\Go2 ws r2 r3) m2
  ⟨_,_,rd,_,_,kd,rfl,h3,a6,i6,c7,b5,by omega,by simpa using q1,q0⟩ ?_
 clear h3 a6 i6 c7 b5 q0 q1;rintro m3 st σf ⟨la,r3,ra,ca,qa,ka,rfl,h3,k4,k8,c6,f2,j4,n3,a9⟩;cases m3 with
 |zero=>cases h3
 |succ m3=>
 rw[pN]at h3;unfold T42b0;simp only[wpS];have l3:=c6.pl;rw[aE];refine WpF.mono (bX c6 [44]) ?_;rintro _ σg ⟨rfl,b0,d9⟩;simp only[wpS];rw[aA];unfold gQ at b0;have b4:=f2.seq d9;have e4:=d9.st k4 a8;have i5:=k8.frm jT d9 fun _ _ h=>.inl h;have l9:=d9.n;by_cases d4:isM ws e [44] r3=true
 case neg=>rw[if_neg d4]at h3 b0;have hx:=ofS h3;subst hx;rw[if_neg d4];simp only[wpS,T42k1];exact put _ ra ca qa ka σg rfl b4 b0 e4 i5 (by omega) a9
 rw[if_pos d4]at h3 b0;rw[if_pos d4,aF,aB e4 (v:=.slice qa la.length ka) rfl];simp only[wpS];rw[aE];refine WpF.mono (gK b0 (by decide)) ?_;rintro _ σh ⟨rfl,g9,d8⟩;simp only[wpS];have f1:=b4.seq d8;have f9:=d8.st e4 a8;have i4:=i5.frm jT d8 fun _ _ h=>.inl h;have l8:=d8.n;have c4:qa≠none->C+1<=ra/\ra≠B:=fun hq=>by have:=i4.hr hq;simp only[cE,not_or]at this;exact⟨by omega,this.1⟩
 refine wp_gaddC jT (kX g9 (by omega)) i4 (by decide) (by decide) rfl (by intro y hy;simp at hy;subst hy;rfl) (b:=(bK ws e 2 r3.next).1) rfl (by omega) (by decide) (fun σ' f7=>kI ((f7.stN f9).ldF rfl)) fun σi ri pi ki d7 _ k7=>?_;have l7:=d7.n;refine aT (d7.st f9 fun h=>by have:=(c4 h.1).1;omega) (by simp) rfl fun σj e8 l6 f8=>?_;simp only[List.set_cons_succ,List.set_cons_zero]at f8;simp only[wpS,T42k0];have a5:(la++[(bK ws e 2 r3.next).1]).length=la.length+1:=by simp
 have q2:=(cG (ws:=ws) (e:=e) (k:=2) (by decide) r3.next).1.le;have q3:r3.next.p=r3.p+1:=rfl;refine⟨m3,by omega,la++[(bK ws e 2 r3.next).1],(bK ws e 2 r3.next).2,ri,_,_,ki,trivial,h3,?_,k7.step (Y':=cE B (C+1)) jT e8 (fun j hj h=>.inr (by omega)) fun _ _ h=>h,(g9.frmS d7 (fun h=>(c4 h.1).2 h.2.symm) fun j hj=>by have:=(c4 hj.1).1;omega).frmS e8 (fun h=>a8 h.symm) fun j hj=>by omega,?_,by omega,?_,a9.then ((Go1.next (bA d4).2).trans (cG (by decide) _).1)⟩
 ·rw[a5];exact f8
 ·refine(f1.trans d7 (fun _ _ h=>h) ?_).trans e8 (fun _ _ h=>h) ?_
  ·intro j hj h;have:=(c4 h.1).1;omega
  ·intro j hj h;omega
 ·rw[a5];omega
end
theorem pI:∀(l:List Tm) (i:Nat),szL (l.take i)<=szL l
 |[],i=>by simp
 |t::l,0=>by simp[szL]
 |t::l,i+1=>by rw[List.take_succ_cons,szL,szL];have:=pI l i;omega
theorem szL_take(l:List Tm)(i:Nat)(h:i<l.length):szL (l.take (i+1))=szL (l.take i)+szT l[i]:=by rw[List.take_succ_eq_append_getElem h,tS,oC]
theorem flL_app:∀(a b:List Tm) (q:Nat),flL q (a++b)=flL q a++flL (q+szL a) b
 |[],b,q=>by simp[flL,szL]
 |t::a,b,q=>by rw[List.cons_append,flL,flL,flL_app a b,List.append_assoc,szL,Nat.add_assoc]
theorem flL_one(t:Tm)(q:Nat):flL q [t]=flT q t:=by simp[flL]
theorem xz:∀(a b:List Tm) (q:Nat),fM q (a++b)=fM q a++fM (q+szL a) b
 |[],b,q=>by simp[fM,szL]
 |t::a,b,q=>by rw[List.cons_append,fM,fM,xz a b,List.cons_append,szL,Nat.add_assoc]
theorem dpL_app:∀(a b:List Tm) (q d:Nat) (c:Int),dpL q d c (a++b)=dpL (q+szL a) d (dpL q d c a) b
 |[],b,q,d,c=>by simp[dpL,szL]
 |t::a,b,q,d,c=>by rw[List.cons_append,dpL,dpL,dpL_app a b,szL,Nat.add_assoc]
theorem flat_set{k:Nat}(o:Nat)(v:Value)(ho:o<k):∀(css:List (List Value)) (i:Nat) (hi:i<css.length),(∀cs∈css,cs.length=k)->(css.set i (css[i].set o v)).flatten=css.flatten.set (i*k+o) v
 |[],i,hi,_=>absurd hi (Nat.not_lt_zero _)
 |cs::css,0,hi,hc=>by have hl:=hc cs (by simp);rw[List.set_cons_zero,List.flatten_cons,List.flatten_cons,List.getElem_cons_zero,Nat.zero_mul,Nat.zero_add,List.set_append_left _ _ (by omega)]
 |cs::css,i+1,hi,hc=>by
  have hl:=hc cs (by simp);have e:(i+1)*k+o=cs.length+(i*k+o):=by rw[hl,Nat.add_mul,Nat.one_mul];omega
  rw[List.set_cons_succ,List.flatten_cons,List.flatten_cons,List.getElem_cons_succ,flat_set o v ho css i (by simpa using hi) (fun x hx=>hc x (by simp[hx])),e,List.set_append_right _ _ (by omega),Nat.add_sub_cancel_left]
def gE(cs:List Value)(j:Nat):Prop:=cs=[.int .i64 ((j:Nat):Int)]
def nvR(σ:aC)(Y:Nat->Prop)(cs:List Value)(v:NV):Prop:=∃q k,cs=[.int .i64 v.x.k,.int .i64 v.x.n,.string (mkB v.x.nm),.string (mkB v.x.pm),.slice q v.kids.length k,.int .i64 v.x.fr,.int .i64 v.x.to]/\aN σ Y 1 gE q v.kids/\Emp σ Y q
theorem dG:mI nvR:=by rintro σ σ' S Y Y' cs c f hS hY ⟨q,k,h1,h2,h3⟩;exact⟨q,k,h1,h2.step f hS hY fun _ _ h=>h,h3.step f hS hY⟩
section
variable{σ σ':aC}
abbrev natW(j:Nat):Value:=.int .i64 ((j:Nat):Int)
theorem row_nats{Y:Nat->Prop}{b off s c:Nat}{bl:List Nat}(h:Row σ b off s c 1 (bl.map natW))(hb:¬Y b):aN σ Y 1 gE (some ⟨b,off,some s⟩) bl:=
 aN.own (css:=bl.map fun j=>[natW j]) (by
  have e:(bl.map fun j=>[natW j]).flatten=bl.map natW:=by
   clear h;induction bl with
   |nil=>rfl
   |cons j r ih=>rw[List.map_cons,List.flatten_cons,List.map_cons,<-ih];try rfl
  rw[e];exact h) hb (by simp) (by intro cs a0;obtain⟨t,_,rfl⟩:=List.mem_map.1 a0;rfl) (fun i h1 h2=>by simp[gE])
theorem slE_nats{Y:Nat->Prop}{b c:Nat}{p:Option Addr}{bl:List Nat}(h:SlE σ b p c 1 (bl.map natW))(hb:p≠none->¬Y b):aN σ Y 1 gE p bl:=by
 rcases h with⟨rfl,_,h0⟩|⟨off,s,rfl,hR⟩
 ·have:bl=[]:=by simpa using h0
  rw[this];exact aN.nil
 ·exact row_nats hR (hb (by simp))
variable{P:Program}{ov:Ov}
theorem qO{b cap len byt esz:Nat}{p:Option Addr}{xs ys:List Value}{ck:List (Act×Value)}{g:Option Addr->Nat->Nat->Pg}{Q:bW}(h:SlE σ b p cap esz xs)(a0:xs.length=len*esz)(h0:1<=esz)(he:esz<64)(hy:ys.length=esz)(a1:∀y∈ys,one y=true)
  (hb:2*(len+1)*byt<=281474976710656) (a3:len+1<=4611686018427387904) (a2:∀σ',Frm σ σ' NoB->chks ck σ'=true)
  (k:∀σ' b' off s cap',Frm σ σ' (fun j=>p≠none/\j=b)->((p≠none/\b'=b)\/σ.n<=b')->Row σ' b' off s cap' esz (xs++ys)->Wp P ov (g (some ⟨b',off,some s⟩) (len+1) cap') σ' Q):
  Wp P ov (.act (tU esz 1 ys) fun v=>aI v fun p' n' c'=>.get fun h2=>grd (chks ck h2) (.act (apS esz byt p len cap p' n' c') fun w=>aI w g)) σ Q:=by
 have key:=kV (P:=P) (ov:=ov) (g:=g) (Q:=Q) h a0 h0 he hy a1 hb a3 k;rw[aV,cM]at key ⊢;simp only[bO]at key ⊢;rw[bC,aO];exact⟨a2 _ (Frm.new _ _ _ _),key⟩
theorem wp_gset{Y:Nat->Prop}{rb:Nat}{l:List NV}{css:List (List Value)}{p:Option Addr}{c i:Nat}{x:Nd}{kids:List Nat}{q:Option Addr}{k:Nat}{K:Pg}{Q:bW}(hG:GR nvR 7 σ Y rb l css p c)(hi:i<l.length)(hl:l[i]=⟨x,[]⟩)(hk:aN σ (fun j=>Y j\/p≠none/\j=rb) 1 gE q kids)(hz:Emp σ (fun j=>Y j\/p≠none/\j=rb) q)
  (kk:∀σ' css',Frm σ σ' (· =rb)->GR nvR 7 σ' Y rb (l.set i ⟨x,kids⟩) css' p c->Wp P ov K σ' Q):
  ∃a,p=some a/\Wp P ov (.act (stC (aadd (aadd a (i*7)) 4) [(.slice q kids.length k)]) fun v=>bM v fun l=>aH l K) σ Q:=by
 rcases hG.row with⟨hp,_,_⟩|⟨off,s,rfl,hR⟩
 ·have:=(hG.nil (by decide) hp).1;rw[this]at hi;exact absurd hi (Nat.not_lt_zero _)
 have a2:i<css.length:=by rw[hG.len];exact hi
 have a5:=hG.cl _ (List.getElem_mem a2);have a3:=cZ hG.cl;have a7:i*7+7<=css.flatten.length:=by rw[a3];omega
 have a6:=hR.len;obtain⟨σ1,h1,h2,h3,h4,h5⟩:=hR.wrN (i:=i*7+4) (vs:=[.slice q kids.length k]) (by omega) (by simp only[List.length_singleton];omega) (by intro y hy;simp at hy;subst hy;rfl);refine⟨_,rfl,?_⟩;have e:stC (aadd (aadd ⟨rb,off,some s⟩ (i*7)) 4) [.slice q kids.length k] σ=some (.tuple #[],σ1):=by unfold stC;rw[show aadd (aadd ⟨rb,off,some s⟩ (i*7)) 4=⟨rb,off+(i*7+4),some s⟩ by simp[aadd,Nat.add_assoc],h1]
 rw[aV,e];simp only[cU,aK];have hF:Frm σ σ1 (· =rb):=Frm.of1 hR.lt h2 h3 h4;have a0:css.flatten.take (i*7+4)++[.slice q kids.length k]++css.flatten.drop (i*7+4+[Value.slice q kids.length k].length)=(css.set i (css[i].set 4 (.slice q kids.length k))).flatten:=by rw[flat_set 4 _ (by decide) css i a2 hG.cl,List.set_eq_take_append_cons_drop,if_pos (by omega)];simp
 rw[a0]at h5;have hS:∀j,j<σ.n->j=rb->(Y j\/some (⟨rb,off,some s⟩:Addr)≠none/\j=rb):=fun j _ h=>.inr ⟨by simp,h⟩;refine kk σ1 _ hF ⟨.inr ⟨off,s,rfl,h5⟩,hG.hr,by simp[hG.len],?_,?_⟩
 ·intro cs a4;rcases List.mem_or_eq_of_mem_set a4 with h|h
  ·exact hG.cl cs h
  ·rw[h,List.length_set];exact a5
 ·intro j h6 h7;rw[List.length_set]at h6 h7;by_cases a1:i=j
  ·subst a1;rw[List.getElem_set_self,List.getElem_set_self];obtain⟨q',k',h8,_,_⟩:=hG.el i h6 h7;rw[hl]at h8;exact⟨q,k,by rw[h8];rfl,hk.step hF hS (fun _ _ h=>h) (fun _ _ h=>h),hz.step hF hS fun _ _ h=>h⟩
  ·rw[List.getElem_set_ne a1,List.getElem_set_ne a1];exact dG _ _ _ _ _ _ _ hF hS (fun _ _ h=>h) (hG.el j h6 h7)
end
theorem wp_put(F m0:Nat)(ty:Value)(_hty:one ty=true):∀(s:Nat) (t:Tm),szT t<=s->∀(σ:aC) (a rb:Nat) (N:List NV) (css:List (List Value)) (p:Option Addr) (c:Nat) (Y:Nat->Prop) (cur:Int) (deep:Nat),
  TmB σ (fun j=>m0<=j) a t->m0<=F->(p≠none->m0<=rb)->m0<=σ.n->St σ F [.slice p N.length c,ty,.int .i64 cur]->GR nvR 7 σ Y rb N css p c->(∀j,Y j->j<σ.n)->Y F->N.length+szT t<=100000->deep+szT t<=100000->
  WpF aG ovD 45 [bI F,bI a,.int .i64 ((deep:Nat):Int)] σ fun v σ'=>∃p' c' rb' css',v=.int .i64 ((N.length:Nat):Int)/\St σ' F [.slice (some p') (N.length+szT t) c',ty,.int .i64 (dpT N.length deep cur t)]/\GR nvR 7 σ' Y rb' (N++flT N.length t) css' (some p') c'/\
   Frm σ σ' (fun j=>j=F\/p≠none/\j=rb)/\((p≠none/\rb'=rb)\/σ.n<=rb'):=by
 intro s;induction s with
 |zero=>intro t ht;have:=szT_pos t;omega
 |succ s ih=>
  intro t ht σ a rb N css p c Y cur deep hT i1 f5 k2 d0 hG e5 b1 k4 k3;obtain⟨x,l⟩:=t;cases hT with
  | @mk _ _ _ tp tc bl c9 e4 d6 i5 b8=>
  have g5:szT (.mk x l)=1+szL l:=by rw[szT]
  have i2:=szL_len l;refine WpF.of (T45_eq _ _ _) rfl ?_;rw[T45];simp only[wpS,bS];rw[aB d0 rfl];simp only[wpS];rw[aB d0 rfl];simp only[wpS];have i6:a≠F:=fun h=>c9 (by omega);have g8:p≠none->rb≠F:=fun hp h=>hG.hr hp (by rw[h];exact b1);have main:∀(σ1:aC) (cur1:Int),Frm σ σ1 (· =F)->σ1.n=σ.n->St σ1 F [.slice p N.length c,ty,.int .i64 cur1]->cur1=(if cur<0/\(1000<=N.length\/60<deep) then x.fr else cur)->
    Wp aG ovD (T45k2 (some ⟨F,0,some 0⟩) (some ⟨a,0,some 0⟩) ((deep:Nat):Int) N.length .normal []) σ1 fun _ vs σ'=>∃v,vs=[v]/\∃p' c' rb' css',v=.int .i64 ((N.length:Nat):Int)/\St σ' F [.slice (some p') (N.length+szT (.mk x l)) c',ty,.int .i64 (dpT N.length deep cur (.mk x l))]/\GR nvR 7 σ' Y rb' (N++flT N.length (.mk x l)) css' (some p') c'/\
     Frm σ σ' (fun j=>j=F\/p≠none/\j=rb)/\((p≠none/\rb'=rb)\/σ.n<=rb'):=by
   intro σ1 cur1 c8 f4 b2 e2;simp only[wpS,T45k2,bS];rw[aB b2 rfl];simp only[wpS];have e3:=c8.st e4 i6;rw[aV,show aadd ⟨a,0,some 0⟩ 0=⟨a,0,some 0⟩ from rfl,e3.ldN (off:=0) (k:=7) (by rw[ndc_len];decide)];have e7:(((ndc x tp l.length tc).drop 0).take 7)=[.int .i64 x.k,.int .i64 x.n,.string (mkB x.nm),.string (mkB x.pm),.slice none 0 0,.int .i64 x.fr,.int .i64 x.to]:=rfl;rw[e7];simp only[wpS];have d1:=hG.frm dG c8 fun j _ h=>by rw[h];exact b1
   refine qO (len:=N.length) d1.row (by rw[cZ d1.cl,d1.len]) (by decide) (by decide) rfl (by intro y hy;simp at hy;rcases hy with rfl|rfl|rfl|rfl|rfl|rfl|rfl<;>rfl) (by omega) (by omega) (fun σ' j6=>kI ((j6.stN b2).ldF rfl)) fun σ2 rb2 off2 s2 c2 d3 a7 j2=>?_;have g1:=d1.more dG (fun j h=>by have:=e5 j h;omega) (b:=⟨x,[]⟩) rfl ⟨none,0,rfl,aN.nil,Emp.none⟩ d3 a7 j2;have k1:=d3.n;have f3:rb2≠F:=fun h=>g1.hr (by simp) (by rw[h];exact b1);refine aT (d3.st b2 fun h=>(g8 h.1) h.2.symm) (by simp) rfl fun σ3 g2 k0 e8=>?_;simp only[List.set_cons_zero]at e8;have j5:=g1.frm dG g2 fun j _ h=>by rw[h];exact b1
   have a0:Frm σ σ3 (fun j=>j=F\/p≠none/\j=rb):=(c8.trans d3 (fun _ _ h=>.inl h) fun _ _ h=>.inr h).trans g2 (fun _ _ h=>h) fun _ _ h=>.inl h;have f2:m0<=rb2:=by
    rcases a7 with⟨h1,rfl⟩|h
    ·exact f5 h1
    ·omega
   have a1:(p≠none/\rb2=rb)\/σ.n<=rb2:=a7.imp id fun h=>by omega
   have f9:∀{τ τ':aC} {S:Nat->Prop} {b:Nat} {u:Tm},Frm τ τ' S->(∀j,S j->m0<=j)->TmB τ (fun j=>m0<=j) b u->TmB τ' (fun j=>m0<=j) b u:=fun f hS h=>h.step f (fun j _ h=>hS j h) fun _ _ h=>h;have e6:∀j,(j=F\/p≠none/\j=rb)->m0<=j:=fun j h=>by
    rcases h with h|⟨h1,h2⟩
    ·omega
    ·have:=f5 h1;omega
   have c3:=a0.st e4 fun h=>c9 (e6 _ h);have b7:=d6.step a0 (fun j _ h=>e6 j h) (fun _ _ h=>h) (fun _ _ h=>h);have a8:∀i (h:i<bl.length) (h':i<l.length),TmB σ3 (fun j=>m0<=j) bl[i] l[i]:=fun i h1 h2=>f9 a0 e6 (b8 i h1 h2);have e0:dpT N.length deep cur (.mk x l)=dpL (N.length+1) (deep+1) cur1 l:=by rw[dpT,e2]
   have e1:N++flT N.length (.mk x l)=N++[⟨x,fM (N.length+1) l⟩]++flL (N.length+1) l:=by rw[flT];simp
   refine Wp.count l.length (fun i st σ'=>∃(q:Addr) (cc rq:Nat) (cssq:List (List Value)) (kp:Option Addr) (kc kb:Nat),st=[.int .i64 ((i:Nat):Int),.slice kp i kc]/\St σ' F [.slice (some q) (N.length+1+szL (l.take i)) cc,ty,.int .i64 (dpL (N.length+1) (deep+1) cur1 (l.take i))]/\
     GR nvR 7 σ' (fun j=>Y j\/kp≠none/\j=kb) rq (N++[⟨x,[]⟩]++flL (N.length+1) (l.take i)) cssq (some q) cc/\SlE σ' kb kp kc 1 ((fM (N.length+1) (l.take i)).map natW)/\(kp≠none->σ3.n<=kb)/\Frm σ3 σ' (fun j=>j=F\/j=rb2)/\((rq=rb2)\/σ3.n<=rq))
    ⟨_,c2,rb2,_,none,0,0,rfl,by simpa[szL,dpL]using e8,by simpa[flL]using j5.step (Y':=fun j=>Y j\/(none:Option Addr)≠none/\j=0) (S:=NoB) dG (Frm.refl _ _) (fun _ _ h=>h.elim) (fun j _ h=>h.elim id fun h=>absurd rfl h.1),.inl ⟨rfl,rfl,by simp[fM]⟩,fun h=>absurd rfl h,Frm.refl _ _,.inl rfl⟩ ?_ ?_
   ·rintro i st σ4 hi ⟨q,cc,rq,cssq,kp,kc,kb,rfl,c4,a9,b3,c1,a6,b0⟩;have f8:i<bl.length:=by rw[i5];exact hi
    have a3:∀j,(j=F\/j=rb2)->m0<=j:=fun j h=>by rcases h with h|h<;>omega
    have a5:=a6.st c3 fun h=>c9 (a3 _ h);have b6:=b7.step a6 (fun j _ h=>a3 j h) (fun _ _ h=>h) (fun _ _ h=>h);have b9:=f9 a6 a3 (a8 i f8 hi);have g4:=pI l i;have f1:=szL_take l i hi;have f0:=pI l (i+1);have g9:=a6.n;have ej:aP ((i:Int)+1)=((i+1:Nat):Int):=by rw[aS (by omega)];omega
    have ed:aP (((deep:Nat):Int)+1)=((deep+1:Nat):Int):=by rw[aS (by omega)];omega
    unfold T45b0;simp only[wpS];rw[aB a5 (v:=.slice tp l.length tc) rfl];simp only[wpS];rw[aA,if_pos (by simp;omega),aF];rw[aB a5 (v:=.slice tp l.length tc) rfl];simp only[wpS];obtain⟨y,cs,rfl,_,g7,i4⟩:=b6 i f8;simp only[wpS];rw[aO];refine⟨by simp;omega,?_⟩;have el:ld1 (aadd y (i*1)) σ4=some (bI bl[i],σ4):=by
     unfold ld1;rw[g7,i4]
    rw[Int.toNat_natCast,aV,el];simp only[wpS,ed];rw[aE];have a2:(N++[(⟨x,[]⟩:NV)]++flL (N.length+1) (l.take i)).length=N.length+1+szL (l.take i):=by rw[List.length_append,List.length_append,flL_len];try rfl
    have i9:∀j,(Y j\/kp≠none/\j=kb)->j<σ4.n:=by
     rintro j (h|⟨h1,h2⟩)
     ·have:=e5 j h;omega
     ·rw[h2];exact b3.lt h1
    have d7:=ih l[i] (by omega) σ4 bl[i] rq _ cssq (some q) cc (fun j=>Y j\/kp≠none/\j=kb) (dpL (N.length+1) (deep+1) cur1 (l.take i)) (deep+1) b9 i1 (fun _=>by rcases b0 with h|h<;>omega) (by omega) (by rw[a2];exact c4) a9 i9 (.inl b1) (by rw[a2];omega) (by omega);refine WpF.mono d7 ?_;rintro _ σ5 ⟨q5,c5,rq5,css5,rfl,g0,c7,b4,d5⟩;rw[a2]at g0 c7 ⊢;simp only[wpS];have b5:kp≠none->kb≠rq:=fun h h2=>a9.hr (by simp) (.inr ⟨h,h2.symm⟩);have f7:kp≠none->kb≠F:=fun h h2=>by have:=c1 h;have:=e8.1;omega
    have j3:=b3.frm b4 fun h h2=>by
     rcases h2 with h2|⟨_,h2⟩
     ·exact f7 h h2
     ·exact b5 h h2
    have d8:((fM (N.length+1) (l.take i)).map natW).length=i:=by rw[List.length_map,oL,List.length_take];omega
    have j9:=b4.n;refine kV (len:=i) j3 (by rw[d8,Nat.mul_one]) (by decide) (by decide) rfl (by intro y hy;simp at hy;subst hy;rfl) (by omega) (by omega) fun σ6 kb6 off6 s6 c6 d2 c0 j1=>?_;simp only[wpS,T45k0,ej];have j8:=d2.n;have j0:=d2.st g0 fun h=>f7 h.1 h.2.symm;have i8:∀j,j<σ5.n->(Y j\/some (⟨kb6,off6,some s6⟩:Addr)≠none/\j=kb6)->(Y j\/kp≠none/\j=kb):=by
     rintro j hj (h1|⟨_,h1⟩)
     ·exact .inl h1
     ·subst h1;rcases c0 with⟨hp,rfl⟩|j7
      ·exact .inr ⟨hp,rfl⟩
      ·omega
    have j4:=c7.step (Y':=fun j=>Y j\/some (⟨kb6,off6,some s6⟩:Addr)≠none/\j=kb6) dG d2 (fun j _ h=>.inr h) i8;refine⟨q5,c5,rq5,css5,some ⟨kb6,off6,some s6⟩,c6,kb6,rfl,?_,?_,.inr ⟨off6,s6,rfl,?_⟩,?_,?_,?_⟩
    ·rw[List.take_succ_eq_append_getElem hi,tS,oC,dpL_app,dpL,dpL,<-Nat.add_assoc];exact j0
    ·rw[List.take_succ_eq_append_getElem hi,flL_app,flL_one,<-List.append_assoc];exact j4
    ·rw[List.take_succ_eq_append_getElem hi,xz,List.map_append];exact j1
    ·intro _;rcases c0 with⟨hp,rfl⟩|h
     ·exact c1 hp
     ·omega
    ·refine(a6.trans b4 (fun _ _ h=>h) ?_).trans d2 (fun _ _ h=>h) ?_
     ·rintro j hj (h|⟨_,h⟩)
      ·exact .inl h
      ·rcases b0 with h2|h2
       ·exact .inr (by omega)
       ·omega
     ·rintro j hj ⟨h1,h2⟩;have:=c1 h1;omega
    ·rcases d5 with⟨_,h⟩|h
     ·rcases b0 with h2|h2
      ·exact .inl (by omega)
      ·exact .inr (by omega)
     ·exact .inr (by omega)
   ·rintro st σ4 ⟨q,cc,rq,cssq,kp,kc,kb,rfl,c4,a9,b3,c1,a6,b0⟩;have a3:∀j,(j=F\/j=rb2)->m0<=j:=fun j h=>by rcases h with h|h<;>omega
    have a5:=a6.st c3 fun h=>c9 (a3 _ h);rw[List.take_length]at c4 a9 b3;unfold T45b0;simp only[wpS];rw[aB a5 (v:=.slice tp l.length tc) rfl];simp only[wpS];rw[aA,if_neg (by simp)];simp only[wpS,T45k1,bS];rw[aB c4 rfl];simp only[wpS];rw[aO];refine⟨by simp;omega,?_⟩;have i3:N.length<(N++[(⟨x,[]⟩:NV)]++flL (N.length+1) l).length:=by simp
    have d9:(N++[(⟨x,[]⟩:NV)]++flL (N.length+1) l)[N.length]=⟨x,[]⟩:=by simp
    have g9:=a6.n;have d8:(fM (N.length+1) l).length=l.length:=oL _ _;have f6:kp≠none->¬(Y kb\/(some q:Option Addr)≠none/\kb=rq):=fun h h2=>by
     rcases h2 with h2|⟨_,h2⟩
     ·have:=e5 _ h2;have:=c1 h;have:=a0.n;omega
     ·exact a9.hr (by simp) (.inr ⟨h,h2.symm⟩)
    have g6:aN σ4 (fun j=>Y j\/(some q:Option Addr)≠none/\j=rq) 1 gE kp (fM (N.length+1) l):=slE_nats b3 f6;have g3:Emp σ4 (fun j=>Y j\/(some q:Option Addr)≠none/\j=rq) kp:=b3.emp f6;have e9:=a9.step (Y':=Y) (S:=NoB) dG (Frm.refl _ _) (fun _ _ h=>h.elim) fun _ _ h=>.inl h;obtain⟨a4,i7,hw⟩:=wp_gset (P:=aG) (ov:=ovD) (k:=kc) (K:=.ret .ret [.int .i64 ((N.length:Nat):Int)]) (Q:=fun _ vs σ'=>∃v,vs=[v]/\∃p' c' rb' css',v=.int .i64 ((N.length:Nat):Int)/\St σ' F [.slice (some p') (N.length+szT (.mk x l)) c',ty,.int .i64 (dpT N.length deep cur (.mk x l))]/\GR nvR 7 σ' Y rb' (N++flT N.length (.mk x l)) css' (some p') c'/\
     Frm σ σ' (fun j=>j=F\/p≠none/\j=rb)/\((p≠none/\rb'=rb)\/σ.n<=rb')) e9 i3 d9 g6 g3 fun σ5 css5 b4 c7=>by
      simp only[wpS];have d4:F≠rq:=fun h=>a9.hr (by simp) (.inl (by rw[<-h];exact b1));refine⟨_,rfl,q,cc,rq,css5,rfl,?_,?_,?_,?_⟩
      ·rw[g5,<-Nat.add_assoc,e0];exact b4.st c4 d4
      ·rw[e1];have es:(N++[(⟨x,[]⟩:NV)]++flL (N.length+1) l).set N.length ⟨x,fM (N.length+1) l⟩=N++[⟨x,fM (N.length+1) l⟩]++flL (N.length+1) l:=by rw[List.append_assoc,List.set_append_right _ _ (Nat.le_refl _),Nat.sub_self];simp
       rw[es]at c7;exact c7
      ·have i0:=a0.n;refine(a0.trans a6 (fun _ _ h=>h) ?_).trans b4 (fun _ _ h=>h) ?_
       ·rintro j hj (h|h)
        ·exact .inl h
        ·rcases a1 with⟨h1,h2⟩|h1
         ·exact .inr ⟨h1,by omega⟩
         ·omega
       ·rintro j hj h;rcases b0 with h2|h2
        ·rcases a1 with⟨h3,h4⟩|h3
         ·exact .inr ⟨h3,by omega⟩
         ·omega
        ·omega
      ·have i0:=a0.n;rcases b0 with h2|h2
       ·rw[h2];exact a1
       ·exact .inr (by omega)
    cases i7;rw[d8]at hw;exact hw
  rw[aA];by_cases hc:cur<0/\(1000<=N.length\/60<deep)
  ·rw[if_pos (by simp;omega),aB e4 (v:=.int .i64 x.fr) rfl];simp only[wpS];refine aT d0 (by simp) rfl fun σ1 c8 f4 b2=>?_;simp only[List.set_cons_succ,List.set_cons_zero]at b2;simp only[wpS];exact main σ1 x.fr c8 f4 b2 (by rw[if_pos hc])
  ·rw[if_neg (by simp;omega)];simp only[wpS];exact main σ cur (Frm.refl _ _) rfl d0 (by rw[if_neg hc])
end Go.Pg
