/- ParA, ParB, ParC, ParE, CtA, ParD, LxA, LxB, LxC, LxD, LxP, RdA, RdB, RdC, RdD, RdE, RdF, RdG, RdH -/
import Derived.Test.YtadmleckoibeeaaGreatDoorP4
set_option maxHeartbeats 1000000
namespace Go.Pg
structure Nd where
 k:Int
 n:Int:=0
 nm:List UInt8:=[]
 pm:List UInt8:=[]
 fr:Int:=0
 to:Int:=0
abbrev Tm:=Tr Nd
structure Rs where
 p:Nat
 bad:Bool
inductive Fn where
 |expr|set|cmp|sum|sumL (a:Tm)|mul|mulL (a:Tm)|app|appL (a:Tm)|pre|atom|con|conL (a:Tm)|bracket|long|armL (k:List Tm) (more:Bool)|pat|patL (a:Tm)
abbrev kType:List UInt8:=[116,121,112,101]
abbrev kOf:List UInt8:=[111,102]
abbrev kLet:List UInt8:=[108,101,116]
abbrev kRec:List UInt8:=[114,101,99]
abbrev kIn:List UInt8:=[105,110]
abbrev kFun:List UInt8:=[102,117,110]
abbrev kIf:List UInt8:=[105,102]
abbrev kThen:List UInt8:=[116,104,101,110]
abbrev kElse:List UInt8:=[101,108,115,101]
abbrev iQ:List UInt8:=[109,97,116,99,104]
abbrev iN:List UInt8:=[119,105,116,104]
abbrev qU:List UInt8:=[101,110,100]
abbrev kRef:List UInt8:=[114,101,102]
abbrev kPrint:List UInt8:=[112,114,105,110,116]
abbrev kRead:List UInt8:=[114,101,97,100]
abbrev kRaise:List UInt8:=[114,97,105,115,101]
abbrev kTry:List UInt8:=[116,114,121]
abbrev rR:List UInt8:=[116,114,117,101]
abbrev mS:List UInt8:=[102,97,108,115,101]
section
variable (ws:List Wd) (e:Nat)
def wdM (p:Nat):Wd:=if h:p<ws.length then ws[p] else ⟨0,[],e,e⟩
def isM (s:List UInt8) (r:Rs):Bool:=!r.bad&&(decide ((wdM ws e r.p).k>3)&&decide ((wdM ws e r.p).t=s))
def Rs.next (r:Rs):Rs:=⟨r.p+1,r.bad⟩
def Rs.fell (r:Rs):Rs:=⟨r.p,true⟩
def bN (s:List UInt8) (r:Rs):Rs:=if isM ws e s r=true then r.next else r.fell
def bI (kind:Int) (r:Rs):List UInt8 × Rs:=if r.bad=true∨(wdM ws e r.p).k≠kind∨(wdM ws e r.p).t=[95] then ([],r.fell) else ((wdM ws e r.p).t,r.next)
def lC (r:Rs):Int:=(wdM ws e (r.p - 1)).to
def begs:List (List UInt8):=[kRef,[33],kPrint,kRaise,rR,mS,kRead,[40],kFun,kLet,kIf,iQ,kTry]
def eA (r:Rs):Bool:=
 if r.bad=true∨(wdM ws e r.p).k=0 then false
 else if (wdM ws e r.p).k=1∨(wdM ws e r.p).k=3∨(wdM ws e r.p).k=2∧(wdM ws e r.p).t≠[95] then true
 else decide ((wdM ws e r.p).k>3)&&begs.any ((wdM ws e r.p).t== ·)
def two (k:Int) (nm:List UInt8) (a b:Tm):Tm:=.mk ⟨k,0,nm,[],a.a.fr,b.a.to⟩ [a,b]
def sX:Tm:=.mk { k:=3 } []
def dV (k n:Int) (nm:List UInt8) (r:Rs):Tm:=.mk ⟨k,n,nm,[],(wdM ws e r.p).fr,(wdM ws e r.p).to⟩ []
def mW:List UInt8→Int→Int
 |[],n=>n
 |b::t,n=>mW t (aO (aO (10*n)+(((b.toNat+208) % 256:Nat):Int)))
def preK (r:Rs):Option Int:=if isM ws e kRef r=true then some 15 else if isM ws e [33] r=true then some 16 else if isM ws e kPrint r=true then some 17 else if isM ws e kRaise r=true then some 19 else none
def endT (a:Tm) (r:Rs):Tm:=.mk { a.a with to:=lC ws e r } a.args
def addT (a b:Tm):Tm:=.mk a.a (a.args++[b])
def lastTo (k:List Tm):Int:=match k.getLast? with
 |some t=>t.a.to
 |none=>0
def mM (q:Fn→Rs→Option (Tm × Rs)) (r:Rs):Option (Nd × List Tm × Rs):=
   if isM ws e kFun r=true then
    (q .expr (bN ws e [45,62] (bI ws e 2 r.next).2)).bind fun a=>some (({ k:=6,pm:=(bI ws e 2 r.next).1,to:=a.1.a.to }:Nd),[a.1],a.2)
   else if isM ws e kLet r=true then
    (if isM ws e kRec r.next=true then some ((9:Int),(bI ws e 2 r.next.next).1,(bI ws e 2 (bI ws e 2 r.next.next).2).1,(bI ws e 2 (bI ws e 2 r.next.next).2).2)
     else some (8,(bI ws e 2 r.next).1,[],(bI ws e 2 r.next).2)).bind fun h=>
    (q .expr (bN ws e [61] h.2.2.2)).bind fun a=>(q .expr (bN ws e kIn a.2)).bind fun b=>some ({ k:=h.1,nm:=h.2.1,pm:=h.2.2.1,to:=b.1.a.to },[a.1,b.1],b.2)
   else if isM ws e kIf r=true then
    (q .expr r.next).bind fun a=>(q .expr (bN ws e kThen a.2)).bind fun b=>(q .expr (bN ws e kElse b.2)).bind fun c=>some ({ k:=10,to:=c.1.a.to },[a.1,b.1,c.1],c.2)
   else if isM ws e iQ r=true then
    (q .expr r.next).bind fun a=>(q (.armL [a.1] true) (bN ws e iN a.2)).bind fun b=>some ({ k:=11,to:=lC ws e (bN ws e qU b.2) },b.1.args,bN ws e qU b.2)
   else if isM ws e kTry r=true then
    (q .expr r.next).bind fun a=>(q .expr (bN ws e [45,62] (bI ws e 2 (bN ws e iN a.2)).2)).bind fun b=>
     some ({ k:=20,pm:=(bI ws e 2 (bN ws e iN a.2)).1,to:=lC ws e (bN ws e qU b.2) },[a.1,b.1],bN ws e qU b.2)
   else some ({ k:=0 },[],r)
def parse:Nat→Fn→Rs→Option (Tm × Rs)
 |0,_,_=>none
 |n+1,.expr,r=>(parse n .set r).bind fun a=>if isM ws e [59] a.2=true then (parse n .expr a.2.next).bind fun b=>some (two 12 [] a.1 b.1,b.2) else some a
 |n+1,.set,r=>(parse n .cmp r).bind fun a=>if isM ws e [58,61] a.2=true then (parse n .set a.2.next).bind fun b=>some (two 13 [] a.1 b.1,b.2) else some a
 |n+1,.cmp,r=>(parse n .sum r).bind fun a=>
   if isM ws e [60] a.2=true then (parse n .sum a.2.next).bind fun b=>some (two 14 [60] a.1 b.1,b.2)
   else if isM ws e [61] a.2=true then (parse n .sum a.2.next).bind fun b=>some (two 14 [61] a.1 b.1,b.2) else some a
 |n+1,.sum,r=>(parse n .mul r).bind fun a=>parse n (.sumL a.1) a.2
 |n+1,.sumL a,r=>
   if r.bad=true then some (a,r)
   else if isM ws e [43] r=true then (parse n .mul r.next).bind fun b=>parse n (.sumL (two 14 [43] a b.1)) b.2
   else if isM ws e [45] r=true then (parse n .mul r.next).bind fun b=>parse n (.sumL (two 14 [45] a b.1)) b.2 else some (a,r)
 |n+1,.mul,r=>(parse n .app r).bind fun a=>parse n (.mulL a.1) a.2
 |n+1,.mulL a,r=>if isM ws e [42] r=true then (parse n .app r.next).bind fun b=>parse n (.mulL (two 14 [42] a b.1)) b.2 else some (a,r)
 |n+1,.app,r=>(parse n .pre r).bind fun a=>parse n (.appL a.1) a.2
 |n+1,.appL a,r=>if eA ws e r=true then (parse n .pre r).bind fun b=>parse n (.appL (two 7 [] a b.1)) b.2 else some (a,r)
 |n+1,.pre,r=>match preK ws e r with
   |some k=>(parse n .pre r.next).bind fun a=>some (.mk { k:=k,fr:=(wdM ws e r.p).fr,to:=a.1.a.to } [a.1],a.2)
   |none=>parse n .atom r
 |n+1,.atom,r=>
   if eA ws e r=true then
    if (wdM ws e r.p).k=1 then some (dV ws e 1 (mW (wdM ws e r.p).t 0) [] r,r.next)
    else if (wdM ws e r.p).k=2 then some (dV ws e 4 0 (wdM ws e r.p).t r,r.next)
    else if (wdM ws e r.p).k=3 then parse n .con r
    else if (wdM ws e r.p).t=rR then some (dV ws e 2 1 [] r,r.next)
    else if (wdM ws e r.p).t=mS then some (dV ws e 2 0 [] r,r.next)
    else if (wdM ws e r.p).t=kRead then some (dV ws e 18 0 [] r,r.next)
    else if (wdM ws e r.p).t=[40] then parse n .bracket r
    else parse n .long r
   else some (sX,r.fell)
 |n+1,.con,r=>
   if isM ws e [40] r.next=true∧¬ (r.p+2<ws.length∧(wdM ws e (r.p+2)).k=5∧(wdM ws e (r.p+2)).t=[41]) then
    (parse n .expr r.next.next).bind fun b=>(parse n (.conL (addT (dV ws e 5 0 (wdM ws e r.p).t r) b.1)) b.2).bind fun c=>
     some (endT ws e c.1 (bN ws e [41] c.2),bN ws e [41] c.2)
   else some (dV ws e 5 0 (wdM ws e r.p).t r,r.next)
 |n+1,.conL a,r=>if isM ws e [44] r=true then (parse n .expr r.next).bind fun b=>parse n (.conL (addT a b.1)) b.2 else some (a,r)
 |n+1,.bracket,r=>
   if isM ws e [41] (bN ws e [40] r)=true then some (.mk { k:=3,fr:=(wdM ws e r.p).fr,to:=lC ws e (bN ws e [40] r).next } [],(bN ws e [40] r).next)
   else (parse n .expr (bN ws e [40] r)).bind fun a=>some (a.1,bN ws e [41] a.2)
 |n+1,.long,r=>
   (mM ws e (parse n) r).bind fun x=>
    if x.2.2.bad=true∨x.2.1=[] then some (sX,x.2.2.fell) else some (.mk { x.1 with fr:=(wdM ws e r.p).fr } x.2.1,x.2.2)
 |n+1,.armL k more,r=>
   if more=true∧r.bad=false then
    (parse n .pat r).bind fun a=>(parse n .expr (bN ws e [45,62] a.2)).bind fun b=>
     parse n (.armL (k++[a.1]++[b.1]) (isM ws e [124] b.2)) (if isM ws e [124] b.2=true then b.2.next else b.2)
   else some (.mk { k:=0 } k,r)
 |n+1,.pat,r=>
   if r.bad=true then some (sX,r.fell)
   else if (wdM ws e r.p).k=2∧(wdM ws e r.p).t=[95] then some (dV ws e 21 0 [] r,r.next)
   else if (wdM ws e r.p).k=2 then some (dV ws e 22 0 (wdM ws e r.p).t r,r.next)
   else if (wdM ws e r.p).k=1 then some (dV ws e 23 (mW (wdM ws e r.p).t 0) [] r,r.next)
   else if (wdM ws e r.p).k=4∧(wdM ws e r.p).t=rR then some (dV ws e 24 1 [] r,r.next)
   else if (wdM ws e r.p).k=4∧(wdM ws e r.p).t=mS then some (dV ws e 24 0 [] r,r.next)
   else if isM ws e [40] r=true then
    if (bN ws e [41] r.next).bad=true then some (sX,(bN ws e [41] r.next).fell)
    else some (.mk { k:=25,fr:=(wdM ws e r.p).fr,to:=lC ws e (bN ws e [41] r.next) } [],bN ws e [41] r.next)
   else if (wdM ws e r.p).k=3 then
    if isM ws e [40] r.next=true then
     (parse n .pat r.next.next).bind fun b=>(parse n (.patL (addT (dV ws e 26 0 (wdM ws e r.p).t r) b.1)) b.2).bind fun c=>
      if (bN ws e [41] c.2).bad=true then some (c.1,bN ws e [41] c.2) else some (endT ws e c.1 (bN ws e [41] c.2),bN ws e [41] c.2)
    else some (dV ws e 26 0 (wdM ws e r.p).t r,r.next)
   else some (sX,r.fell)
 |n+1,.patL a,r=>if isM ws e [44] r=true then (parse n .pat r.next).bind fun b=>parse n (.patL (addT a b.1)) b.2 else some (a,r)
def left (r:Rs):Nat:=if r.bad=true then 0 else ws.length+1 - r.p
def Fn.lev:Fn→Nat
 | .expr=>13| .set=>12| .cmp=>11| .sum=>10| .sumL _=>1| .mul=>9| .mulL _=>1| .app=>8| .appL _=>7| .pre=>6| .atom=>5| .con=>4| .conL _=>1| .bracket=>4| .long=>4| .armL _ _=>5| .pat=>4| .patL _=>1
def Fn.eats:Fn→Bool
 | .sumL _| .mulL _| .appL _| .conL _| .armL _ _| .patL _=>false
 |_=>true
variable {ws e}
theorem wd_lt {p:Nat} (h:(wdM ws e p).k≠0):p<ws.length:=by
 unfold wdM at h
 split at h
 ·assumption
 ·exact absurd rfl h
theorem aW {s:List UInt8} {r:Rs} (h:isM ws e s r=true):r.bad=false∧r.p<ws.length:=by
 unfold isM at h
 simp only [Bool.and_eq_true,Bool.not_eq_true',decide_eq_true_eq] at h
 exact ⟨h.1,wd_lt fun h0=>by rw [h0] at h;exact absurd h.2.1 (by decide)⟩
theorem iY {r:Rs} (h:eA ws e r=true):r.bad=false∧r.p<ws.length:=by
 unfold eA at h
 split at h
 ·cases h
 ·rename_i h1
  simp only [not_or,Bool.not_eq_true] at h1
  exact ⟨h1.1,wd_lt h1.2⟩
structure Go1 (ws:List Wd) (r r':Rs):Prop where
 le:r.p≤r'.p
 len:r.p≤ws.length→r'.p≤ws.length
 bad:r.bad=true→r'.bad=true
theorem Go1.refl (r:Rs):Go1 ws r r:=⟨Nat.le_refl _,id,id⟩
theorem Go1.trans {a b c:Rs} (h:Go1 ws a b) (k:Go1 ws b c):Go1 ws a c:=⟨Nat.le_trans h.le k.le,fun x=>k.len (h.len x),fun x=>k.bad (h.bad x)⟩
theorem Go1.next {r:Rs} (h:r.p<ws.length):Go1 ws r r.next:=⟨Nat.le_succ _,fun _=>h,id⟩
theorem Go1.fell (r:Rs):Go1 ws r r.fell:=⟨Nat.le_refl _,id,fun _=>rfl⟩
def Go2 (ws:List Wd) (r r':Rs):Prop:=Go1 ws r r'∧(r'.bad=true∨r.p+1≤r'.p)
theorem Go2.next {r:Rs} (h:r.p<ws.length):Go2 ws r r.next:=⟨Go1.next h,.inr (Nat.le_refl _)⟩
theorem Go2.fell (r:Rs):Go2 ws r r.fell:=⟨Go1.fell r,.inl rfl⟩
theorem Go2.then {a b c:Rs} (h:Go2 ws a b) (k:Go1 ws b c):Go2 ws a c:=⟨h.1.trans k,h.2.elim (fun x=>.inl (k.bad x)) fun x=>.inr (Nat.le_trans x k.le)⟩
theorem Go1.then {a b c:Rs} (h:Go1 ws a b) (k:Go2 ws b c):Go2 ws a c:=⟨h.trans k.1,k.2.elim .inl fun x=>.inr (by have:=h.le;omega)⟩
theorem bG (s:List UInt8) (r:Rs):Go2 ws r (bN ws e s r):=by
 unfold bN
 split
 ·rename_i h;exact Go2.next (aW h).2
 ·exact Go2.fell r
theorem cE {k:Int} (hk:k≠0) (r:Rs):Go2 ws r (bI ws e k r).2:=by
 unfold bI
 split
 ·exact Go2.fell r
 ·rename_i h
  simp only [not_or,Decidable.not_not] at h
  exact Go2.next (wd_lt (by rw [h.2.1];exact hk))
theorem left_le {r r':Rs} (h:Go1 ws r r'):left ws r'≤left ws r:=by
 have:=h.le
 have hb:=h.bad
 unfold left
 cases h1:r.bad with
 |true=>rw [h1] at hb;simp [hb rfl]
 |false=>
  simp only [Bool.false_eq_true,if_false]
  split<;>omega
theorem lQ {r r':Rs} (h:Go2 ws r r') (hb:r.bad=false) (hp:r.p≤ws.length):left ws r'<left ws r:=by
 have h1:=h.1.len hp
 unfold left
 rw [hb]
 simp only [Bool.false_eq_true,if_false]
 rcases h.2 with h2|h2
 ·rw [if_pos h2];omega
 ·split<;>omega
theorem aQ {α β:Type} {o:Option α} {f:α→Option β} {y:β} (h:o.bind f=some y):∃ x,o=some x∧f x=some y:=Option.bind_eq_some_iff.1 h
theorem ofS {α:Type} {x y:α} (h:some x=some y):y=x:=(Option.some.inj h).symm
def Pre (ws:List Wd):Fn→Rs→Prop
 | .con,r=>r.p<ws.length∧r.bad=false
 | .bracket,r=>r.bad=false
 |_,_=>True
theorem fK:∀ (n:Nat) (f:Fn) (r:Rs) (x:Tm × Rs),Pre ws f r→parse ws e n f r=some x→(f.eats=true→Go2 ws r x.2)∧Go1 ws r x.2:=by
 intro n
 induction n with
 |zero=>intro f r x _ h;cases h
 |succ n ih=>
  have g1:∀ {f r x},parse ws e n f r=some x→(hp:Pre ws f r:=by trivial)→Go1 ws r x.2:=fun h hp=>(ih _ _ _ hp h).2
  have g2:∀ {f r x},parse ws e n f r=some x→f.eats=true→(hp:Pre ws f r:=by trivial)→Go2 ws r x.2:=fun h he hp=>(ih _ _ _ hp h).1 he
  have fin:∀ {f:Fn} {r:Rs} {x:Tm × Rs},Go2 ws r x.2→(f.eats=true→Go2 ws r x.2)∧Go1 ws r x.2:=fun h=>⟨fun _=>h,h.1⟩
  intro f r x hp h
  cases f with
  |expr=>
   rw [parse] at h
   obtain ⟨a,h1,h⟩:=aQ h
   split at h
   ·rename_i hm
    obtain ⟨b,h2,h⟩:=aQ h
    have hx:=ofS h
    subst hx
    exact fin ((g2 h1 rfl).then ((Go1.next (aW hm).2).trans (g1 h2:)))
   ·cases ofS h
    exact fin (g2 h1 rfl)
  |set=>
   rw [parse] at h
   obtain ⟨a,h1,h⟩:=aQ h
   split at h
   ·rename_i hm
    obtain ⟨b,h2,h⟩:=aQ h
    have hx:=ofS h
    subst hx
    exact fin ((g2 h1 rfl).then ((Go1.next (aW hm).2).trans (g1 h2:)))
   ·cases ofS h
    exact fin (g2 h1 rfl)
  |cmp=>
   rw [parse] at h
   obtain ⟨a,h1,h⟩:=aQ h
   split at h
   ·rename_i hm
    obtain ⟨b,h2,h⟩:=aQ h
    have hx:=ofS h
    subst hx
    exact fin ((g2 h1 rfl).then ((Go1.next (aW hm).2).trans (g1 h2:)))
   ·split at h
    ·rename_i hm
     obtain ⟨b,h2,h⟩:=aQ h
     have hx:=ofS h
     subst hx
     exact fin ((g2 h1 rfl).then ((Go1.next (aW hm).2).trans (g1 h2:)))
    ·cases ofS h
     exact fin (g2 h1 rfl)
  |sum=>
   rw [parse] at h
   obtain ⟨a,h1,h⟩:=aQ h
   exact fin ((g2 h1 rfl).then (g1 h:))
  |mul=>
   rw [parse] at h
   obtain ⟨a,h1,h⟩:=aQ h
   exact fin ((g2 h1 rfl).then (g1 h:))
  |app=>
   rw [parse] at h
   obtain ⟨a,h1,h⟩:=aQ h
   exact fin ((g2 h1 rfl).then (g1 h:))
  |sumL a=>
   refine ⟨fun h=>(Bool.noConfusion h),?_⟩
   rw [parse] at h
   split at h
   ·cases ofS h;exact Go1.refl _
   ·split at h
    ·rename_i hm
     obtain ⟨b,h2,h⟩:=aQ h
     exact (Go1.next (aW hm).2).trans ((g1 h2:).trans (g1 h:))
    ·split at h
     ·rename_i hm
      obtain ⟨b,h2,h⟩:=aQ h
      exact (Go1.next (aW hm).2).trans ((g1 h2:).trans (g1 h:))
     ·cases ofS h;exact Go1.refl _
  |mulL a=>
   refine ⟨fun h=>(Bool.noConfusion h),?_⟩
   rw [parse] at h
   split at h
   ·rename_i hm
    obtain ⟨b,h2,h⟩:=aQ h
    exact (Go1.next (aW hm).2).trans ((g1 h2:).trans (g1 h:))
   ·cases ofS h;exact Go1.refl _
  |appL a=>
   refine ⟨fun h=>(Bool.noConfusion h),?_⟩
   rw [parse] at h
   split at h
   ·obtain ⟨b,h2,h⟩:=aQ h
    exact (g1 h2:).trans (g1 h:)
   ·cases ofS h;exact Go1.refl _
  |conL a=>
   refine ⟨fun h=>(Bool.noConfusion h),?_⟩
   rw [parse] at h
   split at h
   ·rename_i hm
    obtain ⟨b,h2,h⟩:=aQ h
    exact (Go1.next (aW hm).2).trans ((g1 h2:).trans (g1 h:))
   ·cases ofS h;exact Go1.refl _
  |patL a=>
   refine ⟨fun h=>(Bool.noConfusion h),?_⟩
   rw [parse] at h
   split at h
   ·rename_i hm
    obtain ⟨b,h2,h⟩:=aQ h
    exact (Go1.next (aW hm).2).trans ((g1 h2:).trans (g1 h:))
   ·cases ofS h;exact Go1.refl _
  |armL k more=>
   refine ⟨fun h=>(Bool.noConfusion h),?_⟩
   rw [parse] at h
   split at h
   ·obtain ⟨a,h1,h⟩:=aQ h
    obtain ⟨b,h2,h⟩:=aQ h
    have h3:=g1 h
    refine (g1 h1:).trans ((bG _ _).1.trans ((g1 h2:).trans ?_))
    split at h3
    ·rename_i hm
     exact (Go1.next (aW hm).2).trans h3
    ·exact h3
   ·cases ofS h;exact Go1.refl _
  |pre=>
   rw [parse] at h
   split at h
   ·rename_i k hk
    obtain ⟨a,h1,h⟩:=aQ h
    cases ofS h
    have hl:r.p<ws.length:=by
     unfold preK at hk
     split at hk
     ·rename_i hm;exact (aW hm).2
     ·split at hk
      ·rename_i hm;exact (aW hm).2
      ·split at hk
       ·rename_i hm;exact (aW hm).2
       ·split at hk
        ·rename_i hm;exact (aW hm).2
        ·cases hk
    exact fin ((Go2.next hl).then (g1 h1:))
   ·exact fin (g2 h rfl)
  |atom=>
   rw [parse] at h
   split at h
   ·rename_i hb
    have hl:=(iY hb).2
    split at h
    ·cases ofS h;exact fin (Go2.next hl)
    ·split at h
     ·cases ofS h;exact fin (Go2.next hl)
     ·split at h
      ·exact fin (g2 h rfl ⟨hl,(iY hb).1⟩)
      ·split at h
       ·cases ofS h;exact fin (Go2.next hl)
       ·split at h
        ·cases ofS h;exact fin (Go2.next hl)
        ·split at h
         ·cases ofS h;exact fin (Go2.next hl)
         ·split at h
          ·exact fin (g2 h rfl (iY hb).1)
          ·exact fin (g2 h rfl)
   ·cases ofS h;exact fin (Go2.fell _)
  |con=>
   rw [parse] at h
   split at h
   ·rename_i hm
    obtain ⟨b,h1,h⟩:=aQ h
    obtain ⟨c,h2,h⟩:=aQ h
    have hx:=ofS h
    subst hx
    exact fin ((Go2.next hp.1).then ((Go1.next (aW hm.1).2).trans ((g1 h1:).trans ((g1 h2:).trans (bG _ _).1))))
   ·cases ofS h
    exact fin (Go2.next hp.1)
  |bracket=>
   rw [parse] at h
   split at h
   ·rename_i hm
    cases ofS h
    exact fin ((bG _ _).then (Go1.next (aW hm).2))
   ·obtain ⟨a,h1,h⟩:=aQ h
    cases ofS h
    exact fin ((bG _ _).then ((g1 h1:).trans (bG _ _).1))
  |long=>
   rw [parse] at h
   obtain ⟨y,h1,h⟩:=aQ h
   have hy:(y.2.1≠[]→Go2 ws r y.2.2)∧Go1 ws r y.2.2:=by
    unfold mM at h1
    have fin:Go2 ws r y.2.2→(y.2.1≠[]→Go2 ws r y.2.2)∧Go1 ws r y.2.2:=fun h=>⟨fun _=>h,h.1⟩
    split at h1
    ·rename_i hm
     obtain ⟨a,h2,h1⟩:=aQ h1
     have hx:=ofS h1
     subst hx
     exact fin ((Go2.next (aW hm).2).then ((cE (by decide) _).1.trans ((bG _ _).1.trans (g1 h2:))))
    ·split at h1
     ·rename_i hm
      obtain ⟨z,h2,h1⟩:=aQ h1
      obtain ⟨a,h3,h1⟩:=aQ h1
      obtain ⟨b,h4,h1⟩:=aQ h1
      have hx:=ofS h1
      subst hx
      refine fin ((Go2.next (aW hm).2).then ?_)
      have hz:Go1 ws r.next z.2.2.2:=by
       split at h2
       ·rename_i hr
        have hx:=ofS h2
        subst hx
        exact (Go1.next (aW hr).2).trans ((cE (by decide) _).1.trans (cE (by decide) _).1)
       ·have hx:=ofS h2
        subst hx
        exact (cE (by decide) _).1
      exact hz.trans ((bG _ _).1.trans ((g1 h3:).trans ((bG _ _).1.trans (g1 h4:))))
     ·split at h1
      ·rename_i hm
       obtain ⟨a,h2,h1⟩:=aQ h1
       obtain ⟨b,h3,h1⟩:=aQ h1
       obtain ⟨c,h4,h1⟩:=aQ h1
       have hx:=ofS h1
       subst hx
       exact fin ((Go2.next (aW hm).2).then ((g1 h2:).trans ((bG _ _).1.trans ((g1 h3:).trans ((bG _ _).1.trans (g1 h4:))))))
      ·split at h1
       ·rename_i hm
        obtain ⟨a,h2,h1⟩:=aQ h1
        obtain ⟨b,h3,h1⟩:=aQ h1
        have hx:=ofS h1
        subst hx
        exact fin ((Go2.next (aW hm).2).then ((g1 h2:).trans ((bG _ _).1.trans ((g1 h3:).trans (bG _ _).1))))
       ·split at h1
        ·rename_i hm
         obtain ⟨a,h2,h1⟩:=aQ h1
         obtain ⟨b,h3,h1⟩:=aQ h1
         have hx:=ofS h1
         subst hx
         exact fin ((Go2.next (aW hm).2).then ((g1 h2:).trans ((bG _ _).1.trans ((cE (by decide) _).1.trans ((bG _ _).1.trans ((g1 h3:).trans (bG _ _).1))))))
        ·have hx:=ofS h1
         subst hx
         exact ⟨fun h=>absurd rfl h,Go1.refl _⟩
   split at h
   ·have hx:=ofS h
    subst hx
    exact fin (hy.2.then (Go2.fell _))
   ·rename_i hn
    have hx:=ofS h
    subst hx
    exact fin (hy.1 fun hh=>hn (.inr hh))
  |pat=>
   rw [parse] at h
   have lt:∀ {k:Int},(wdM ws e r.p).k=k→k≠0→r.p<ws.length:=fun h hk=>wd_lt (by rw [h];exact hk)
   by_cases c1:r.bad=true
   ·rw [if_pos c1] at h
    cases ofS h;exact fin (Go2.fell _)
   rw [if_neg c1] at h
   by_cases c2:(wdM ws e r.p).k=2∧(wdM ws e r.p).t=[95]
   ·rw [if_pos c2] at h
    cases ofS h;exact fin (Go2.next (lt c2.1 (by decide)))
   rw [if_neg c2] at h
   by_cases c3:(wdM ws e r.p).k=2
   ·rw [if_pos c3] at h
    cases ofS h;exact fin (Go2.next (lt c3 (by decide)))
   rw [if_neg c3] at h
   by_cases c4:(wdM ws e r.p).k=1
   ·rw [if_pos c4] at h
    cases ofS h;exact fin (Go2.next (lt c4 (by decide)))
   rw [if_neg c4] at h
   by_cases c5:(wdM ws e r.p).k=4∧(wdM ws e r.p).t=rR
   ·rw [if_pos c5] at h
    cases ofS h;exact fin (Go2.next (lt c5.1 (by decide)))
   rw [if_neg c5] at h
   by_cases c6:(wdM ws e r.p).k=4∧(wdM ws e r.p).t=mS
   ·rw [if_pos c6] at h
    cases ofS h;exact fin (Go2.next (lt c6.1 (by decide)))
   rw [if_neg c6] at h
   by_cases c7:isM ws e [40] r=true
   ·rw [if_pos c7] at h
    by_cases c8:(bN ws e [41] r.next).bad=true
    ·rw [if_pos c8] at h
     cases ofS h;exact fin ((Go2.next (aW c7).2).then ((bG _ _).1.trans (Go1.fell _)))
    ·rw [if_neg c8] at h
     cases ofS h;exact fin ((Go2.next (aW c7).2).then (bG _ _).1)
   rw [if_neg c7] at h
   by_cases c8:(wdM ws e r.p).k=3
   ·rw [if_pos c8] at h
    by_cases c9:isM ws e [40] r.next=true
    ·rw [if_pos c9] at h
     obtain ⟨b,h1,h⟩:=aQ h
     obtain ⟨c,h2,h⟩:=aQ h
     have hg:=(Go2.next (lt c8 (by decide))).then ((Go1.next (aW c9).2).trans ((g1 h1:).trans ((g1 h2:).trans (bG (e:=e) [41] _).1)))
     by_cases c10:(bN ws e [41] c.2).bad=true
     ·rw [if_pos c10] at h
      have hx:=ofS h
      subst hx
      exact fin hg
     ·rw [if_neg c10] at h
      have hx:=ofS h
      subst hx
      exact fin hg
    ·rw [if_neg c9] at h
     cases ofS h;exact fin (Go2.next (lt c8 (by decide)))
   rw [if_neg c8] at h
   cases ofS h;exact fin (Go2.fell _)
theorem cT {α β:Type} {o:Option α} {f:α→Option β} (h:∃ x,o=some x) (k:∀ x,o=some x→∃ y,f x=some y):∃ y,o.bind f=some y:=by
 obtain ⟨x,rfl⟩:=h
 exact k x rfl
theorem parse_some:∀ (n:Nat) (f:Fn) (r:Rs),r.p≤ws.length→Pre ws f r→left ws r*16+f.lev<n→∃ x,parse ws e n f r=some x:=by
 intro n
 induction n with
 |zero=>intro f r _ _ h;omega
 |succ n ih=>
  intro f r hr hp hn
  have same:∀ {g:Fn},g.lev<f.lev→(h:Pre ws g r:=by trivial)→∃ x,parse ws e n g r=some x:=fun hl h=>ih _ _ hr h (by omega)
  have on:∀ {g:Fn} {r':Rs},Go1 ws r r'→g.lev<f.lev→(h:Pre ws g r':=by trivial)→∃ x,parse ws e n g r'=some x:=fun hg hl h=>ih _ _ (hg.len hr) h (by have:=left_le hg;omega)
  have lev:∀ g:Fn,g.lev≤13:=fun g=>by cases g<;>simp [Fn.lev]
  have on2:∀ {g:Fn} {r':Rs},Go2 ws r r'→r.bad=false→(h:Pre ws g r':=by trivial)→∃ x,parse ws e n g r'=some x:=fun {g r'} hg hb h=>ih _ _ (hg.1.len hr) h (by have:=lQ hg hb hr;have:=lev g;omega)
  have g1:∀ {f r x},parse ws e n f r=some x→(hp:Pre ws f r:=by trivial)→Go1 ws r x.2:=fun h hp=>(fK _ _ _ _ hp h).2
  have g2:∀ {f r x},parse ws e n f r=some x→f.eats=true→(hp:Pre ws f r:=by trivial)→Go2 ws r x.2:=fun h he hp=>(fK _ _ _ _ hp h).1 he
  have bd:∀ {f:Fn} {x:Tm × Rs} {s:List UInt8},parse ws e n f r=some x→isM ws e s x.2=true→(hp:Pre ws f r:=by trivial)→r.bad=false:=fun h hm hp=>by
   cases hb:r.bad with
   |false=>rfl
   |true=>exact absurd (aW hm).1 (by rw [(g1 h hp).bad hb];simp)
  cases f with
  |expr=>
   rw [parse]
   refine cT (same (by decide)) fun a h1=>?_
   split
   ·rename_i hm
    exact cT (on2 ((g2 h1 rfl).then (Go1.next (aW hm).2)) (bd h1 hm)) fun b _=>⟨_,rfl⟩
   ·exact ⟨_,rfl⟩
  |set=>
   rw [parse]
   refine cT (same (by decide)) fun a h1=>?_
   split
   ·rename_i hm
    exact cT (on2 ((g2 h1 rfl).then (Go1.next (aW hm).2)) (bd h1 hm)) fun b _=>⟨_,rfl⟩
   ·exact ⟨_,rfl⟩
  |cmp=>
   rw [parse]
   refine cT (same (by decide)) fun a h1=>?_
   split
   ·rename_i hm
    exact cT (on2 ((g2 h1 rfl).then (Go1.next (aW hm).2)) (bd h1 hm)) fun b _=>⟨_,rfl⟩
   ·split
    ·rename_i hm
     exact cT (on2 ((g2 h1 rfl).then (Go1.next (aW hm).2)) (bd h1 hm)) fun b _=>⟨_,rfl⟩
    ·exact ⟨_,rfl⟩
  |sum=>
   rw [parse]
   exact cT (same (by decide)) fun a h1=>on (g1 h1) (by simp [Fn.lev])
  |mul=>
   rw [parse]
   exact cT (same (by decide)) fun a h1=>on (g1 h1) (by simp [Fn.lev])
  |app=>
   rw [parse]
   exact cT (same (by decide)) fun a h1=>on (g1 h1) (by simp [Fn.lev])
  |sumL a=>
   rw [parse]
   split
   ·exact ⟨_,rfl⟩
   ·split
    ·rename_i hm
     have h2:=Go2.next (aW hm).2
     exact cT (on2 h2 (aW hm).1) fun b h1=>on2 (h2.then (g1 h1)) (aW hm).1
    ·split
     ·rename_i hm
      have h2:=Go2.next (aW hm).2
      exact cT (on2 h2 (aW hm).1) fun b h1=>on2 (h2.then (g1 h1)) (aW hm).1
     ·exact ⟨_,rfl⟩
  |mulL a=>
   rw [parse]
   split
   ·rename_i hm
    have h2:=Go2.next (aW hm).2
    exact cT (on2 h2 (aW hm).1) fun b h1=>on2 (h2.then (g1 h1)) (aW hm).1
   ·exact ⟨_,rfl⟩
  |conL a=>
   rw [parse]
   split
   ·rename_i hm
    have h2:=Go2.next (aW hm).2
    exact cT (on2 h2 (aW hm).1) fun b h1=>on2 (h2.then (g1 h1)) (aW hm).1
   ·exact ⟨_,rfl⟩
  |patL a=>
   rw [parse]
   split
   ·rename_i hm
    have h2:=Go2.next (aW hm).2
    exact cT (on2 h2 (aW hm).1) fun b h1=>on2 (h2.then (g1 h1)) (aW hm).1
   ·exact ⟨_,rfl⟩
  |appL a=>
   rw [parse]
   split
   ·rename_i hm
    exact cT (same (by simp [Fn.lev])) fun b h1=>on2 (g2 h1 rfl) (iY hm).1
   ·exact ⟨_,rfl⟩
  |armL k more=>
   rw [parse]
   split
   ·rename_i hm
    refine cT (same (by simp [Fn.lev])) fun a h1=>?_
    have h2:=(g2 h1 rfl).then (bG (e:=e) [45,62] a.2).1
    refine cT (on2 h2 hm.2) fun b h3=>?_
    split
    ·rename_i h4
     exact on2 (h2.then ((g1 h3).trans (Go1.next (aW h4).2))) hm.2
    ·exact on2 (h2.then (g1 h3)) hm.2
   ·exact ⟨_,rfl⟩
  |pre=>
   rw [parse]
   split
   ·rename_i k hk
    have hl:r.bad=false∧r.p<ws.length:=by
     unfold preK at hk
     split at hk
     ·rename_i hm;exact aW hm
     ·split at hk
      ·rename_i hm;exact aW hm
      ·split at hk
       ·rename_i hm;exact aW hm
       ·split at hk
        ·rename_i hm;exact aW hm
        ·cases hk
    exact cT (on2 (Go2.next hl.2) hl.1) fun _ _=>⟨_,rfl⟩
   ·exact same (by decide)
  |atom=>
   rw [parse]
   split
   ·rename_i hb
    have hl:=iY hb
    split
    ·exact ⟨_,rfl⟩
    ·split
     ·exact ⟨_,rfl⟩
     ·split
      ·exact same (by decide) ⟨hl.2,hl.1⟩
      ·split
       ·exact ⟨_,rfl⟩
       ·split
        ·exact ⟨_,rfl⟩
        ·split
         ·exact ⟨_,rfl⟩
         ·split
          ·exact same (by decide) hl.1
          ·exact same (by decide)
   ·exact ⟨_,rfl⟩
  |con=>
   rw [parse]
   split
   ·rename_i hm
    have h2:=(Go2.next hp.1).then (Go1.next (aW hm.1).2)
    exact cT (on2 h2 hp.2) fun b h1=>cT (on2 (h2.then (g1 h1)) hp.2) fun c _=>⟨_,rfl⟩
   ·exact ⟨_,rfl⟩
  |bracket=>
   rw [parse]
   split
   ·exact ⟨_,rfl⟩
   ·exact cT (on2 (bG _ _) hp) fun _ _=>⟨_,rfl⟩
  |pat=>
   rw [parse]
   by_cases c1:r.bad=true
   ·rw [if_pos c1];exact ⟨_,rfl⟩
   rw [if_neg c1]
   by_cases c2:(wdM ws e r.p).k=2∧(wdM ws e r.p).t=[95]
   ·rw [if_pos c2];exact ⟨_,rfl⟩
   rw [if_neg c2]
   by_cases c3:(wdM ws e r.p).k=2
   ·rw [if_pos c3];exact ⟨_,rfl⟩
   rw [if_neg c3]
   by_cases c4:(wdM ws e r.p).k=1
   ·rw [if_pos c4];exact ⟨_,rfl⟩
   rw [if_neg c4]
   by_cases c5:(wdM ws e r.p).k=4∧(wdM ws e r.p).t=rR
   ·rw [if_pos c5];exact ⟨_,rfl⟩
   rw [if_neg c5]
   by_cases c6:(wdM ws e r.p).k=4∧(wdM ws e r.p).t=mS
   ·rw [if_pos c6];exact ⟨_,rfl⟩
   rw [if_neg c6]
   by_cases c7:isM ws e [40] r=true
   ·rw [if_pos c7]
    by_cases c8:(bN ws e [41] r.next).bad=true
    ·rw [if_pos c8];exact ⟨_,rfl⟩
    ·rw [if_neg c8];exact ⟨_,rfl⟩
   rw [if_neg c7]
   by_cases c8:(wdM ws e r.p).k=3
   ·rw [if_pos c8]
    by_cases c9:isM ws e [40] r.next=true
    ·rw [if_pos c9]
     have hb:=Bool.not_eq_true _▸c1
     have h2:=(Go2.next (wd_lt (e:=e) (by rw [c8];decide))).then (Go1.next (aW c9).2)
     refine cT (on2 h2 hb) fun b h1=>cT (on2 (h2.then (g1 h1:)) hb) fun c _=>?_
     by_cases c10:(bN ws e [41] c.2).bad=true
     ·rw [if_pos c10];exact ⟨_,rfl⟩
     ·rw [if_neg c10];exact ⟨_,rfl⟩
    ·rw [if_neg c9];exact ⟨_,rfl⟩
   rw [if_neg c8];exact ⟨_,rfl⟩
  |long=>
   rw [parse]
   refine cT ?_ fun x _=>by split<;>exact ⟨_,rfl⟩
   unfold mM
   split
   ·rename_i hm
    exact cT (on2 ((Go2.next (aW hm).2).then ((cE (by decide) _).1.trans (bG _ _).1)) (aW hm).1) fun _ _=>⟨_,rfl⟩
   ·split
    ·rename_i hm
     refine cT (by split<;>exact ⟨_,rfl⟩) fun z h2=>?_
     have hz:Go1 ws r.next z.2.2.2:=by
      split at h2
      ·rename_i hr
       have hx:=ofS h2
       subst hx
       exact (Go1.next (aW hr).2).trans ((cE (by decide) _).1.trans (cE (by decide) _).1)
      ·have hx:=ofS h2
       subst hx
       exact (cE (by decide) _).1
     have h3:=(Go2.next (aW hm).2).then (hz.trans (bG (e:=e) [61] _).1)
     exact cT (on2 h3 (aW hm).1) fun a h4=>cT (on2 (h3.then ((g1 h4).trans (bG _ _).1)) (aW hm).1) fun _ _=>⟨_,rfl⟩
    ·split
     ·rename_i hm
      have h3:=Go2.next (aW hm).2
      refine cT (on2 h3 (aW hm).1) fun a h4=>?_
      have h5:=h3.then ((g1 h4).trans (bG (e:=e) kThen _).1)
      exact cT (on2 h5 (aW hm).1) fun b h6=>cT (on2 (h5.then ((g1 h6).trans (bG _ _).1)) (aW hm).1) fun _ _=>⟨_,rfl⟩
     ·split
      ·rename_i hm
       have h3:=Go2.next (aW hm).2
       exact cT (on2 h3 (aW hm).1) fun a h4=>cT (on2 (h3.then ((g1 h4).trans (bG _ _).1)) (aW hm).1) fun _ _=>⟨_,rfl⟩
      ·split
       ·rename_i hm
        have h3:=Go2.next (aW hm).2
        exact cT (on2 h3 (aW hm).1) fun a h4=>cT (on2 (h3.then ((g1 h4).trans ((bG _ _).1.trans ((cE (by decide) _).1.trans (bG _ _).1)))) (aW hm).1) fun _ _=>⟨_,rfl⟩
       ·exact ⟨_,rfl⟩
end
end Go.Pg
namespace Go.Pg
mutual
def szT:Tm→Nat
 | .mk _ l=>1+szL l
def szL:List Tm→Nat
 |[]=>0
 |t::l=>szT t+szL l
end
theorem szT_eq (t:Tm):szT t=1+szL t.args:=by
 cases t with
 |mk a l=>rw [szT];try rfl
theorem tF:∀ (a b:List Tm),szL (a++b)=szL a+szL b
 |[],b=>by simp [szL]
 |t::a,b=>by rw [List.cons_append,szL,szL,tF a b,Nat.add_assoc]
theorem nF (t:Tm):szL [t]=szT t:=by simp [szL]
theorem szL_two (t u:Tm):szL [t,u]=szT t+szT u:=by simp [szL]
theorem szL_three (t u v:Tm):szL [t,u,v]=szT t+szT u+szT v:=by simp [szL,Nat.add_assoc]
theorem szT_pos (t:Tm):1≤szT t:=by rw [szT_eq];omega
theorem szL_len:∀ l:List Tm,l.length≤szL l
 |[]=>Nat.zero_le _
 |t::l=>by have:=szT_pos t;have:=szL_len l;rw [szL,List.length_cons];omega
section
variable {ws:List Wd} {e:Nat}
theorem dO {s:List UInt8} {r:Rs} (h:(bN ws e s r).bad=false):r.bad=false∧(bN ws e s r).p=r.p+1:=by
 unfold bN at h ⊢
 split at h
 ·rename_i hm
  rw [if_pos hm]
  exact ⟨(aW hm).1,rfl⟩
 ·cases h
theorem tE {k:Int} {r:Rs} (h:(bI ws e k r).2.bad=false):r.bad=false∧(bI ws e k r).2.p=r.p+1:=by
 unfold bI at h ⊢
 split at h
 ·cases h
 ·rename_i hm
  rw [if_neg hm]
  simp only [not_or,Bool.not_eq_true] at hm
  exact ⟨hm.1,rfl⟩
def Fn.acc:Fn→Nat
 | .sumL a| .mulL a| .appL a| .conL a| .patL a=>szT a+1
 | .armL k _=>szL k+2
 |_=>0
theorem mX (k:Int) (nm:List UInt8) (a b:Tm):szT (two k nm a b)=1+szT a+szT b:=by
 unfold two
 rw [szT,szL_two,Nat.add_assoc]
theorem szT_add (a b:Tm):szT (addT a b)=szT a+szT b:=by
 unfold addT
 rw [szT,tF,nF,szT_eq a,Nat.add_assoc]
theorem rM (k n:Int) (nm:List UInt8) (r:Rs):szT (dV ws e k n nm r)=1:=by
 unfold dV
 rw [szT,szL]
theorem szT_end (a:Tm) (r:Rs):szT (endT ws e a r)=szT a:=by
 unfold endT
 rw [szT,szT_eq a]
theorem parse_size:∀ (n:Nat) (f:Fn) (r:Rs) (x:Tm × Rs),Pre ws f r→parse ws e n f r=some x→x.2.bad=false→r.bad=false∧szT x.1+1+2*r.p≤f.acc+2*x.2.p:=by
 intro n
 induction n with
 |zero=>intro f r x _ h;cases h
 |succ n ih=>
  have g:∀ {f r x},parse ws e n f r=some x→x.2.bad=false→(hp:Pre ws f r:=by trivial)→r.bad=false∧szT x.1+1+2*r.p≤f.acc+2*x.2.p:=fun h hb hp=>ih _ _ _ hp h hb
  have nx:∀ r:Rs,r.next.p=r.p+1:=fun _=>rfl
  have nb:∀ r:Rs,r.next.bad=r.bad:=fun _=>rfl
  intro f r x hp h hb
  cases f with
  |expr=>
   rw [parse] at h
   obtain ⟨a,h1,h⟩:=aQ h
   split at h
   ·obtain ⟨b,h2,h⟩:=aQ h
    have hx:=ofS h
    subst hx
    obtain ⟨k1,k2⟩:=g h2 hb
    obtain ⟨k3,k4⟩:=g h1 k1
    simp only [Fn.acc,nx,mX] at k2 k4 ⊢
    exact ⟨k3,by omega⟩
   ·have hx:=ofS h
    subst hx
    exact (g h1 hb:)
  |set=>
   rw [parse] at h
   obtain ⟨a,h1,h⟩:=aQ h
   split at h
   ·obtain ⟨b,h2,h⟩:=aQ h
    have hx:=ofS h
    subst hx
    obtain ⟨k1,k2⟩:=g h2 hb
    obtain ⟨k3,k4⟩:=g h1 k1
    simp only [Fn.acc,nx,mX] at k2 k4 ⊢
    exact ⟨k3,by omega⟩
   ·have hx:=ofS h
    subst hx
    exact (g h1 hb:)
  |cmp=>
   rw [parse] at h
   obtain ⟨a,h1,h⟩:=aQ h
   split at h
   ·obtain ⟨b,h2,h⟩:=aQ h
    have hx:=ofS h
    subst hx
    obtain ⟨k1,k2⟩:=g h2 hb
    obtain ⟨k3,k4⟩:=g h1 k1
    simp only [Fn.acc,nx,mX] at k2 k4 ⊢
    exact ⟨k3,by omega⟩
   ·split at h
    ·obtain ⟨b,h2,h⟩:=aQ h
     have hx:=ofS h
     subst hx
     obtain ⟨k1,k2⟩:=g h2 hb
     obtain ⟨k3,k4⟩:=g h1 k1
     simp only [Fn.acc,nx,mX] at k2 k4 ⊢
     exact ⟨k3,by omega⟩
    ·have hx:=ofS h
     subst hx
     exact (g h1 hb:)
  |sum|mul|app=>
   rw [parse] at h
   obtain ⟨a,h1,h⟩:=aQ h
   obtain ⟨k1,k2⟩:=g h hb
   obtain ⟨k3,k4⟩:=g h1 k1
   simp only [Fn.acc] at k2 k4 ⊢
   exact ⟨k3,by omega⟩
  |sumL a=>
   rw [parse] at h
   split at h
   ·have hx:=ofS h
    subst hx
    exact ⟨hb,by simp only [Fn.acc];omega⟩
   ·split at h
    ·obtain ⟨b,h2,h⟩:=aQ h
     obtain ⟨k1,k2⟩:=g h hb
     obtain ⟨k3,k4⟩:=g h2 k1
     simp only [Fn.acc,nx,mX] at k2 k4 ⊢
     exact ⟨k3,by omega⟩
    ·split at h
     ·obtain ⟨b,h2,h⟩:=aQ h
      obtain ⟨k1,k2⟩:=g h hb
      obtain ⟨k3,k4⟩:=g h2 k1
      simp only [Fn.acc,nx,mX] at k2 k4 ⊢
      exact ⟨k3,by omega⟩
     ·have hx:=ofS h
      subst hx
      exact ⟨hb,by simp only [Fn.acc];omega⟩
  |mulL a|appL a|conL a|patL a=>
   rw [parse] at h
   split at h
   ·obtain ⟨b,h2,h⟩:=aQ h
    obtain ⟨k1,k2⟩:=g h hb
    obtain ⟨k3,k4⟩:=g h2 k1
    simp only [Fn.acc,nx,mX,szT_add] at k2 k4 ⊢
    exact ⟨k3,by omega⟩
   ·have hx:=ofS h
    subst hx
    exact ⟨hb,by simp only [Fn.acc];omega⟩
  |armL k more=>
   rw [parse] at h
   split at h
   ·obtain ⟨a,h1,h⟩:=aQ h
    obtain ⟨b,h2,h⟩:=aQ h
    obtain ⟨k1,k2⟩:=g h hb
    have k3:b.2.bad=false:=by
     split at k1
     ·exact k1
     ·exact k1
    obtain ⟨k4,k5⟩:=g h2 k3
    obtain ⟨k6,k7⟩:=dO k4
    obtain ⟨k8,k9⟩:=g h1 k6
    simp only [Fn.acc,tF,nF,k7] at k2 k5 k9 ⊢
    refine ⟨k8,?_⟩
    split at k2
    ·rw [nx] at k2;omega
    ·omega
   ·have hx:=ofS h
    subst hx
    refine ⟨hb,?_⟩
    simp only [Fn.acc,szT]
    omega
  |pre=>
   rw [parse] at h
   split at h
   ·obtain ⟨a,h1,h⟩:=aQ h
    have hx:=ofS h
    subst hx
    obtain ⟨k1,k2⟩:=g h1 hb
    simp only [Fn.acc,nx,szT,nF] at k2 ⊢
    exact ⟨k1,by omega⟩
   ·exact (g h hb:)
  |atom=>
   rw [parse] at h
   split at h
   ·rename_i hbe
    have hl:=iY hbe
    have one:∀ {k n:Int} {nm:List UInt8},x=(dV ws e k n nm r,r.next)→r.bad=false∧szT x.1+1+2*r.p≤0+2*x.2.p:=fun hx=>by
     subst hx
     exact ⟨hl.1,by rw [rM];simp only [nx];omega⟩
    split at h
    ·exact one (ofS h)
    ·split at h
     ·exact one (ofS h)
     ·split at h
      ·exact (g h hb ⟨hl.2,hl.1⟩:)
      ·split at h
       ·exact one (ofS h)
       ·split at h
        ·exact one (ofS h)
        ·split at h
         ·exact one (ofS h)
         ·split at h
          ·exact (g h hb hl.1:)
          ·exact (g h hb:)
   ·have hx:=ofS h
    subst hx
    cases hb
  |con=>
   rw [parse] at h
   split at h
   ·obtain ⟨b,h1,h⟩:=aQ h
    obtain ⟨c,h2,h⟩:=aQ h
    have hx:=ofS h
    subst hx
    obtain ⟨k0,k1⟩:=dO hb
    obtain ⟨k2,k3⟩:=g h2 k0
    obtain ⟨k4,k5⟩:=g h1 k2
    simp only [Fn.acc,nx,szT_add,rM,szT_end,k1] at k3 k5 ⊢
    exact ⟨hp.2,by omega⟩
   ·have hx:=ofS h
    subst hx
    exact ⟨hp.2,by rw [rM];simp only [nx,Fn.acc];omega⟩
  |bracket=>
   rw [parse] at h
   split at h
   ·have hx:=ofS h
    subst hx
    obtain ⟨k1,k2⟩:=dO (e:=e) hb
    simp only [Fn.acc,nx,szT,szL,k2]
    exact ⟨k1,by omega⟩
   ·obtain ⟨a,h1,h⟩:=aQ h
    have hx:=ofS h
    subst hx
    obtain ⟨k0,k1⟩:=dO hb
    obtain ⟨k2,k3⟩:=g h1 k0
    obtain ⟨k4,k5⟩:=dO k2
    simp only [Fn.acc,k1,k5] at k3 ⊢
    exact ⟨k4,by omega⟩
  |pat=>
   rw [parse] at h
   have one:∀ {k n:Int} {nm:List UInt8},r.bad=false→some (dV ws e k n nm r,r.next)=some x→r.bad=false∧szT x.1+1+2*r.p≤0+2*x.2.p:=fun hr hx=>by
    have hx:=ofS hx
    subst hx
    exact ⟨hr,by rw [rM];simp only [nx];omega⟩
   by_cases c1:r.bad=true
   ·rw [if_pos c1] at h
    have hx:=ofS h
    subst hx
    cases hb
   have hr:r.bad=false:=Bool.not_eq_true _▸c1
   rw [if_neg c1] at h
   by_cases c2:(wdM ws e r.p).k=2∧(wdM ws e r.p).t=[95]
   ·rw [if_pos c2] at h
    exact one hr h
   rw [if_neg c2] at h
   by_cases c3:(wdM ws e r.p).k=2
   ·rw [if_pos c3] at h
    exact one hr h
   rw [if_neg c3] at h
   by_cases c4:(wdM ws e r.p).k=1
   ·rw [if_pos c4] at h
    exact one hr h
   rw [if_neg c4] at h
   by_cases c5:(wdM ws e r.p).k=4∧(wdM ws e r.p).t=rR
   ·rw [if_pos c5] at h
    exact one hr h
   rw [if_neg c5] at h
   by_cases c6:(wdM ws e r.p).k=4∧(wdM ws e r.p).t=mS
   ·rw [if_pos c6] at h
    exact one hr h
   rw [if_neg c6] at h
   by_cases c7:isM ws e [40] r=true
   ·rw [if_pos c7] at h
    by_cases c8:(bN ws e [41] r.next).bad=true
    ·rw [if_pos c8] at h
     have hx:=ofS h
     subst hx
     cases hb
    ·rw [if_neg c8] at h
     have hx:=ofS h
     subst hx
     obtain ⟨k0,k1⟩:=dO (Bool.not_eq_true _▸c8)
     simp only [Fn.acc,nx,szT,szL,k1]
     exact ⟨hr,by omega⟩
   rw [if_neg c7] at h
   by_cases c8:(wdM ws e r.p).k=3
   ·rw [if_pos c8] at h
    by_cases c9:isM ws e [40] r.next=true
    ·rw [if_pos c9] at h
     obtain ⟨b,h1,h⟩:=aQ h
     obtain ⟨c,h2,h⟩:=aQ h
     have hq:x.2=bN ws e [41] c.2∧szT x.1=szT c.1:=by
      by_cases c10:(bN ws e [41] c.2).bad=true
      ·rw [if_pos c10] at h
       have hx:=ofS h
       subst hx
       exact ⟨rfl,rfl⟩
      ·rw [if_neg c10] at h
       have hx:=ofS h
       subst hx
       exact ⟨rfl,szT_end _ _⟩
     rw [hq.1] at hb ⊢
     obtain ⟨k0,k1⟩:=dO hb
     obtain ⟨k2,k3⟩:=g h2 k0
     obtain ⟨k4,k5⟩:=g h1 k2
     rw [hq.2,k1]
     simp only [Fn.acc,nx,szT_add,rM] at k3 k5 ⊢
     exact ⟨hr,by omega⟩
    ·rw [if_neg c9] at h
     exact one hr h
   rw [if_neg c8] at h
   have hx:=ofS h
   subst hx
   cases hb
  |long=>
   rw [parse] at h
   obtain ⟨y,h1,h⟩:=aQ h
   have hy:y.2.2.bad=false→r.bad=false∧(y.2.1≠[]→szL y.2.1+2+2*r.p≤2*y.2.2.p):=by
    intro hb
    unfold mM at h1
    split at h1
    ·obtain ⟨a,h2,h1⟩:=aQ h1
     have hx:=ofS h1
     subst hx
     obtain ⟨k1,k2⟩:=g h2 hb
     obtain ⟨k3,k4⟩:=dO k1
     obtain ⟨k5,k6⟩:=tE k3
     simp only [Fn.acc,nx,k4,k6,nF] at k2 ⊢
     exact ⟨k5,fun _=>by omega⟩
    ·split at h1
     ·obtain ⟨z,h2,h1⟩:=aQ h1
      obtain ⟨a,h3,h1⟩:=aQ h1
      obtain ⟨b,h4,h1⟩:=aQ h1
      have hx:=ofS h1
      subst hx
      obtain ⟨k1,k2⟩:=g h4 hb
      obtain ⟨k3,k4⟩:=dO k1
      obtain ⟨k5,k6⟩:=g h3 k3
      obtain ⟨k7,k8⟩:=dO k5
      have hz:r.bad=false∧r.p+2≤z.2.2.2.p:=by
       split at h2
       ·have hx:=ofS h2
        subst hx
        obtain ⟨q1,q2⟩:=tE k7
        obtain ⟨q3,q4⟩:=tE q1
        simp only [nx,q2,q4] at*
        exact ⟨q3,by omega⟩
       ·have hx:=ofS h2
        subst hx
        obtain ⟨q1,q2⟩:=tE k7
        simp only [nx,q2] at*
        exact ⟨q1,by omega⟩
      simp only [Fn.acc,k4,k8,szL_two] at k2 k6 ⊢
      exact ⟨hz.1,fun _=>by omega⟩
     ·split at h1
      ·obtain ⟨a,h2,h1⟩:=aQ h1
       obtain ⟨b,h3,h1⟩:=aQ h1
       obtain ⟨c,h4,h1⟩:=aQ h1
       have hx:=ofS h1
       subst hx
       obtain ⟨k1,k2⟩:=g h4 hb
       obtain ⟨k3,k4⟩:=dO k1
       obtain ⟨k5,k6⟩:=g h3 k3
       obtain ⟨k7,k8⟩:=dO k5
       obtain ⟨k9,k10⟩:=g h2 k7
       simp only [Fn.acc,nx,k4,k8,szL_three] at k2 k6 k10 ⊢
       exact ⟨k9,fun _=>by omega⟩
      ·split at h1
       ·obtain ⟨a,h2,h1⟩:=aQ h1
        obtain ⟨b,h3,h1⟩:=aQ h1
        have hx:=ofS h1
        subst hx
        obtain ⟨k1,k2⟩:=dO hb
        obtain ⟨k3,k4⟩:=g h3 k1
        obtain ⟨k5,k6⟩:=dO k3
        obtain ⟨k7,k8⟩:=g h2 k5
        simp only [Fn.acc,nx,k2,k6,nF,szT_eq b.1] at k4 k8 ⊢
        exact ⟨k7,fun _=>by omega⟩
       ·split at h1
        ·obtain ⟨a,h2,h1⟩:=aQ h1
         obtain ⟨b,h3,h1⟩:=aQ h1
         have hx:=ofS h1
         subst hx
         obtain ⟨k1,k2⟩:=dO hb
         obtain ⟨k3,k4⟩:=g h3 k1
         obtain ⟨k5,k6⟩:=dO k3
         obtain ⟨k7,k8⟩:=tE k5
         obtain ⟨k9,k10⟩:=dO k7
         obtain ⟨k11,k12⟩:=g h2 k9
         simp only [Fn.acc,nx,k2,k6,k8,k10,szL_two] at k4 k12 ⊢
         exact ⟨k11,fun _=>by omega⟩
        ·have hx:=ofS h1
         subst hx
         exact ⟨hb,fun h=>absurd rfl h⟩
   split at h
   ·have hx:=ofS h
    subst hx
    cases hb
   ·rename_i hn
    have hx:=ofS h
    subst hx
    obtain ⟨k1,k2⟩:=hy hb
    have k3:=k2 fun hh=>hn (.inr hh)
    simp only [Fn.acc,szT]
    exact ⟨k1,by omega⟩
end
end Go.Pg
namespace Go.Pg
structure Cn where
 nm:List UInt8
 args:List (List UInt8)
structure Dc where
 nm:List UInt8
 cons:List Cn
structure NV where
 x:Nd
 kids:List Nat
section
variable (ws:List Wd) (e:Nat)
def nZ:Nat→List (List UInt8)→Rs→Option (List (List UInt8) × Rs)
 |0,_,_=>none
 |n+1,l,r=>if isM ws e [44] r=true then nZ n (l++[(bI ws e 2 r.next).1]) (bI ws e 2 r.next).2 else some (l,r)
def nV:Nat→List Cn→Bool→Rs→Option (List Cn × Rs)
 |0,_,_,_=>none
 |n+1,l,more,r=>
  if more=true∧r.bad=false then
   (if isM ws e kOf (bI ws e 3 r).2=true then nZ ws e n [(bI ws e 2 (bI ws e 3 r).2.next).1] (bI ws e 2 (bI ws e 3 r).2.next).2 else some ([],(bI ws e 3 r).2)).bind fun a=>
    nV n (l++[⟨(bI ws e 3 r).1,a.1⟩]) (isM ws e [124] a.2) (if isM ws e [124] a.2=true then a.2.next else a.2)
  else some (l,r)
def gP:Nat→List Dc→Rs→Option (List Dc × Rs)
 |0,_,_=>none
 |n+1,l,r=>
  if isM ws e kType r=true then
   (nV ws e n [] true (bN ws e [61] (bI ws e 2 r.next).2)).bind fun a=>gP n (l++[⟨(bI ws e 2 r.next).1,a.1⟩]) (bN ws e kIn a.2)
  else some (l,r)
end
section
variable {ws:List Wd} {e:Nat}
theorem argsL_go:∀ (n:Nat) (l:List (List UInt8)) (r:Rs) (x),nZ ws e n l r=some x→Go1 ws r x.2
 |0,_,_,_,h=>by cases h
 |n+1,l,r,x,h=>by
  unfold nZ at h
  split at h
  ·rename_i hm
   exact (Go1.next (aW hm).2).trans ((cE (by decide) _).1.trans (argsL_go n _ _ _ h))
  ·cases ofS h;exact Go1.refl _
theorem sM:∀ (n:Nat) (l:List Cn) (more:Bool) (r:Rs) (x),nV ws e n l more r=some x→Go1 ws r x.2
 |0,_,_,_,_,h=>by cases h
 |n+1,l,more,r,x,h=>by
  unfold nV at h
  split at h
  ·obtain ⟨a,h1,h⟩:=aQ h
   have h2:=sM n _ _ _ _ h
   have h3:Go1 ws r a.2:=by
    split at h1
    ·rename_i hm
     exact (cE (by decide) _).1.trans ((Go1.next (aW hm).2).trans ((cE (by decide) _).1.trans (argsL_go _ _ _ _ h1)))
    ·cases ofS h1;exact (cE (by decide) _).1
   split at h2
   ·rename_i hm
    exact h3.trans ((Go1.next (aW hm).2).trans h2)
   ·exact h3.trans h2
  ·cases ofS h;exact Go1.refl _
theorem declsL_go:∀ (n:Nat) (l:List Dc) (r:Rs) (x),gP ws e n l r=some x→Go1 ws r x.2
 |0,_,_,_,h=>by cases h
 |n+1,l,r,x,h=>by
  unfold gP at h
  split at h
  ·rename_i hm
   obtain ⟨a,h1,h⟩:=aQ h
   exact (Go1.next (aW hm).2).trans ((cE (by decide) _).1.trans ((bG _ _).1.trans ((sM _ _ _ _ _ h1).trans ((bG _ _).1.trans (declsL_go n _ _ _ h)))))
  ·cases ofS h;exact Go1.refl _
theorem argsL_some:∀ (n:Nat) (l:List (List UInt8)) (r:Rs),r.p≤ws.length→left ws r<n→∃ x,nZ ws e n l r=some x
 |0,_,_,_,h=>by omega
 |n+1,l,r,hr,h=>by
  unfold nZ
  split
  ·rename_i hm
   have h2:=(Go2.next (aW hm).2).then (cE (e:=e) (k:=2) (by decide) _).1
   exact argsL_some n _ _ (h2.1.len hr) (by have:=lQ h2 (aW hm).1 hr;omega)
  ·exact ⟨_,rfl⟩
theorem qF:∀ (n:Nat) (l:List Cn) (more:Bool) (r:Rs),r.p≤ws.length→left ws r<n→∃ x,nV ws e n l more r=some x
 |0,_,_,_,_,h=>by omega
 |n+1,l,more,r,hr,h=>by
  unfold nV
  split
  ·rename_i hm
   have h0:=cE (ws:=ws) (e:=e) (k:=3) (by decide) r
   have l0:=lQ h0 hm.2 hr
   have key:∀ {a:List (List UInt8) × Rs},(if isM ws e kOf (bI ws e 3 r).2=true then nZ ws e n [(bI ws e 2 (bI ws e 3 r).2.next).1] (bI ws e 2 (bI ws e 3 r).2.next).2 else some ([],(bI ws e 3 r).2))=some a→Go2 ws r a.2:=fun h1=>by
    split at h1
    ·rename_i hm
     exact h0.then ((Go1.next (aW hm).2).trans ((cE (by decide) _).1.trans (argsL_go _ _ _ _ h1)))
    ·cases ofS h1;exact h0
   refine cT ?_ fun a h1=>?_
   ·split
    ·rename_i hm2
     have h2:=h0.then ((Go1.next (aW hm2).2).trans (cE (e:=e) (k:=2) (by decide) _).1)
     exact argsL_some n _ _ (h2.1.len hr) (by have:=lQ h2 hm.2 hr;omega)
    ·exact ⟨_,rfl⟩
   ·have h2:=key h1
    split
    ·rename_i hm2
     have h3:=h2.then (Go1.next (aW hm2).2)
     exact qF n _ _ _ (h3.1.len hr) (by have:=lQ h3 hm.2 hr;omega)
    ·exact qF n _ _ _ (h2.1.len hr) (by have:=lQ h2 hm.2 hr;omega)
  ·exact ⟨_,rfl⟩
theorem declsL_some:∀ (n:Nat) (l:List Dc) (r:Rs),r.p≤ws.length→left ws r<n→∃ x,gP ws e n l r=some x
 |0,_,_,_,h=>by omega
 |n+1,l,r,hr,h=>by
  unfold gP
  split
  ·rename_i hm
   have h2:=(Go2.next (aW hm).2).then ((cE (e:=e) (k:=2) (by decide) _).1.trans (bG (e:=e) [61] _).1)
   refine cT (qF n _ _ _ (h2.1.len hr) (by have:=lQ h2 (aW hm).1 hr;omega)) fun a h1=>?_
   have h3:=h2.then ((sM _ _ _ _ _ h1).trans (bG (e:=e) kIn _).1)
   exact declsL_some n _ _ (h3.1.len hr) (by have:=lQ h3 (aW hm).1 hr;omega)
  ·exact ⟨_,rfl⟩
end
def eM:Nat→List Tm→List Nat
 |_,[]=>[]
 |p,t::l=>p::eM (p+szT t) l
mutual
def flT (p:Nat):Tm→List NV
 | .mk x l=>⟨x,eM (p+1) l⟩::flL (p+1) l
def flL (p:Nat):List Tm→List NV
 |[]=>[]
 |t::l=>flT p t++flL (p+szT t) l
end
mutual
def dpT (p deep:Nat) (cur:Int):Tm→Int
 | .mk x l=>dpL (p+1) (deep+1) (if cur<0∧(1000≤p∨60<deep) then x.fr else cur) l
def dpL (p deep:Nat) (cur:Int):List Tm→Int
 |[]=>cur
 |t::l=>dpL (p+szT t) deep (dpT p deep cur t) l
end
mutual
theorem flT_len (p:Nat):∀ t:Tm,(flT p t).length=szT t
 | .mk x l=>by rw [flT,szT,List.length_cons,flL_len (p+1) l,Nat.add_comm]
theorem flL_len (p:Nat):∀ l:List Tm,(flL p l).length=szL l
 |[]=>rfl
 |t::l=>by rw [flL,szL,List.length_append,flT_len p t,flL_len _ l]
end
theorem mV:∀ (l:List Tm) (p:Nat),(eM p l).length=l.length
 |[],_=>rfl
 |t::l,p=>by rw [eM,List.length_cons,mV l,List.length_cons]
def oneW (k:Int) (s:List UInt8):Bool:=if 4000<s.length then false else match lexA s with
 | .ok [w]=>decide (w.k=k)&&decide (w.t=s)
 |_=>false
def tB (s:List UInt8):Bool:=oneW 2 s&&decide (s≠[95])
def conM (s:List UInt8):Bool:=oneW 3 s
def fG:List Int:=[-1,0,0,0,0,-2,1,2,2,2,3,-3,2,2,2,1,1,1,0,1,2,0,0,0,0,0,-2]
def iJ (k:Int) (n:Nat):Bool:=
 if fG.getD k.toNat 0= -2 then decide (n≤3) else if fG.getD k.toNat 0= -3 then decide (3≤n)&&decide (n % 2=1) else decide ((n:Int)=fG.getD k.toNat 0)
def gI (k n:Int):Bool:=
 if k=1∨k=23 then decide (0≤n)&&decide (n≤4611686018427387903) else if k=2∨k=24 then decide (n=0)||decide (n=1) else decide (n=0)
def fY (k:Int) (nm:List UInt8):Bool:=
 if k=4∨k=8∨k=9∨k=22 then tB nm else if k=5∨k=26 then conM nm
 else if k=14 then decide (nm=[43])||decide (nm=[45])||decide (nm=[42])||decide (nm=[60])||decide (nm=[61]) else decide (nm=[])
def mG (k:Int) (pm:List UInt8):Bool:=if k=6∨k=9∨k=20 then tB pm else decide (pm=[])
def bS (v:NV):Bool:=decide (1≤v.x.k)&&decide (v.x.k≤26)&&iJ v.x.k v.kids.length&&gI v.x.k v.x.n&&fY v.x.k v.x.nm&&mG v.x.k v.x.pm
def ofC (s:List UInt8):Nat→List Cn→Option (Nat × Nat)
 |_,[]=>none
 |c,x::l=>if x.nm=s then some (c,x.args.length) else ofC s (c+1) l
def ofD (s:List UInt8):Nat→List Dc→Option (Nat × Nat × Nat)
 |_,[]=>none
 |d,x::l=>match ofC s 0 x.cons with
  |some (c,n)=>some (d,c,n)
  |none=>ofD s (d+1) l
def cM:List (List UInt8)→Bool
 |[]=>false
 |s::l=>l.contains s||cM l
section
variable (N:List NV) (D:List Dc)
def bH:Nat→Nat→List (List UInt8)
 |0,_=>[]
 |n+1,p=>match N[p]? with
  |none=>[]
  |some v=>if v.x.k=22 then [v.x.nm] else v.kids.flatMap fun k=>if p<k∧k<N.length∧v.x.k=26 then bH n k else []
def eV (q:Nat→Bool→Option Nat) (pat:Nat→Bool):List Nat→Nat→Nat→Option Nat
 |[],_,next=>some next
 |k::l,i,next=>if k=next then (q next (pat i)).bind fun next=>eV q pat l (i+1) next else none
def bT:Nat→Nat→Bool→Option Nat
 |0,_,_=>none
 |n+1,p,pat=>match N[p]? with
  |none=>none
  |some v=>
   if bS v=true∧decide (v.x.k>20)=pat∧(v.x.k=5∨v.x.k=26→∃ x,ofD v.x.nm 0 D=some x∧x.2.2=v.kids.length) then
    (eV (bT n) (fun i=>pat||(decide (v.x.k=11)&&decide (i % 2=1))) v.kids 0 (p+1)).bind fun next=>
     if v.x.k=11∧∃ i,i<v.kids.length∧i % 2=1∧cM (bH N N.length (v.kids.getD i 0))=true then none else some next
   else none
def eB (s:List UInt8):Bool:=decide (s=[105,110,116])||decide (s=[98,111,111,108])||decide (s=[117,110,105,116])
def eE:Bool:=
 D.all (fun d=>tB d.nm&&!eB d.nm&&decide (1≤d.cons.length)&&decide (d.cons.length≤20)&&d.cons.all fun c=>conM c.nm&&decide (c.args.length≤3))
 &&decide (D.length≤20)&&!cM (D.map (·.nm))&&!cM (D.flatMap fun d=>d.cons.map (·.nm))
 &&D.all fun d=>d.cons.all fun c=>c.args.all fun a=>(D.map (·.nm)).contains a||eB a
def lH:Bool:=decide (1≤N.length)&&decide (N.length≤1000)&&eE D&&decide (bT N D 60 0 false=some N.length)
end
def docP (S:List UInt8):Option (List NV × List Dc):=match lexA S with
 | .error _=>none
 | .ok ws=>(gP ws S.length (ws.length+2) [] ⟨0,false⟩).bind fun d=>(parse ws S.length ((ws.length+2)*16) .expr d.2).bind fun t=>
  if t.2.bad=true∨t.2.p<ws.length then none
  else if 0≤dpT 0 1 (-1) t.1 then none
  else if lH (flT 0 t.1) d.1=true then some (flT 0 t.1,d.1) else none
end Go.Pg
namespace Go.Pg
structure NodeOK (N:List NV) (D:List Dc) (i:Nat) (v:NV):Prop where
 shape:bS v=true
 con:v.x.k=5∨v.x.k=26→∃ x,ofD v.x.nm 0 D=some x∧x.2.2=v.kids.length
 kid:∀ j (h:j<v.kids.length),i<v.kids[j]∧∃ u,N[v.kids[j]]?=some u∧decide (u.x.k>20)=(decide (v.x.k>20)||(decide (v.x.k=11)&&decide (j % 2=1)))
 arms:v.x.k=11→∀ j (h:j<v.kids.length),j % 2=1→cM (bH N N.length v.kids[j])=false
section
variable {N:List NV} {D:List Dc}
theorem pE {q:Nat→Bool→Option Nat} {R:Nat→Prop} {S:Nat→Bool→Prop} (hq:∀ p b e,q p b=some e→p<e∧S p b∧∀ i,p≤i→i<e→R i) (pat:Nat→Bool):
  ∀ (l:List Nat) (i next e:Nat),eV q pat l i next=some e→next≤e∧(∀ j (h:j<l.length),next≤l[j]∧l[j]<e∧S l[j] (pat (i+j)))∧∀ j,next≤j→j<e→R j
 |[],i,next,e,h=>by
  cases ofS h
  exact ⟨Nat.le_refl _,fun j h=>absurd h (Nat.not_lt_zero _),fun j h1 h2=>by omega⟩
 |k::l,i,next,e,h=>by
  rw [eV] at h
  split at h
  ·rename_i hk
   subst hk
   obtain ⟨a,h1,h⟩:=aQ h
   obtain ⟨p1,p2,p3⟩:=hq _ _ _ h1
   obtain ⟨q1,q2,q3⟩:=pE hq pat l (i+1) a e h
   refine ⟨by omega,?_,?_⟩
   ·intro j hj
    cases j with
    |zero=>exact ⟨Nat.le_refl _,by simp only [List.getElem_cons_zero];omega,p2⟩
    |succ j=>
     obtain ⟨r1,r2,r3⟩:=q2 j (by simpa using hj)
     simp only [List.getElem_cons_succ]
     exact ⟨by omega,r2,by rw [show i+(j+1)=i+1+j by omega];exact r3⟩
   ·intro j h1 h2
    by_cases h3:j<a
    ·exact p3 j h1 h3
    ·exact q3 j (by omega) h2
  ·cases h
theorem iG:∀ (n p:Nat) (pat:Bool) (e:Nat),bT N D n p pat=some e→p<e∧(∃ v,N[p]?=some v∧decide (v.x.k>20)=pat)∧∀ i,p≤i→i<e→∃ v,N[i]?=some v∧NodeOK N D i v
 |0,_,_,_,h=>by cases h
 |n+1,p,pat,e,h=>by
  rw [bT] at h
  split at h
  ·cases h
  ·rename_i v hv
   split at h
   ·rename_i hs
    obtain ⟨a,h1,h⟩:=aQ h
    split at h
    ·cases h
    ·rename_i ht
     have hx:=ofS h
     subst hx
     obtain ⟨q1,q2,q3⟩:=pE (R:=fun i=>∃ v,N[i]?=some v∧NodeOK N D i v) (S:=fun p b=>∃ v,N[p]?=some v∧decide (v.x.k>20)=b) (iG n) _ _ _ _ _ h1
     refine ⟨by omega,⟨v,hv,hs.2.1⟩,fun i h2 h3=>?_⟩
     by_cases h4:i=p
     ·subst h4
      refine ⟨v,hv,hs.1,hs.2.2,?_,?_⟩
      ·intro j hj
       obtain ⟨r1,r2,u,r3,r4⟩:=q2 j hj
       refine ⟨by omega,u,r3,?_⟩
       rw [r4,hs.2.1,Nat.zero_add]
      ·intro h11 j hj h5
       cases h6:cM (bH N N.length v.kids[j]) with
       |false=>rfl
       |true=>exact absurd ⟨h11,j,hj,h5,by simpa [List.getD,hj] using h6⟩ ht
     ·exact q3 i (by omega) h3
   ·cases h
structure GoodT (N:List NV) (D:List Dc):Prop where
 pos:1≤N.length
 most:N.length≤1000
 types:eE D=true
 node:∀ i (h:i<N.length),NodeOK N D i N[i]
 walk:bT N D 60 0 false=some N.length
 root:∀ h:0<N.length,¬ N[0].x.k>20
theorem good_of (h:lH N D=true):GoodT N D:=by
 unfold lH at h
 simp only [Bool.and_eq_true,decide_eq_true_eq] at h
 obtain ⟨⟨⟨h1,h2⟩,h3⟩,h4⟩:=h
 obtain ⟨p1,⟨v,p2,p3⟩,p4⟩:=iG _ _ _ _ h4
 refine ⟨h1,h2,h3,fun i hi=>?_,h4,fun h=>?_⟩
 ·obtain ⟨v,q1,q2⟩:=p4 i (Nat.zero_le _) hi
  rw [List.getElem?_eq_getElem hi] at q1
  cases q1
  exact q2
 ·rw [List.getElem?_eq_getElem h] at p2
  cases p2
  simpa using p3
end
theorem docP_good {S:List UInt8} {x:List NV × List Dc} (h:docP S=some x):GoodT x.1 x.2:=by
 unfold docP at h
 split at h
 ·cases h
 ·obtain ⟨d,_,h⟩:=aQ h
  obtain ⟨t,_,h⟩:=aQ h
  split at h
  ·cases h
  ·split at h
   ·cases h
   ·split at h
    ·rename_i hg
     have hx:=ofS h
     subst hx
     exact good_of hg
    ·cases h
end Go.Pg
namespace Go.Pg
open Go.Proofs Go.Utf8 Go.Lib
set_option linter.unusedSimpArgs false
def kt (w:Wd):Int × List UInt8:=(w.k,w.t)
def wW (k:Int) (t:List UInt8):Wd:=⟨k,t,0,0⟩
theorem good_of_wrd {k:Int} {t:List UInt8} (h:cU t=(k,t)) (hk:k≠0) (ht:t≠[]):Good (wW k t):=by
 have:=isW_of (L:=t) (by rw [h];exact hk)
 rw [h] at this
 exact ⟨[],by simpa [wW] using ht,by simpa [wW] using this⟩
def glue1:List Wd→List UInt8
 |[]=>[]
 |w::r=>w.t++glue r
theorem lexA_glue1 (w:Wd) (r:List Wd) (hg:∀ x∈w::r,Good x) (hc:(w::r).length≤2000):∃ ws',lexA (glue1 (w::r))=.ok ws'∧ws'.map kt=(w::r).map kt:=by
 obtain ⟨R,hne,hw⟩:=hg w (by simp)
 have ht:=(hw.ne hne).1
 have hw':=hw.alone hne (glue_hd r)
 have hne':w.t++glue r≠[]:=by simp [ht]
 have es:skp (w.t++glue r)=(0,true):=skp_word hne' hw' (glue_hd r)
 have hk:=hw.kind
 have hl:=List.length_pos_iff.2 ht
 obtain ⟨ws',h1,h2⟩:=lexL_glue r (w.t++glue r).length (0+0+w.t.length) (0+1) (fun x hx=>hg x (by simp [hx])) (.inr (by simp only [List.length_cons] at hc;omega)) (by rw [List.length_append];omega)
 have h2:ws'.map kt=r.map kt:=h2
 refine ⟨⟨w.k,w.t,0+0,0+0+w.t.length⟩::ws',?_,by rw [List.map_cons,List.map_cons,h2];rfl⟩
 unfold glue1 lexA jI
 rw [es]
 simp only [if_true,List.drop_zero]
 rw [if_neg hne',hw'.eq]
 simp only
 rw [if_neg (by omega),if_neg (by omega),List.drop_left,h1]
section
variable {ws:List Wd} {e:Nat}
def At (ws:List Wd) (e p:Nat) (k:Int) (t:List UInt8):Prop:=(wdM ws e p).k=k∧(wdM ws e p).t=t
theorem at_map {l:List Wd} (h:ws.map kt=l.map kt) {p:Nat} (hp:p<l.length):At ws e p l[p].k l[p].t:=by
 have hl:ws.length=l.length:=by have:=congrArg List.length h;simpa using this
 have hw:p<ws.length:=by omega
 have e1:(ws.map kt)[p]?=(l.map kt)[p]?:=by rw [h]
 simp only [List.getElem?_map,List.getElem?_eq_getElem hp,List.getElem?_eq_getElem hw,Option.map_some,Option.some.injEq] at e1
 have e2:kt ws[p]=kt l[p]:=e1
 unfold At wdM
 rw [dif_pos hw]
 exact ⟨congrArg Prod.fst e2,congrArg Prod.snd e2⟩
def Suf (ws:List Wd) (e p:Nat) (l:List Wd):Prop:=∀ i (hi:i<l.length),At ws e (p+i) l[i].k l[i].t
theorem Suf.app {p:Nat} {a b:List Wd} (h:Suf ws e p (a++b)):Suf ws e p a∧Suf ws e (p+a.length) b:=by
 constructor
 ·intro i hi
  have:=h i (by rw [List.length_append];omega)
  rwa [List.getElem_append_left hi] at this
 ·intro i hi
  have:=h (a.length+i) (by rw [List.length_append];omega)
  rw [List.getElem_append_right (by omega)] at this
  simpa [Nat.add_assoc] using this
def Stop (ws:List Wd) (e:Nat) (r:Rs):Prop:=r.bad=false∧eA ws e r=false∧∀ s∈([[59],[58,61],[60],[61],[43],[45],[42]]:List (List UInt8)),isM ws e s r=false
theorem stop_word {p:Nat} {k:Int} {t:List UInt8} (h:At ws e p k t) (hk:3<k) (ht:t=[124]∨t=qU∨t=iN):Stop ws e ⟨p,false⟩:=by
 obtain ⟨h1,h2⟩:=h
 refine ⟨rfl,?_,?_⟩
 ·unfold eA
  simp only [h1,h2]
  rw [if_neg (by simp;omega),if_neg (by omega)]
  rcases ht with rfl|rfl|rfl<;>(rw [Bool.and_eq_false_iff];exact .inr (by decide))
 ·intro s hs
  unfold isM
  simp only [h1,h2]
  simp only [List.mem_cons,List.not_mem_nil,or_false] at hs
  rw [Bool.and_eq_false_iff,Bool.and_eq_false_iff]
  refine .inr (.inr ?_)
  rcases ht with rfl|rfl|rfl<;>rcases hs with rfl|rfl|rfl|rfl|rfl|rfl|rfl<;>decide
theorem stop_end {p:Nat} (h:ws.length≤p):Stop ws e ⟨p,false⟩:=by
 have hw:wdM ws e p=⟨0,[],e,e⟩:=by unfold wdM;rw [dif_neg (by omega)]
 refine ⟨rfl,?_,?_⟩
 ·unfold eA
  rw [if_pos (.inr (by rw [hw]))]
 ·intro s _
  unfold isM
  rw [hw]
  try rfl
theorem rK {m:Nat} {r r':Rs} {a:Tm} (h:parse ws e (m+1) .atom r=some (a,r')) (hp:preK ws e r=none) (hs:Stop ws e r'):parse ws e (m+8) .expr r=some (a,r'):=by
 obtain ⟨h1,h2,h3⟩:=hs
 have e1:parse ws e (m+2) .pre r=some (a,r'):=by rw [parse,hp];exact h
 have e2:parse ws e (m+2) (.appL a) r'=some (a,r'):=by rw [parse,if_neg (by simp [h2])]
 have e3:parse ws e (m+3) .app r=some (a,r'):=by rw [parse,e1,Option.bind_some,e2]
 have e4:parse ws e (m+3) (.mulL a) r'=some (a,r'):=by rw [parse,if_neg (by simp [h3 [42] (by simp)])]
 have e5:parse ws e (m+4) .mul r=some (a,r'):=by rw [parse,e3,Option.bind_some,e4]
 have e6:parse ws e (m+4) (.sumL a) r'=some (a,r'):=by rw [parse,if_neg (by simp [h1]),if_neg (by simp [h3 [43] (by simp)]),if_neg (by simp [h3 [45] (by simp)])]
 have e7:parse ws e (m+5) .sum r=some (a,r'):=by rw [parse,e5,Option.bind_some,e6]
 have e8:parse ws e (m+6) .cmp r=some (a,r'):=by rw [parse,e7,Option.bind_some,if_neg (by simp [h3 [60] (by simp)]),if_neg (by simp [h3 [61] (by simp)])]
 have e9:parse ws e (m+7) .set r=some (a,r'):=by rw [parse,e8,Option.bind_some,if_neg (by simp [h3 [58,61] (by simp)])]
 rw [parse,e9,Option.bind_some,if_neg (by simp [h3 [59] (by simp)])]
theorem ctK_none {p:Nat} {k:Int} {t:List UInt8} (h:At ws e p k t) (hk:k≤3∨t=iQ):preK ws e ⟨p,false⟩=none:=by
 have hn:∀ s∈([kRef,[33],kPrint,kRaise]:List (List UInt8)),isM ws e s ⟨p,false⟩=false:=by
  intro s hs
  unfold isM
  simp only [h.1,h.2]
  rcases hk with hk|rfl
  ·rw [decide_eq_false (by omega)];simp
  ·rw [Bool.and_eq_false_iff,Bool.and_eq_false_iff]
   refine .inr (.inr ?_)
   simp only [List.mem_cons,List.not_mem_nil,or_false] at hs
   rcases hs with rfl|rfl|rfl|rfl<;>decide
 unfold preK
 rw [if_neg (by simp [hn kRef (by simp)]),if_neg (by simp [hn [33] (by simp)]),if_neg (by simp [hn kPrint (by simp)]),if_neg (by simp [hn kRaise (by simp)])]
theorem parse_num {n p:Nat} {t:List UInt8} (h:At ws e p 1 t) (hs:Stop ws e ⟨p+1,false⟩):parse ws e (n+8) .expr ⟨p,false⟩=some (dV ws e 1 (mW t 0) [] ⟨p,false⟩,⟨p+1,false⟩):=by
 refine rK ?_ (ctK_none h (.inl (by decide))) hs
 have hb:eA ws e ⟨p,false⟩=true:=by
  unfold eA
  simp only [h.1]
  try rfl
 rw [parse,if_pos hb]
 simp only [h.1,h.2]
 try rfl
theorem parse_var {n p:Nat} {t:List UInt8} (h:At ws e p 2 t) (ht:t≠[95]) (hs:Stop ws e ⟨p+1,false⟩):parse ws e (n+8) .expr ⟨p,false⟩=some (dV ws e 4 0 t ⟨p,false⟩,⟨p+1,false⟩):=by
 refine rK ?_ (ctK_none h (.inl (by decide))) hs
 have hb:eA ws e ⟨p,false⟩=true:=by
  unfold eA
  simp only [h.1,h.2]
  rw [if_neg (by simp),if_pos (.inr (.inr ⟨trivial,ht⟩))]
 rw [parse,if_pos hb]
 simp only [h.1,h.2]
 try rfl
theorem parse_patn {n p:Nat} {t:List UInt8} (h:At ws e p 1 t):parse ws e (n+1) .pat ⟨p,false⟩=some (dV ws e 23 (mW t 0) [] ⟨p,false⟩,⟨p+1,false⟩):=by
 rw [parse,if_neg (by simp)]
 simp only [h.1,h.2]
 try rfl
theorem oZ {p:Nat} {k:Int} {t:List UInt8} (h:At ws e p k t) (hk:3<k):isM ws e t ⟨p,false⟩=true∧bN ws e t ⟨p,false⟩=⟨p+1,false⟩:=by
 have:isM ws e t ⟨p,false⟩=true:=by
  unfold isM
  simp only [h.1,h.2]
  simpa using hk
 exact ⟨this,by unfold bN;rw [if_pos this];rfl⟩
def jT (d:UInt8):List Wd:=[wW 1 [d],wW 5 [45,62],wW 1 [49],wW 5 [124]]
def kV:List Wd:=[wW 1 [56],wW 5 [45,62],wW 1 [50],wW 4 qU]
def kM (ws:List Wd) (e:Nat):Nat→List UInt8→List Tm
 |p,[]=>[dV ws e 23 (mW [56] 0) [] ⟨p,false⟩,dV ws e 1 (mW [50] 0) [] ⟨p+2,false⟩]
 |p,d::ds=>dV ws e 23 (mW [d] 0) [] ⟨p,false⟩::dV ws e 1 (mW [49] 0) [] ⟨p+2,false⟩::kM ws e (p+4) ds
theorem parse_arms:∀ (ds:List UInt8) (p n:Nat) (k:List Tm),Suf ws e p (ds.flatMap jT++kV)→parse ws e (n+ds.length+10) (.armL k true) ⟨p,false⟩=some (.mk { k:=0 } (k++kM ws e p ds),⟨p+4*ds.length+3,false⟩)
 |[],p,n,k,h=>by
  have h0:At ws e p 1 [56]:=h 0 (by decide)
  have h1:At ws e (p+1) 5 [45,62]:=h 1 (by decide)
  have h2:At ws e (p+2) 1 [50]:=h 2 (by decide)
  have h3:At ws e (p+3) 4 qU:=h 3 (by decide)
  have hno:isM ws e [124] ⟨p+3,false⟩=false:=by
   unfold isM
   simp only [h3.1,h3.2]
   decide
  rw [List.length_nil,Nat.add_zero,parse,if_pos ⟨rfl,rfl⟩,parse_patn h0,Option.bind_some]
  simp only
  rw [(oZ h1 (by decide)).2,show n+9=(n+1)+8 by omega,parse_num h2 (stop_word h3 (by decide) (.inr (.inl rfl))),Option.bind_some]
  simp only
  rw [hno,if_neg (by simp),parse,if_neg (by simp)]
  simp [kM]
 |d::ds,p,n,k,h=>by
  have h:Suf ws e p (jT d++(ds.flatMap jT++kV)):=by
   rw [List.flatMap_cons,List.append_assoc] at h
   exact h
  obtain ⟨ha,hb⟩:=h.app
  have h0:At ws e p 1 [d]:=ha 0 (by simp [jT])
  have h1:At ws e (p+1) 5 [45,62]:=ha 1 (by simp [jT])
  have h2:At ws e (p+2) 1 [49]:=ha 2 (by simp [jT])
  have h3:At ws e (p+3) 5 [124]:=ha 3 (by simp [jT])
  have ih:=parse_arms ds (p+4) n (k++[dV ws e 23 (mW [d] 0) [] ⟨p,false⟩]++[dV ws e 1 (mW [49] 0) [] ⟨p+2,false⟩]) hb
  rw [show n+(d::ds).length+10=(n+ds.length+10)+1 by simp;omega,parse,if_pos ⟨rfl,rfl⟩,show n+ds.length+10=(n+ds.length+9)+1 by omega,parse_patn h0,Option.bind_some]
  simp only
  rw [(oZ h1 (by decide)).2,show n+ds.length+9+1=(n+ds.length+2)+8 by omega,parse_num h2 (stop_word h3 (by decide) (.inl rfl)),Option.bind_some]
  simp only
  rw [(oZ h3 (by decide)).1,if_pos rfl]
  rw [show n+ds.length+2+8=n+ds.length+10 by omega]
  rw [show (Rs.next ⟨p+2+1,false⟩)=(⟨p+4,false⟩:Rs) from rfl,ih]
  congr 1
  rw [Prod.mk.injEq]
  refine ⟨by simp [kM],?_⟩
  congr 1
  simp
  omega
theorem armsT_len:∀ (ds:List UInt8) (p:Nat),(kM ws e p ds).length=2*ds.length+2
 |[],_=>rfl
 |d::ds,p=>by simp [kM,armsT_len ds];omega
def wsG (ds:List UInt8):List Wd:=[wW 4 iQ,wW 2 [120],wW 4 iN]++(ds.flatMap jT++kV)
theorem armW_len:∀ ds:List UInt8,(ds.flatMap jT).length=4*ds.length
 |[]=>rfl
 |d::ds=>by rw [List.flatMap_cons,List.length_append,armW_len ds,List.length_cons];simp [jT];omega
theorem wsG_len (ds:List UInt8):(wsG ds).length=7+4*ds.length:=by
 unfold wsG
 rw [List.length_append,List.length_append,armW_len]
 simp [kV]
 omega
theorem parse_match {ds:List UInt8} {n:Nat} (h:Suf ws e 0 (wsG ds)) (hl:ws.length=(wsG ds).length):
  ∃ fr to,parse ws e (n+ds.length+30) .expr ⟨0,false⟩=some (.mk ⟨11,0,[],[],fr,to⟩ (dV ws e 4 0 [120] ⟨1,false⟩::kM ws e 3 ds),⟨ws.length,false⟩):=by
 obtain ⟨ha,hb⟩:=Suf.app (show Suf ws e 0 ([wW 4 iQ,wW 2 [120],wW 4 iN]++(ds.flatMap jT++kV)) from h)
 have h0:At ws e 0 4 iQ:=ha 0 (by decide)
 have h1:At ws e 1 2 [120]:=ha 1 (by decide)
 have h2:At ws e 2 4 iN:=ha 2 (by decide)
 have hlen:=wsG_len ds
 have hend:At ws e (3+4*ds.length+3) 4 qU:=by
  have hx:Suf ws e 3 (ds.flatMap jT++kV):=hb
  have:=(Suf.app hx).2 3 (by decide)
  rw [armW_len] at this
  exact this
 have ho:∀ s∈([kFun,kLet,kIf]:List (List UInt8)),isM ws e s ⟨0,false⟩=false:=by
  intro s hs
  unfold isM
  simp only [h0.1,h0.2]
  rw [Bool.and_eq_false_iff,Bool.and_eq_false_iff]
  refine .inr (.inr ?_)
  simp only [List.mem_cons,List.not_mem_nil,or_false] at hs
  rcases hs with rfl|rfl|rfl<;>decide
 have hlong:∃ fr to,parse ws e (n+ds.length+22) .long ⟨0,false⟩=some (.mk ⟨11,0,[],[],fr,to⟩ (dV ws e 4 0 [120] ⟨1,false⟩::kM ws e 3 ds),⟨ws.length,false⟩):=by
  rw [parse]
  unfold mM
  rw [if_neg (by simp [ho kFun (by simp)]),if_neg (by simp [ho kLet (by simp)]),if_neg (by simp [ho kIf (by simp)]),if_pos (oZ h0 (by decide)).1]
  rw [show (Rs.next ⟨0,false⟩)=(⟨1,false⟩:Rs) from rfl,show n+ds.length+21=(n+ds.length+13)+8 by omega,parse_var h1 (by decide) (stop_word h2 (by decide) (.inr (.inr rfl))),Option.bind_some]
  simp only
  rw [(oZ h2 (by decide)).2,show n+ds.length+13+8=(n+11)+ds.length+10 by omega,parse_arms ds 3 (n+11) _ hb,Option.bind_some]
  simp only
  rw [(oZ hend (by decide)).2,Option.bind_some]
  simp only
  rw [if_neg (by simp [Tr.args])]
  refine ⟨(((wdM ws e 0).fr:Nat):Int),lC ws e ⟨ws.length,false⟩,?_⟩
  rw [show 3+4*ds.length+3+1=ws.length by omega]
  try rfl
 obtain ⟨fr,to,hlong⟩:=hlong
 refine ⟨fr,to,?_⟩
 rw [show n+ds.length+30=(n+ds.length+22)+8 by omega]
 refine rK ?_ (ctK_none h0 (.inr rfl)) (stop_end (Nat.le_refl _))
 have hbg:eA ws e ⟨0,false⟩=true:=by
  unfold eA
  simp only [h0.1,h0.2]
  decide
 rw [parse,if_pos hbg]
 simp only [h0.1,h0.2]
 rw [if_neg (by decide),if_neg (by decide),if_neg (by decide),if_neg (by decide),if_neg (by decide),if_neg (by decide),if_neg (by decide)]
 exact hlong
end
end Go.Pg
namespace Go.Pg
open Go.Proofs Go.Utf8 Go.Lib
def Shift (L:List UInt8) (m:Nat):Prop:=m≤L.length∧skp L=((skp (L.drop m)).1+m,(skp (L.drop m)).2)
theorem shift_blank {L:List UInt8} (hL:L≠[]) (hb:blk (bM L).1=true):Shift L (bM L).2:=by
 refine ⟨(dE hL).2,?_⟩
 have e:run blk L=(bM L).2+run blk (L.drop (bM L).2):=by rw [dG hL,if_pos hb]
 rw [iI L,iI (L.drop (bM L).2),e]
 simp only [List.drop_drop,Nat.add_assoc]
 split
 ·split
  ·simp only [Nat.add_comm]
  ·simp only [Prod.mk.injEq,and_true]
   omega
 ·simp only [Nat.add_comm]
theorem run_rem {L:List UInt8} (h2:L.take 2=[40,42]):run blk L=0:=by
 obtain ⟨r,rfl⟩:∃ r,L=40::r:=by
  cases L with
  |nil=>cases h2
  |cons a r=>exact ⟨r,by simp at h2;rw [h2.1]⟩
 exact run_stop (by decide) (by decide+kernel)
theorem rem_none {L:List UInt8} (h2:L.take 2=[40,42]) (h:rmk L.length L 0=none):skp L=(0,false):=by
 rw [iI,run_rem h2,List.drop_zero,if_pos h2,h]
theorem shift_rem {L:List UInt8} {m:Nat} (h2:L.take 2=[40,42]) (h:rmk L.length L 0=some m):Shift L m:=by
 refine ⟨(gY _ _ _ _ h).2,?_⟩
 rw [iI,run_rem h2,List.drop_zero,if_pos h2,h]
 simp only [Nat.zero_add,Prod.mk.injEq,and_true]
 omega
theorem skp_here {L:List UInt8} (hL:L≠[]) (hb:blk (bM L).1=false) (h2:L.take 2≠[40,42]):skp L=(0,true):=by
 have e:run blk L=0:=by rw [dG hL,if_neg (by rw [hb];simp)]
 rw [iI,e,List.drop_zero,if_neg h2]
theorem lexL_shift {L:List UInt8} {m:Nat} (h:Shift L m) (f at' c:Nat):jI f L at' c=jI f (L.drop m) (at'+m) c:=by
 cases f with
 |zero=>rfl
 |succ f=>
  have e:at'+((skp (L.drop m)).1+m)=at'+m+(skp (L.drop m)).1:=by omega
  have e2:L.drop ((skp (L.drop m)).1+m)=(L.drop m).drop (skp (L.drop m)).1:=by rw [List.drop_drop,Nat.add_comm]
  unfold jI
  rw [h.2]
  simp only [e,e2]
theorem lexL_rem {L:List UInt8} (h2:L.take 2=[40,42]) (h:rmk L.length L 0=none) (f at' c:Nat):jI (f+1) L at' c=.error (3,at'):=by
 unfold jI
 rw [rem_none h2 h]
 try rfl
theorem lexL_word {L:List UInt8} (hL:L≠[]) (hs:skp L=(0,true)) (f at' c:Nat) (hf:L.length<f):jI f L at' c=
  if (cU L).1=0 then .error (3,at') else if 2000≤c then .error (2,at')
  else match jI f (L.drop (cU L).2.length) (at'+(cU L).2.length) (c+1) with
   | .ok l=>.ok (⟨(cU L).1,(cU L).2,at',at'+(cU L).2.length⟩::l)
   | .error e=>.error e:=by
 obtain ⟨g,rfl⟩:∃ g,f=g+1:=⟨f - 1,by omega⟩
 conv=>lhs;unfold jI
 rw [hs]
 simp only [if_true,List.drop_zero,Nat.add_zero]
 rw [if_neg hL]
 by_cases h5:(cU L).1=0
 ·rw [if_pos h5,if_pos h5]
 ·rw [if_neg h5,if_neg h5]
  have hn:=(isW_of h5).ne hL
  have hl:1≤(cU L).2.length:=List.length_pos_iff.2 hn.1
  rw [lexL_fuel g (g+1) _ _ _ (by rw [List.length_drop];omega) (by rw [List.length_drop];omega)]
  try rfl
theorem lexL_end (f at' c:Nat):jI f [] at' c=.ok []:=by
 cases f with
 |zero=>rfl
 |succ f=>
  unfold jI
  have:skp []=(0,true):=rfl
  rw [this]
  try rfl
theorem rmk_at (a:UInt8) (r:List UInt8) {d:Int} (hd:1≤d∨a=40∧r.head?=some 42∧d=0):rmk (a::r).length (a::r) d=
  if a=40∧r.head?=some 42 then (rmk (r.drop 1).length (r.drop 1) (d+1)).map (· +2)
  else if a=42∧r.head?=some 41 then (if d=1 then some 2 else (rmk (r.drop 1).length (r.drop 1) (d - 1)).map (· +2))
  else (rmk r.length r d).map (· +1):=by
 conv=>lhs;rw [List.length_cons];unfold rmk
 simp only
 have f1:rmk r.length (r.drop 1) (d+1)=rmk (r.drop 1).length (r.drop 1) (d+1):=oG _ _ _ _ (by rw [List.length_drop];omega) (Nat.le_refl _)
 have f2:rmk r.length (r.drop 1) (d - 1)=rmk (r.drop 1).length (r.drop 1) (d - 1):=oG _ _ _ _ (by rw [List.length_drop];omega) (Nat.le_refl _)
 rw [f1,f2]
 split
 ·rw [if_neg (by omega)]
 ·rename_i h1
  have hd':1≤d:=by
   rcases hd with hd|hd
   ·exact hd
   ·exact absurd ⟨hd.1,hd.2.1⟩ h1
  split
  ·by_cases h3:d=1
   ·rw [if_pos (by omega),if_pos h3]
   ·rw [if_neg (by omega),if_neg h3]
  ·rw [if_neg (by omega)]
theorem valL_step {b:UInt8} {r:List UInt8} {n:Int} (hb:48≤b.toNat∧b.toNat≤57):lY (b::r) n=
  if n>461168601842738790 then false else if 10*n+((b.toNat:Int) - 48)>4611686018427387903 then false else lY r (10*n+((b.toNat:Int) - 48)):=by
 rw [lY]
 rw [Int.tdiv_eq_ediv_of_nonneg (by omega)]
 by_cases h1:n>(4611686018427387903 - ((b.toNat:Int) - 48)) / 10
 ·rw [if_pos h1]
  by_cases h2:n>461168601842738790
  ·rw [if_pos h2]
  ·rw [if_neg h2,if_pos (by omega)]
 ·rw [if_neg h1,if_neg (by omega),if_neg (by omega)]
theorem run_dig {L:List UInt8}:run dig L=match L with
  |[]=>0
  |b::r=>if 48≤b.toNat∧b.toNat≤57 then 1+run dig r else 0:=by
 cases L with
 |nil=>rfl
 |cons b r=>
  by_cases hb:48≤b.toNat∧b.toNat≤57
  ·simp only [hb,and_self,if_true]
   exact run_go (by omega) (dig_digit hb)
  ·simp only [hb,if_false]
   rw [dG (by simp)]
   rw [if_neg ?_]
   intro h
   have h1:dD (bM (b::r)).1=2:=by simpa [dig] using h
   have h2:=cls_dig h1
   obtain ⟨b',r',e1,e2,_⟩:=decL_lt (L:=b::r) (by simp) (by omega)
   cases e1
   omega
end Go.Pg
namespace Go.Pg
open Go.Proofs Go.Utf8 Go.Lib
theorem tl_loop (s:ByteArray):∀ (d i:Nat) (r:List UInt8),s.size - i=d→ByteArray.toList.loop s i r=r.reverse++s.data.toList.drop i
 |0,i,r,h=>by
  unfold ByteArray.toList.loop
  rw [if_neg (by omega),List.drop_of_length_le (by have:s.data.toList.length=s.size:=rfl;omega),List.append_nil]
 |d+1,i,r,h=>by
  have hl:i<s.data.toList.length:=by
   have:s.data.toList.length=s.size:=rfl
   omega
  unfold ByteArray.toList.loop
  rw [if_pos (by omega),tl_loop s d (i+1) _ (by omega),List.drop_eq_getElem_cons hl,List.reverse_cons,List.append_assoc]
  have e:s.get! i=s.data.toList[i]:=by
   cases s with
   |mk a=>simp only [ByteArray.get!];rw [getElem!_pos a i (by simpa using hl)];try rfl
  rw [e]
  try rfl
theorem tl_data (s:ByteArray):s.toList=s.data.toList:=by
 unfold ByteArray.toList
 rw [tl_loop s _ 0 [] rfl]
 try rfl
theorem tl_mkB (l:List UInt8):(mkB l).toList=l:=tl_data _
theorem tl_bs (l:List UInt8):(bs l).toList=l:=tl_data _
theorem ext_mkB (s:ByteArray) (a b:Nat):s.extract a b=mkB ((s.data.toList.take b).drop a):=by
 have h:(s.extract a b).data.toList=(s.data.toList.take b).drop a:=by
  rw [ByteArray.data_extract,Array.toList_extract]
  simp [List.extract,List.drop_take]
 rw [←h]
 try rfl
theorem ext_to (L:List UInt8) (a:Nat):(mkB L).extract a (mkB L).size=mkB (L.drop a):=by rw [ext_mkB,sU,bJ,List.take_length]
theorem ext_0 (L:List UInt8) (b:Nat):(mkB L).extract 0 b=mkB (L.take b):=by rw [ext_mkB,sU,List.drop_zero]
theorem pD (a b:List UInt8):mkB a++mkB b=mkB (a++b):=by
 have h:(mkB a++mkB b).data.toList=a++b:=by simp [mkB]
 rw [←mkB_self (mkB a++mkB b),h]
theorem Frm.putNew {σ σ':aB} {b:Nat} (h:Frm σ σ' NoB) (hb:σ.n≤b) (hb2:b<σ'.n) (o:eJ):Frm σ (σ'.put b o) NoB:=
 h.fresh (Frm.put σ' b o hb2) fun j hj e=>by omega
theorem Frm.rng (σ:aB) (s:ByteArray):Frm σ (σ.push (.iter s 0)) NoB:=
 ⟨by rw [aB.push_n];omega,rfl,fun j hj _=>oL σ _ hj,fun f j hj=>by
  rw [aB.push_n] at hj
  rw [aB.get_push,if_neg (by omega)]
  exact f j (by omega)⟩
theorem EvF.ov {P:Program} {ov:Ov} {f:FuncId} {g:List Value→Act} {args:List Value} {σ σ':aB} {v:Value} (h:ov f=some g) (hg:g args σ=some (v,σ')):EvF P ov f args σ v σ':=
 ⟨1,fun n hn=>by
  cases n with
  |zero=>omega
  |succ n=>
   unfold jG
   rw [h]
   exact hg⟩
def rOK (r:Int):Prop:= -2147483648≤r∧r≤2147483647
theorem ev_letter {r:Int} (h:rOK r) (σ:aB):EvF aF ovD 88 [.int .i32 r] σ (.bool (isLetterU r)) σ:=
 EvF.ov (g:=jJ rQ) rfl (by unfold jJ rQ;simp [h.1,h.2])
theorem ev_upper {r:Int} (h:rOK r) (σ:aB):EvF aF ovD 90 [.int .i32 r] σ (.bool (isUpperU r)) σ:=
 EvF.ov (g:=jJ upperG) rfl (by unfold jJ upperG;simp [h.1,h.2])
theorem ev_decode {L:List UInt8} (h:L≠[]) (σ:aB):EvF aF ovD 99 [.string (mkB L)] σ (.tuple #[.int .i32 (bM L).1,.int .i64 (bM L).2]) σ:=by
 refine EvF.ov (g:=jJ sR) rfl ?_
 unfold jJ sR Lib.decodeGo
 have:(mkB L).size≠0:=by rw [bJ];have:=List.length_pos_iff.2 h;omega
 simp only [if_neg this]
 have e:=nA L 0 (by omega)
 rw [List.drop_zero] at e
 rw [e]
theorem dec_i32 (s:ByteArray) (p:Nat):rOK ((Utf8.decode s p).1:Nat):=by
 rw [decode_dec]
 have hb:∀ i,byteN s i<256:=fun i=>by unfold byteN;exact UInt8.toNat_lt _
 unfold dec rOK
 simp only
 have g0:=hb p;have g1:=hb (p+1);have g2:=hb (p+2);have g3:=hb (p+3)
 repeat' split
 all_goals simp only [runeError]
 all_goals omega
theorem kU (L:List UInt8):rOK ((bM L).1:Nat):=by
 have e:=nA L 0 (by omega)
 rw [List.drop_zero] at e
 rw [←e]
 exact dec_i32 _ _
variable {σ:aB}
theorem mark_at (j:Nat) (hj:j<13):wi32 (cF (bs [40,41,44,59,61,60,62,43,45,42,124,33,58]) j)=marks.getD j 0:=by
 have:j=0∨j=1∨j=2∨j=3∨j=4∨j=5∨j=6∨j=7∨j=8∨j=9∨j=10∨j=11∨j=12:=by omega
 rcases this with rfl|rfl|rfl|rfl|rfl|rfl|rfl|rfl|rfl|rfl|rfl|rfl|rfl<;>decide
theorem ev_class' {r:Int} (h:rOK r) (σ:aB):EvF aF ovD 66 [.int .i32 r] σ (.int .i64 (dD r)) σ:=by
 refine EvF.of (T66_eq _) rfl ?_
 rw [T66,aK,aK,aC]
 by_cases h1:r=95∨r=39
 ·have h1':((r==95)||(r==39))=true:=by simpa using h1
  have hc:dD r=1:=cls_1 (by rcases h1 with h1|h1<;>simp [h1])
  rw [if_neg (by rw [h1'];simp),hc]
  simp [wp_ret,T66k0,T66k3,aR,aJ,aX,aL,aI]
 ·have h1':((r==95)||(r==39))=false:=by simpa using h1
  rw [if_pos (by rw [h1'];rfl),aD,WpF.eq (ev_letter h σ)]
  simp only [aX,wp_ret,T66k0,aR,aJ,aI,aC]
  by_cases h2:isLetterU r=true
  ·rw [if_pos h2,cls_1 (.inr (.inr h2))]
   simp [wp_ret,T66k3,aR,aJ,aL,aI]
  ·have n1:¬ (r=95∨r=39∨isLetterU r=true):=fun h=>h.elim (fun h=>h1 (.inl h)) fun h=>h.elim (fun h=>h1 (.inr h)) h2
   rw [if_neg h2]
   by_cases h3:48≤r∧r≤57
   ·rw [if_pos (by simpa using h3),cls_2 n1 h3]
    simp [wp_ret,T66k3,aR,aJ,aL,aI]
   ·rw [if_neg (by simpa using h3)]
    by_cases h4:r=32∨r=9∨r=10∨r=13
    ·rw [cls_3 n1 h3 h4,if_pos (by rcases h4 with h4|h4|h4|h4<;>simp [h4])]
     simp [wp_ret,T66k3,aR,aJ,aL,aI]
    ·rw [if_neg (by simpa [not_or,and_assoc] using h4)]
     simp only [T66k3,aR,jA,aJ,aL,aI]
     refine Wp.count 13 (fun j st σ'=>σ'=σ∧st=[.int .i64 ((j:Nat):Int),.int .i64 0]∧∀ i,i<j→r≠marks.getD i 0) ⟨rfl,rfl,fun i hi=>by omega⟩ ?_ ?_
     ·rintro j st σ' hj ⟨rfl,rfl,hall⟩
      have e1:aO ((j:Int)+1)=(j:Int)+1:=aS (by omega)
      simp only [T66b0,aJ,aL,aI]
      rw [aC,if_pos (by simp;omega),aK,aV]
      refine ⟨by simp;omega,?_⟩
      rw [Int.toNat_natCast,mark_at j hj,aC]
      by_cases hm:r=marks.getD j 0
      ·rw [if_pos (by simpa only [beq_iff_eq] using hm),cls_4 n1 h3 h4 (by
        rw [hm]
        have:marks.getD j 0=marks[j]'(by simpa [marks] using hj):=by simp [List.getD,marks,hj]
        rw [this]
        exact List.getElem_mem _)]
       simp [wp_ret,T66k1,T66k2,aR,sw_re,aJ,aL,aI]
      ·rw [if_neg (by simpa only [beq_iff_eq] using hm)]
       simp only [wp_ret,T66k1,aR,jA,aJ,aL,aI,e1]
       refine ⟨trivial,by simp,fun i hi=>?_⟩
       by_cases hij:i=j
       ·subst hij;exact hm
       ·exact hall i (by omega)
     ·rintro st σ' ⟨rfl,rfl,hall⟩
      have hm:¬ r∈marks:=by
       intro hm
       obtain ⟨i,hi,he⟩:=List.getElem_of_mem hm
       have hi':i<13:=by simpa [marks] using hi
       refine hall i hi' ?_
       rw [←he]
       simp [List.getD,hi]
      rw [cls_0 n1 h3 h4 hm]
      simp only [T66b0,aJ,aL,aI]
      rw [aC,if_neg (by simp)]
      simp [wp_ret,T66k2,aR,aJ,aL,aI]
section
variable {σ:aB}
theorem wp_first {L:List UInt8} (hL:L≠[]) (hl:L.length≤1000000) {Q:Value→aB→Prop} (hQ:∀ σ',Frm σ σ' NoB→Q (.tuple #[.int .i32 ((bM L).1:Nat),.int .i64 ((bM L).2:Nat)]) σ'):WpF aF ovD 65 [.string (mkB L)] σ Q:=by
 refine WpF.of (T65_eq _) rfl ?_
 have hsz:=bJ L
 have hw:=dE hL
 have e0:=nA L 0 (by omega)
 rw [List.drop_zero] at e0
 rw [T65,aZ,rng_eq]
 simp only [iV,cH]
 refine Wp.loop (fun m st σ'=>Frm σ σ' NoB∧σ.n<σ'.n∧((m=2∧σ'.get σ.n=some (.iter (mkB L) 0)∧st=[.int .i64 0,.int .i64 (L.length:Nat),.int .i32 0])∨(m=1∧σ'.get σ.n=some (.iter (mkB L) (bM L).2)∧st=[.int .i64 1,.int .i64 (L.length:Nat),.int .i32 ((bM L).1:Nat)]))) 2
  ⟨Frm.rng _ _,by rw [aB.push_n];omega,.inl ⟨rfl,eG _ _,by rw [hsz]⟩⟩ ?_
 rintro m st σ' ⟨hF,hn,⟨rfl,hg,rfl⟩|⟨rfl,hg,rfl⟩⟩
 ·simp only [T65b0,aJ,aL,aI]
  have e1:aO (0+1)=1:=by decide
  rw [hJ hg (by omega),e0,aK,aK,aC,if_pos (by rfl),wp_ret]
  simp only [T65k0,aR,aJ,aL,aI]
  rw [aC,if_neg (by simp),wp_ret,e1]
  simp only [T65k1,sw_ne,aR,aJ,aL,aI]
  rw [wp_ret]
  refine ⟨1,by decide,hF.putNew (Nat.le_refl _) hn _,hn,.inr ⟨rfl,?_,rfl⟩⟩
  rw [dI,Nat.zero_add]
 ·simp only [T65b0,aJ,aL,aI]
  by_cases h1:(bM L).2<L.length
  ·rw [hJ hg (by omega),aK,aK,aC,if_neg (by simp),wp_ret]
   simp only [T65k0,aR,aJ,aL,aI]
   rw [aC,if_pos (by rfl),wp_ret]
   simp only [T65k1,aR,aJ,aL,aI]
   rw [wp_ret]
   simp only [T65k2,aR,aJ,aL,aI]
   rw [wp_ret]
   exact ⟨_,rfl,hQ _ (hF.putNew (Nat.le_refl _) hn _)⟩
  ·have e2:L.length=(bM L).2:=by omega
   rw [mR hg (by omega),wp_ret]
   simp only [T65k2,aR,aJ,aL,aI]
   rw [wp_ret,e2]
   exact ⟨_,rfl,hQ _ hF⟩
theorem wp_tail (L:List UInt8) {Q:Value→aB→Prop} (hQ:∀ σ',Frm σ σ' NoB→Q (.int .i64 (run lod L:Nat)) σ'):WpF aF ovD 89 [.string (mkB L)] σ Q:=by
 refine WpF.of (T89_eq _) rfl ?_
 rw [T89,aZ,rng_eq]
 simp only [iV,cH]
 refine Wp.loop (fun m st σ'=>∃ p,m=L.length - p∧p≤L.length∧Frm σ σ' NoB∧σ.n<σ'.n∧σ'.get σ.n=some (.iter (mkB L) p)∧st=[.int .i64 0]∧run lod L=p+run lod (L.drop p)) L.length
  ⟨0,rfl,by omega,Frm.rng _ _,by rw [aB.push_n];omega,eG _ _,rfl,by simp⟩ ?_
 rintro m st σ' ⟨p,rfl,hp,hF,hn,hg',rfl,hr⟩
 simp only [T89b0,aJ,aL,aI]
 by_cases h1:p<L.length
 ·have hne:L.drop p≠[]:=by simp;omega
  have hw:=dE hne
  rw [List.length_drop] at hw
  rw [hJ hg' (by rw [bJ];exact h1),aK,aD,nA L p hp,WpF.eq (ev_class' (kU _) _),aL,aC]
  rw [dG hne] at hr
  by_cases hm:lod (bM (L.drop p)).1=true
  ·rw [if_pos hm,List.drop_drop] at hr
   have hm':=hm
   simp only [lod,Bool.or_eq_true,beq_iff_eq] at hm'
   rw [if_neg (by simpa using fun h=>by rcases hm' with h'|h';exact absurd h' h;exact h'),wp_ret]
   simp only [T89k0,jA,aR,aJ,aL,aI]
   rw [wp_ret]
   refine ⟨_,?_,p+(bM (L.drop p)).2,rfl,by omega,hF.putNew (Nat.le_refl _) hn _,hn,dI _ _ _,rfl,by omega⟩
   omega
  ·rw [if_neg hm] at hr
   have hm':=hm
   simp only [lod,Bool.or_eq_true,beq_iff_eq,not_or] at hm'
   rw [if_pos (by simpa using hm'),wp_ret]
   simp only [T89k0,T89k1,aR,aJ,aL,aI]
   rw [wp_ret]
   simp only [sw_re,aR,aJ,aL,aI]
   rw [wp_ret]
   rw [Nat.add_zero] at hr
   rw [←hr]
   exact ⟨_,rfl,hQ _ (hF.putNew (Nat.le_refl _) hn _)⟩
 ·obtain rfl:p=L.length:=by omega
  rw [mR hg' (by rw [bJ];omega),wp_ret]
  simp only [T89k1,aR,aJ,aL,aI]
  rw [wp_ret,bJ]
  rw [List.drop_length,run_nil,Nat.add_zero] at hr
  rw [←hr]
  exact ⟨_,rfl,hQ _ hF⟩
end
end Go.Pg
namespace Go.Pg
open Go.Proofs Go.Utf8 Go.Lib
set_option linter.unusedSimpArgs false
theorem wpS:(∀ c r f,bA (c::r) f=f c r)∧(∀ k n f,asInt k (.int k n) f=f n)∧(∀ b f,eR (.bool b) f=f b)∧(∀ s f,jO (.string s) f=f s)∧(∀ a n c f,aM (.slice a n c) f=f a n c)∧(∀ cs f,asAgg (.agg cs) f=f cs.toList)∧(∀ cs f,cG (.tuple cs) f=f cs.toList)∧
  (∀ a f,aY (.pointer a) f=f a)∧(∀ a f,aH (some a) f=f a)∧(∀ p,aA [] p=p)∧(∀ (P:Program) (ov:Ov) e vs σ Q,Wp P ov (.ret e vs) σ Q=Q e vs σ)∧
  (∀ (P:Program) (ov:Ov) p k σ Q,Wp P ov (.join p k) σ Q=Wp P ov p σ fun e vs σ'=>Wp P ov (k e vs) σ' Q)∧(∀ e p q,sw e e p q=p)∧(∀ p q,sw .normal .ret p q=q)∧(∀ p q,sw .ret .normal p q=q)∧
  (∀ i p q,sw .normal (.exit i) p q=q)∧(∀ i p q,sw .ret (.exit i) p q=q)∧(∀ i p q,sw (.exit i) .normal p q=q)∧(∀ i p q,sw (.exit i) .ret p q=q):=
 ⟨aJ,aL,aX,fC,bK,mK,dL,iV,cH,aI,fun _ _=>wp_ret,fun _ _=>aK,aR,jA,sw_rn,sw_ne,sw_re,sw_en,sw_er⟩
theorem qW (S:List UInt8) (i:Nat):cF (mkB S) i=(((S.getD i 0).toNat:Nat):Int):=rfl
theorem bs_mkB (l:List UInt8):bs l=mkB l:=rfl
theorem cA (a b:List UInt8):((mkB a).toList==(bs b).toList)=decide (a=b):=by
 rw [tl_mkB,tl_bs]
 by_cases h:a=b
 ·simp [h]
 ·simp [h]
theorem eX (a b:List UInt8):((mkB a).toList==(mkB b).toList)=decide (a=b):=by
 rw [tl_mkB,tl_mkB]
 by_cases h:a=b
 ·simp [h]
 ·simp [h]
theorem u8_int {a x:UInt8}:((a.toNat:Nat):Int)=((x.toNat:Nat):Int)↔a=x:=by
 constructor
 ·intro h
  have:a.toNat=x.toNat:=by omega
  exact UInt8.toNat_inj.1 this
 ·intro h;rw [h]
theorem jZ {S:List UInt8} {q:Nat} (h:q<S.length):S.drop q=S.getD q 0::S.drop (q+1):=by
 rw [List.drop_eq_getElem_cons h]
 simp [List.getD,h]
theorem kL {a x y:UInt8} {r:List UInt8}:(a::r).take 2=[x,y]↔a=x∧r.head?=some y:=by
 cases r with
 |nil=>simp
 |cons b r=>simp
section
variable {P:Program} {ov:Ov} {σ:aB}
theorem wp_two (S:List UInt8) {q:Nat} (hq:q<S.length) (hl:S.length≤1000000) {X Y:Int} (x y:UInt8) (hX:X=((x.toNat:Nat):Int)) (hY:Y=((y.toNat:Nat):Int)) (Q:cJ):
  Wp P ov (bif (decide ((aO (((q:Nat):Int)+1))<(((mkB S).size:Nat):Int)))==true then (grd ((decide (0≤((q:Nat):Int)))&&(decide (((q:Nat):Int)<(((mkB S).size:Nat):Int)))) (bif ((cF (mkB S) (Int.toNat ((q:Nat):Int)))==X)==true then (grd ((decide (0≤(aO (((q:Nat):Int)+1))))&&(decide ((aO (((q:Nat):Int)+1))<(((mkB S).size:Nat):Int)))) (.ret .normal [(.bool ((cF (mkB S) (Int.toNat (aO (((q:Nat):Int)+1))))==Y))])) else (.ret .normal [(.bool false)]))) else (.ret .normal [(.bool false)])) σ Q=
   Q .normal [.bool (decide ((S.drop q).take 2=[x,y]))] σ:=by
 have hsz:=bJ S
 have e1:aO (((q:Nat):Int)+1)=((q+1:Nat):Int):=by rw [aS (by omega)];omega
 have hd:=jZ hq
 rw [hd,aC,e1,hsz]
 simp only [kL]
 by_cases h1:q+1<S.length
 ·have hd2:=jZ h1
  rw [if_pos (by simp;omega),aV,aC,Int.toNat_natCast,Int.toNat_natCast,qW,qW,hd2]
  simp only [List.head?_cons,Option.some.injEq]
  have g1:(decide (0≤((q:Nat):Int))&&decide (((q:Nat):Int)<((S.length:Nat):Int)))=true:=by simp;omega
  by_cases h2:S.getD q 0=x
  ·rw [if_pos (by rw [hX,h2];simp),aV,wp_ret]
   have g2:(decide (0≤((q+1:Nat):Int))&&decide (((q+1:Nat):Int)<((S.length:Nat):Int)))=true:=by simp only [Bool.and_eq_true,decide_eq_true_eq];omega
   rw [g1,g2]
   simp only [true_and,h2]
   congr 3
   rw [hY]
   by_cases h3:S.getD (q+1) 0=y
   ·rw [h3];simp
   ·rw [beq_eq_false_iff_ne.2 (fun h=>h3 (u8_int.1 h)),decide_eq_false h3]
  ·rw [if_neg (by rw [hX];simp only [beq_iff_eq,beq_true];exact fun h=>h2 (u8_int.1 h)),wp_ret,g1]
   simp only [true_and,h2,false_and,decide_false]
 ·have hd2:S.drop (q+1)=[]:=List.drop_of_length_le (by omega)
  rw [if_neg (by simp;omega),wp_ret,hd2]
  simp
theorem ev_remark (S:List UInt8) (hl:S.length≤1000000) {p:Nat} (hp:p<S.length) (h2:(S.drop p).take 2=[40,42]):
  EvF aF ovD 67 [.string (mkB S),.int .i64 ((p:Nat):Int)] σ (.int .i64 (match rmk (S.drop p).length (S.drop p) 0 with
   |some m=>((p+m:Nat):Int)
   |none=> -1)) σ:=by
 refine EvF.of (T67_eq _ _) rfl ?_
 rw [T67]
 have hsz:=bJ S
 refine Wp.loop (fun m st σ'=>σ'=σ∧∃ (q:Nat) (d:Int),m=S.length - q∧q≤S.length∧st=[.int .i64 0,.int .i64 ((q:Nat):Int),.int .i64 d]∧(1≤d∨(S.drop q).take 2=[40,42]∧d=0)∧d≤((q:Nat):Int)∧
   (rmk (S.drop p).length (S.drop p) 0).map (p+ ·)=(rmk (S.drop q).length (S.drop q) d).map (q+ ·)) (S.length - p)
  ⟨rfl,p,0,rfl,by omega,rfl,.inr ⟨h2,rfl⟩,by omega,rfl⟩ ?_
 rintro m st σ' ⟨rfl,q,d,rfl,hq,rfl,hd,hdq,hr⟩
 unfold T67b0
 simp only [wpS]
 rw [aC,hsz]
 have e2:aO (((q:Nat):Int)+2)=((q+2:Nat):Int):=by rw [aS (by omega)];omega
 have e1:aO (((q:Nat):Int)+1)=((q+1:Nat):Int):=by rw [aS (by omega)];omega
 have e3:aO (d+1)=d+1:=aS (by omega)
 have e4:aO (d - 1)=d - 1:=aS (by omega)
 by_cases h1:q<S.length
 case neg=>
  rw [if_neg (by simp;omega),wp_ret]
  have hdr:S.drop q=[]:=List.drop_of_length_le (by omega)
  rw [hdr] at hr
  have hn:rmk (S.drop p).length (S.drop p) 0=none:=by simpa [rmk] using hr
  simp only [wpS,T67k6,hn]
  exact ⟨trivial,trivial⟩
 rw [if_pos (by simp;omega)]
 simp only [wpS]
 rw [←hsz,wp_two (X:=40) (Y:=42) S h1 hl 40 42 rfl rfl]
 have hdr:=jZ h1
 have hat:=rmk_at (S.getD q 0) (S.drop (q+1)) (d:=d) (by
  rcases hd with hd|hd
  ·exact .inl hd
  ·rw [hdr] at hd
   exact .inr ⟨(kL.1 hd.1).1,(kL.1 hd.1).2,hd.2⟩)
 rw [←hdr] at hat
 simp only [←kL,←hdr,List.drop_drop] at hat
 have map2:∀ o:Option Nat,(o.map (· +2)).map (q+ ·)=o.map (q+2+ ·):=fun o=>by cases o<;>simp<;>omega
 have map1:∀ o:Option Nat,(o.map (· +1)).map (q+ ·)=o.map (q+1+ ·):=fun o=>by cases o<;>simp<;>omega
 simp only [wpS,T67k3]
 rw [aC]
 by_cases c1:(S.drop q).take 2=[40,42]
 ·have hq2:q+2≤S.length:=by
   have:=congrArg List.length c1
   simp at this
   omega
  rw [if_pos c1] at hat
  rw [if_pos (by simpa using c1)]
  simp only [wpS,T67k2,T67k4,T67k5,e2,e3]
  refine ⟨S.length - (q+2),by omega,by trivial,q+2,d+1,rfl,hq2,rfl,.inl (by omega),by omega,?_⟩
  rw [hr,hat,map2]
 rw [if_neg c1] at hat
 have hd1:1≤d:=by
  rcases hd with hd|hd
  ·exact hd
  ·exact absurd hd.1 c1
 rw [if_neg (by simpa using c1)]
 simp only [wpS]
 rw [wp_two (X:=42) (Y:=41) S h1 hl 42 41 rfl rfl]
 simp only [wpS,T67k1]
 rw [aC]
 by_cases c2:(S.drop q).take 2=[42,41]
 ·have hq2:q+2≤S.length:=by
   have:=congrArg List.length c2
   simp at this
   omega
  rw [if_pos c2] at hat
  rw [if_pos (by simpa using c2),aC,e4,e2]
  by_cases c3:d=1
  ·rw [if_pos c3] at hat
   rw [if_pos (by simp;omega)]
   simp only [wpS,T67k0,T67k2,T67k4,T67k5,T67k6]
   rw [hat] at hr
   cases hx:rmk (S.drop p).length (S.drop p) 0 with
   |none=>rw [hx] at hr;cases hr
   |some m=>
    rw [hx] at hr
    simp only [Option.map_some,Option.some.injEq] at hr
    refine ⟨?_,by trivial⟩
    show [Value.int .i64 ((q+2:Nat):Int)]=[Value.int .i64 ((p+m:Nat):Int)]
    rw [hr]
  ·rw [if_neg c3] at hat
   rw [if_neg (by simp;omega)]
   simp only [wpS,T67k0,T67k2,T67k4,T67k5]
   refine ⟨S.length - (q+2),by omega,by trivial,q+2,d - 1,rfl,hq2,rfl,.inl (by omega),by omega,?_⟩
   rw [hr,hat,map2]
 ·rw [if_neg c2] at hat
  rw [if_neg (by simpa using c2)]
  simp only [wpS,T67k0,T67k2,T67k4,T67k5,e1]
  refine ⟨S.length - (q+1),by omega,by trivial,q+1,d,rfl,by omega,rfl,.inl hd1,by omega,?_⟩
  rw [hr,hat,map1]
theorem ev_key (t:List UInt8) {Q:Value→aB→Prop} (hQ:∀ σ',Frm σ σ' NoB→Q (.bool (iH t)) σ'):WpF aF ovD 91 [.string (mkB t)] σ Q:=by
 refine WpF.of (T91_eq _) rfl ?_
 rw [T91,aZ,cV]
 simp only [wpS]
 have hrow:=Row.new σ 1 (keys.map fun t=>Value.string (bs t)) 19 (by decide) (by simp [keys]) (by intro y hy;obtain ⟨t,_,rfl⟩:=List.mem_map.1 hy;rfl)
 have hF:=Frm.new σ (keys.map fun t=>Value.string (bs t)) 1 NoB
 have hk:keys.map (fun t=>Value.string (bs t))=[(.string (bs [116,121,112,101])),(.string (bs [111,102])),(.string (bs [108,101,116])),(.string (bs [114,101,99])),(.string (bs [105,110])),(.string (bs [102,117,110])),(.string (bs [105,102])),(.string (bs [116,104,101,110])),(.string (bs [101,108,115,101])),(.string (bs [109,97,116,99,104])),(.string (bs [119,105,116,104])),(.string (bs [101,110,100])),(.string (bs [114,101,102])),(.string (bs [112,114,105,110,116])),(.string (bs [114,101,97,100])),(.string (bs [114,97,105,115,101])),(.string (bs [116,114,121])),(.string (bs [116,114,117,101])),(.string (bs [102,97,108,115,101]))]:=rfl
 rw [hk] at hrow hF
 generalize hσ:σ.newBlk [(.string (bs [116,121,112,101])),(.string (bs [111,102])),(.string (bs [108,101,116])),(.string (bs [114,101,99])),(.string (bs [105,110])),(.string (bs [102,117,110])),(.string (bs [105,102])),(.string (bs [116,104,101,110])),(.string (bs [101,108,115,101])),(.string (bs [109,97,116,99,104])),(.string (bs [119,105,116,104])),(.string (bs [101,110,100])),(.string (bs [114,101,102])),(.string (bs [112,114,105,110,116])),(.string (bs [114,101,97,100])),(.string (bs [114,97,105,115,101])),(.string (bs [116,114,121])),(.string (bs [116,114,117,101])),(.string (bs [102,97,108,115,101]))] 1=σ1 at hrow hF ⊢
 rw [←hk] at hrow
 have hany:iH t=(keys.drop 0).any (t== ·):=rfl
 refine Wp.count 19 (fun j st σ'=>σ'=σ1∧st=[.int .i64 ((j:Nat):Int),.bool false]∧iH t=(keys.drop j).any (t== ·)) ⟨rfl,rfl,hany⟩ ?_ ?_
 ·rintro j st σ' hj ⟨rfl,rfl,ha⟩
  have e1:aO ((j:Int)+1)=((j+1:Nat):Int):=by rw [aS (by omega)];omega
  have hj2:j<keys.length:=by simpa [keys] using hj
  have hv:(keys.map fun t=>Value.string (bs t))[j]?=some (.string (bs keys[j])):=by simp [hj2]
  unfold T91b0
  simp only [wpS]
  rw [aC,if_pos (by simp;omega)]
  simp only [wpS]
  rw [aV]
  refine ⟨by simp;omega,?_⟩
  rw [Int.toNat_natCast,lJ hrow hv]
  simp only [wpS]
  rw [bs_mkB,eX,aC]
  rw [List.drop_eq_getElem_cons hj2,List.any_cons] at ha
  by_cases h:keys[j]=t
  ·rw [if_pos (by simpa using h)]
   simp only [wpS,T91k0,T91k1]
   have:iH t=true:=by rw [ha,h];simp
   rw [←this]
   exact ⟨_,rfl,hQ _ hF⟩
  ·rw [if_neg (by simpa using h)]
   simp only [wpS,T91k0,e1]
   refine ⟨trivial,trivial,?_⟩
   rw [ha]
   have:(t==keys[j])=false:=by simpa using fun e:t=keys[j]=>h e.symm
   rw [this,Bool.false_or]
 ·rintro st σ' ⟨rfl,rfl,ha⟩
  unfold T91b0
  simp only [wpS]
  rw [aC,if_neg (by simp)]
  simp only [wpS,T91k1]
  have:iH t=false:=by rw [ha];try rfl
  rw [←this]
  exact ⟨_,rfl,hQ _ hF⟩
end
end Go.Pg
namespace Go.Pg
open Go.Proofs Go.Utf8 Go.Lib
set_option linter.unusedSimpArgs false
def wv (k:Int) (t:List UInt8) (a b:Int):Value:=.agg #[.int .i64 k,.string (mkB t),.int .i64 a,.int .i64 b]
theorem ext_at (S:List UInt8) (p n:Nat):(mkB S).extract p (p+n)=mkB ((S.drop p).take n):=by
 rw [ext_mkB,sU,List.drop_take,Nat.add_sub_cancel_left]
theorem mark_head {L:List UInt8} (hL:L≠[]) (h:dD (bM L).1=4):∃ b r,L=b::r∧(bM L).2=1:=by
 obtain ⟨b,r,e,h1,_⟩:=mH hL h
 refine ⟨b,r,e,?_⟩
 rw [e,eP h1]
theorem byte_at {S:List UInt8} {q:Nat} (h:q<S.length):∃ b:UInt8,cF (mkB S) q=((b.toNat:Nat):Int)∧S.drop q=b::S.drop (q+1):=⟨S.getD q 0,rfl,jZ h⟩
section
variable {σ:aB}
theorem wp_wordD (S:List UInt8) (hl:S.length≤1000000) {p:Nat} (hp:p<S.length) {Q:Value→aB→Prop}
  (hq1:(cU (S.drop p)).1≠0→∀ σ',Frm σ σ' NoB→Q (.tuple #[wv (cU (S.drop p)).1 (cU (S.drop p)).2 ((p:Nat):Int) ((p+(cU (S.drop p)).2.length:Nat):Int),.bool true]) σ')
  (hq2:(cU (S.drop p)).1=0→∀ k t a b σ',Frm σ σ' NoB→Q (.tuple #[wv k t a b,.bool false]) σ'):WpF aF ovD 68 [.string (mkB S),.int .i64 ((p:Nat):Int)] σ Q:=by
 refine WpF.of (T68_eq _ _) rfl ?_
 have hsz:=bJ S
 have hL:S.drop p≠[]:=by simp;omega
 have hlen:(S.drop p).length=S.length - p:=List.length_drop
 have hw:=dE hL
 rw [T68]
 refine aN fun σ1 hF1 hn1 hA1=>?_
 generalize hA:σ.n=A at hA1
 rw [aV]
 refine ⟨by simp only [Bool.and_eq_true,decide_eq_true_eq];omega,?_⟩
 rw [Int.toNat_natCast,ext_to,aD]
 refine wp_first hL (by omega) fun σ2 hF2=>?_
 simp only [wpS]
 refine aN fun σ3 hF3 hn3 hB3=>?_
 generalize hB:σ2.n=B at hB3
 have hAB:A<B:=by have:=hF2.n;omega
 refine bD hB3 rfl rfl fun σ4 hF4 hn4 hB4=>?_
 have e1:aO (((p:Nat):Int)+((bM (S.drop p)).2:Nat))=((p+(bM (S.drop p)).2:Nat):Int):=by rw [aS (by omega)];omega
 rw [e1] at hB4
 rw [aD,WpF.eq (ev_class' (kU _) _),aL]
 have hA4:=hF4.st (hF3.stN (hF2.stN hA1)) (by omega)
 have hF04:Frm σ σ4 NoB:=((hF1.seq hF2).seq hF3).fresh hF4 fun j hj h=>by have:=hF1.n;have:=hF2.n;omega
 have fail:∀ (σ':aB) (zs:List Value),Frm σ σ' NoB→St σ' A zs→zs.length=4→(∃ k t a b,zs=[.int .i64 k,.string (mkB t),.int .i64 a,.int .i64 b])→(cU (S.drop p)).1=0→
   Wp aF ovD (T68k9 ⟨A,0,some 0⟩ ⟨B,0,some 0⟩ .ret [.bool false]) σ' fun _ vs σ'=>∃ v,vs=[v]∧Q v σ':=by
  rintro σ' _ hF hS hz ⟨k,t,a,b,rfl⟩ h0
  simp only [wpS,T68k9]
  rw [aP hS 4 rfl]
  simp only [wpS]
  exact ⟨_,rfl,hq2 h0 k t a b σ' hF⟩
 have fine:∀ (σ':aB) (k:Int) (t:List UInt8) (to:Nat),Frm σ σ' NoB→St σ' A [.int .i64 k,.string (mkB t),.int .i64 ((p:Nat):Int),.int .i64 ((to:Nat):Int)]→cU (S.drop p)=(k,t)→k≠0→to=p+t.length→
   Wp aF ovD (T68k9 ⟨A,0,some 0⟩ ⟨B,0,some 0⟩ .ret [.bool true]) σ' fun _ vs σ'=>∃ v,vs=[v]∧Q v σ':=by
  rintro σ' k t to hF hS h0 hk rfl
  simp only [wpS,T68k9]
  rw [aP hS 4 rfl]
  simp only [wpS]
  have:=hq1 (by rw [h0];exact hk) σ' hF
  rw [h0] at this
  exact ⟨_,rfl,this⟩
 rw [aK,aC]
 by_cases c1:dD (bM (S.drop p)).1=1
 ·rw [if_pos (by simpa using c1),aC]
  by_cases c2:(bM (S.drop p)).1=39
  ·have h0:cU (S.drop p)=(0,[]):=by
    unfold cU
    rw [if_pos c1,if_pos c2]
   rw [if_pos (by simp;omega),aP hB4 4 rfl]
   simp only [wpS]
   refine bD hA4 rfl rfl fun σ5 hF5 hn5 hA5=>?_
   simp only [wpS]
   exact fail σ5 _ (hF04.fresh hF5 fun j hj h=>by omega) hA5 rfl ⟨_,[],_,_,rfl⟩ (by rw [h0])
  ·have h0:cU (S.drop p)=qH (S.drop p):=by
    unfold cU
    rw [if_pos c1,if_neg c2]
   rw [if_neg (by simp;omega),aV]
   refine ⟨by simp only [Bool.and_eq_true,decide_eq_true_eq];omega,?_⟩
   rw [aD]
   refine wp_tail _ fun σ5 hF5=>?_
   have hrl:=nD (may:=lod) (S.drop p)
   have e2:aO (((p:Nat):Int)+(run lod (S.drop p):Nat))=((p+run lod (S.drop p):Nat):Int):=by rw [aS (by omega)];omega
   rw [aL,e2]
   refine bP (hF5.stN hB4) (by simp) rfl fun σ6 hF6 hn6 hB6=>?_
   simp only [List.set_cons_succ,List.set_cons_zero] at hB6
   rw [aE hB6 rfl,aL,aV]
   refine ⟨by simp only [Bool.and_eq_true,decide_eq_true_eq];omega,?_⟩
   rw [Int.toNat_natCast,ext_at]
   refine bP hB6 (by simp) rfl fun σ7 hF7 hn7 hB7=>?_
   simp only [List.set_cons_succ,List.set_cons_zero] at hB7
   have hF47:Frm σ4 σ7 (· =B):=(hF5.no.seq hF6).seq hF7
   have hA7:=hF47.st hA4 (by omega)
   have hF07:Frm σ σ7 NoB:=hF04.fresh hF47 fun j hj h=>by have:=hF1.n;have:=hF2.n;omega
   rw [aK,aD,WpF.eq (ev_upper (kU _) _),aX]
   have last:∀ (σ8:aB) (k:Int),Frm σ σ8 NoB→St σ8 A [.int .i64 0,.string (bs []),.int .i64 0,.int .i64 0]→St σ8 B [.int .i64 k,.string (mkB ((S.drop p).take (run lod (S.drop p)))),.int .i64 ((p:Nat):Int),.int .i64 ((p+run lod (S.drop p):Nat):Int)]→qH (S.drop p)=(k,(S.drop p).take (run lod (S.drop p)))→k≠0→
     Wp aF ovD (T68k2 ⟨B,0,some 0⟩ ⟨A,0,some 0⟩ .normal []) σ8 fun e vs σ'=>Wp aF ovD (T68k9 ⟨A,0,some 0⟩ ⟨B,0,some 0⟩ e vs) σ' fun _ vs σ'=>∃ v,vs=[v]∧Q v σ':=by
    intro σ8 k hF8 hA8 hB8 hk hk0
    simp only [wpS,T68k2]
    rw [aP hB8 4 rfl]
    simp only [wpS]
    refine bD hA8 rfl rfl fun σ9 hF9 hn9 hA9=>?_
    simp only [wpS]
    exact fine σ9 k _ _ (hF8.fresh hF9 fun j hj h=>by omega) hA9 (h0.trans hk) hk0 (by rw [List.length_take];omega)
   rw [aK,aC]
   by_cases c3:isUpperU ((bM (S.drop p)).1:Nat)=true
   ·rw [if_pos c3]
    refine bP hB7 (by simp) rfl fun σ8 hF8 hn8 hB8=>?_
    simp only [List.set_cons_zero] at hB8
    simp only [wpS,T68k1]
    exact last σ8 3 (hF07.fresh hF8 fun j hj h=>by have:=hF1.n;have:=hF2.n;omega) (hF8.st hA7 (by omega)) hB8 (by unfold qH;rw [if_pos c3]) (by decide)
   ·rw [if_neg c3,aE hB7 rfl,fC,aD]
    refine ev_key _ fun σ8 hF8=>?_
    rw [aX,aK,aC]
    have hB8:=hF8.stN hB7
    have hA8:=hF8.stN hA7
    have hF08:=hF07.seq hF8
    by_cases c4:iH ((S.drop p).take (run lod (S.drop p)))=true
    ·rw [if_pos c4]
     refine bP hB8 (by simp) rfl fun σ9 hF9 hn9 hB9=>?_
     simp only [List.set_cons_zero] at hB9
     simp only [wpS,T68k0,T68k1]
     exact last σ9 4 (hF08.fresh hF9 fun j hj h=>by have:=hF1.n;have:=hF2.n;omega) (hF9.st hA8 (by omega)) hB9 (by unfold qH;rw [if_neg c3,if_pos c4]) (by decide)
    ·rw [if_neg c4]
     refine bP hB8 (by simp) rfl fun σ9 hF9 hn9 hB9=>?_
     simp only [List.set_cons_zero] at hB9
     simp only [wpS,T68k0,T68k1]
     exact last σ9 2 (hF08.fresh hF9 fun j hj h=>by have:=hF1.n;have:=hF2.n;omega) (hF9.st hA8 (by omega)) hB9 (by unfold qH;rw [if_neg c3,if_neg c4]) (by decide)
 rw [if_neg (by simpa using c1),aC]
 by_cases c2:dD (bM (S.drop p)).1=2
 ·have h0:cU (S.drop p)=if lY ((S.drop p).take (run dig (S.drop p))) 0=true then (1,(S.drop p).take (run dig (S.drop p))) else (0,[]):=by
   unfold cU
   rw [if_neg c1,if_pos c2]
  rw [if_pos (by simpa using c2)]
  refine bP hB4 (by simp) rfl fun σ5 hF5 hn5 hB5=>?_
  simp only [List.set_cons_succ,List.set_cons_zero] at hB5
  have hA5:=hF5.st hA4 (by omega)
  have hF05:Frm σ σ5 NoB:=hF04.fresh hF5 fun j hj h=>by have:=hF1.n;have:=hF2.n;omega
  have hrl:=nD (may:=dig) (S.drop p)
  refine Wp.loop (fun m st σ'=>∃ (i:Nat) (v:Int),m=S.length - (p+i)∧i≤run dig (S.drop p)∧st=[.int .u64 v,.bool false]∧0≤v∧v≤4611686018427387903∧Frm σ σ' NoB∧St σ' A [.int .i64 0,.string (bs []),.int .i64 0,.int .i64 0]∧St σ' B [.int .i64 0,.string (bs []),.int .i64 ((p:Nat):Int),.int .i64 ((p+i:Nat):Int)]∧
    run dig (S.drop p)=i+run dig (S.drop (p+i))∧lY ((S.drop p).take (run dig (S.drop p))) 0=lY ((S.drop (p+i)).take (run dig (S.drop (p+i)))) v) (S.length - p)
   ⟨0,0,by omega,by omega,rfl,by omega,by omega,hF05,hA5,hB5,by simp,by simp⟩ ?_
  rintro m st σ6 ⟨i,v,rfl,hi,rfl,hv0,hv1,hF6,hA6,hB6,hrun,hval⟩
  unfold T68b0
  simp only [wpS]
  rw [aE hB6 rfl,aL,aC]
  have stop:run dig (S.drop (p+i))=0→Wp aF ovD (T68k5 ⟨B,0,some 0⟩ ((p:Nat):Int) (mkB S) ⟨A,0,some 0⟩ (.exit 2) [.int .u64 v,.bool false]) σ6 fun e vs σ'=>Wp aF ovD (T68k9 ⟨A,0,some 0⟩ ⟨B,0,some 0⟩ e vs) σ' fun _ vs σ'=>∃ v,vs=[v]∧Q v σ':=by
   intro hz
   have hi2:run dig (S.drop p)=i:=by omega
   rw [hz,List.take_zero] at hval
   have hv:lY ((S.drop p).take (run dig (S.drop p))) 0=true:=hval
   rw [if_pos hv] at h0
   simp only [wpS,T68k5]
   rw [aE hB6 rfl,aL,aV]
   refine ⟨by simp only [Bool.and_eq_true,decide_eq_true_eq];omega,?_⟩
   refine bP hB6 (by simp) rfl fun σ7 hF7 hn7 hB7=>?_
   simp only [List.set_cons_zero] at hB7
   rw [Int.toNat_natCast,Int.toNat_natCast,ext_at]
   refine bP hB7 (by simp) rfl fun σ8 hF8 hn8 hB8=>?_
   simp only [List.set_cons_succ,List.set_cons_zero] at hB8
   rw [aP hB8 4 rfl]
   simp only [wpS]
   have hF68:=hF7.seq hF8
   refine bD (hF68.st hA6 (by omega)) rfl rfl fun σ9 hF9 hn9 hA9=>?_
   simp only [wpS]
   rw [←hi2] at hA9
   exact fine σ9 1 _ _ ((hF6.fresh hF68 fun j hj h=>by have:=hF1.n;have:=hF2.n;omega).fresh hF9 fun j hj h=>by omega) hA9 h0 (by decide) (by rw [List.length_take];omega)
  by_cases c3:p+i<S.length
  case neg=>
   rw [if_neg (by rw [hsz];simp;omega)]
   simp only [wpS,T68k4]
   rw [aC,if_neg (by simp)]
   simp only [wpS]
   exact stop (by rw [List.drop_of_length_le (by omega)];rfl)
  obtain ⟨b,hbv,hd⟩:=byte_at c3
  have hrd:=run_dig (L:=S.drop (p+i))
  rw [hd] at hrd
  simp only at hrd
  rw [if_pos (by rw [hsz];simp;omega),aE hB6 rfl,aL,aV]
  refine ⟨by simp only [Bool.and_eq_true,decide_eq_true_eq];omega,?_⟩
  rw [Int.toNat_natCast,hbv,aC]
  by_cases c4:48≤(b).toNat
  case neg=>
   rw [if_neg (by simp;omega)]
   simp only [wpS,T68k4]
   rw [aC,if_neg (by simp)]
   simp only [wpS]
   rw [if_neg (by omega)] at hrd
   exact stop (by rw [hd];exact hrd)
  rw [if_pos (by simp;omega),aE hB6 rfl,aL,aV]
  refine ⟨by simp only [Bool.and_eq_true,decide_eq_true_eq];omega,?_⟩
  simp only [wpS,T68k4,Int.toNat_natCast,hbv]
  rw [aC]
  by_cases c5:(b).toNat≤57
  case neg=>
   rw [if_neg (by simp;omega)]
   simp only [wpS]
   rw [if_neg (by omega)] at hrd
   exact stop (by rw [hd];exact hrd)
  rw [if_pos (by simp;omega)]
  rw [if_pos ⟨c4,c5⟩,←hd] at hrd
  have hvs:=valL_step (b:=b) (r:=(S.drop (p+(i+1))).take (run dig (S.drop (p+(i+1))))) (n:=v) ⟨c4,c5⟩
  have e7:(S.drop (p+i)).take (run dig (S.drop (p+i)))=b::(S.drop (p+(i+1))).take (run dig (S.drop (p+(i+1)))):=by
   rw [hrd,hd,Nat.add_comm 1,List.take_succ_cons]
   try rfl
  rw [e7,hvs] at hval
  have no:lY ((S.drop p).take (run dig (S.drop p))) 0=false→∀ (v':Int),Wp aF ovD (.act (ldN 4 ⟨B,0,some 0⟩) fun v98=>asAgg v98 fun l99=>bA l99 fun v100 l101=>asInt .i64 v100 fun i102=>bA l101 fun v103 l104=>jO v103 fun s105=>bA l104 fun v106 l107=>asInt .i64 v106 fun i108=>bA l107 fun v109 l110=>asInt .i64 v109 fun i111=>aA l110 (.act (stC ⟨A,0,some 0⟩ [(.int .i64 i102),(.string s105),(.int .i64 i108),(.int .i64 i111)]) fun v112=>cG v112 fun l113=>aA l113 (.ret .ret [(.int .u64 v'),(.bool false)]))) σ6 fun e vs σ'=>Wp aF ovD (T68k3 ⟨B,0,some 0⟩ e vs) σ' fun e st' σ'_1=>match e with
     | .normal=>∃ m',m'<S.length - (p+i)∧∃ (i:Nat) (v:Int),m'=S.length - (p+i)∧i≤run dig (S.drop p)∧st'=[.int .u64 v,.bool false]∧0≤v∧v≤4611686018427387903∧Frm σ σ'_1 NoB∧St σ'_1 A [.int .i64 0,.string (bs []),.int .i64 0,.int .i64 0]∧St σ'_1 B [.int .i64 0,.string (bs []),.int .i64 ((p:Nat):Int),.int .i64 ((p+i:Nat):Int)]∧
      run dig (S.drop p)=i+run dig (S.drop (p+i))∧lY ((S.drop p).take (run dig (S.drop p))) 0=lY ((S.drop (p+i)).take (run dig (S.drop (p+i)))) v
     |e=>Wp aF ovD (T68k5 ⟨B,0,some 0⟩ ((p:Nat):Int) (mkB S) ⟨A,0,some 0⟩ e st') σ'_1 fun e vs σ'=>Wp aF ovD (T68k9 ⟨A,0,some 0⟩ ⟨B,0,some 0⟩ e vs) σ' fun _ vs σ'=>∃ v,vs=[v]∧Q v σ':=by
   intro hv v'
   rw [if_neg (by rw [hv];simp)] at h0
   rw [aP hB6 4 rfl]
   simp only [wpS]
   refine bD hA6 rfl rfl fun σ9 hF9 hn9 hA9=>?_
   simp only [wpS,T68k3,T68k5]
   exact fail σ9 _ (hF6.fresh hF9 fun j hj h=>by omega) hA9 rfl ⟨_,[],_,_,rfl⟩ (by rw [h0])
  rw [aK,aC]
  by_cases c6:v>461168601842738790
  ·rw [if_pos c6] at hval
   rw [if_pos (by simpa using c6)]
   exact no hval v
  rw [if_neg c6] at hval
  have e8:qR ((qR (v*10))+(qR (wu8 (((b).toNat:Int) - 48))))=10*v+(((b).toNat:Int) - 48):=by
   have a1:wu8 (((b).toNat:Int) - 48)=((b).toNat:Int) - 48:=wu8_in (by omega)
   rw [a1]
   rw [wu64_in (n:=v*10) (by omega),wu64_in (n:=(b.toNat:Int) - 48) (by omega),wu64_in (by omega)]
   omega
  rw [if_neg (by simpa using c6),aE hB6 rfl,aL,aV]
  refine ⟨by simp only [Bool.and_eq_true,decide_eq_true_eq];omega,?_⟩
  simp only [Int.toNat_natCast,hbv,e8]
  rw [aC]
  by_cases c7:10*v+(((b).toNat:Int) - 48)>4611686018427387903
  ·rw [if_pos c7] at hval
   rw [if_pos (by simpa using c7)]
   exact no hval _
  rw [if_neg c7] at hval
  rw [if_neg (by simpa using c7)]
  simp only [wpS,T68k3]
  rw [aE hB6 rfl,aL]
  have e9:aO (((p+i:Nat):Int)+1)=((p+(i+1):Nat):Int):=by rw [aS (by omega)];omega
  rw [e9]
  refine bP hB6 (by simp) rfl fun σ7 hF7 hn7 hB7=>?_
  simp only [List.set_cons_succ,List.set_cons_zero] at hB7
  simp only [wpS]
  refine ⟨S.length - (p+(i+1)),by omega,i+1,_,rfl,by rw [Nat.add_assoc] at hrd;omega,rfl,by omega,by omega,hF6.fresh hF7 fun j hj h=>by have:=hF1.n;have:=hF2.n;omega,hF7.st hA6 (by omega),hB7,?_,hval⟩
  rw [Nat.add_assoc] at hrd
  omega
 rw [if_neg (by simpa using c2),aC]
 by_cases c3:dD (bM (S.drop p)).1=4
 ·have h0:cU (S.drop p)=nQ (S.drop p):=by
   unfold cU
   rw [if_neg c1,if_neg c2,if_pos c3]
  obtain ⟨b,r,hbr,hw1⟩:=mark_head hL c3
  rw [hw1] at hB4
  rw [if_pos (by simpa using c3)]
  refine bP hB4 (by simp) rfl fun σ5 hF5 hn5 hB5=>?_
  simp only [List.set_cons_zero] at hB5
  have hA5:=hF5.st hA4 (by omega)
  have hF05:Frm σ σ5 NoB:=hF04.fresh hF5 fun j hj h=>by have:=hF1.n;have:=hF2.n;omega
  have next:∀ c:Bool,(c=true↔(S.drop p).take 2=[58,61]∨(S.drop p).take 2=[45,62])→Wp aF ovD (T68k8 ⟨B,0,some 0⟩ ((p:Nat):Int) (mkB S) ⟨A,0,some 0⟩ .normal [.bool c]) σ5 fun e vs σ'=>Wp aF ovD (T68k9 ⟨A,0,some 0⟩ ⟨B,0,some 0⟩ e vs) σ' fun _ vs σ'=>∃ v,vs=[v]∧Q v σ':=by
   intro c hc
   have tail:∀ (σ6:aB) (n:Nat) (t:List UInt8),Frm σ σ6 NoB→St σ6 A [.int .i64 0,.string (bs []),.int .i64 0,.int .i64 0]→St σ6 B [.int .i64 5,.string (bs []),.int .i64 ((p:Nat):Int),.int .i64 ((p+n:Nat):Int)]→n≤(S.drop p).length→(S.drop p).take n=t→((t≠[62]∧t≠[58]→nQ (S.drop p)=(5,t))∧(t=[62]∨t=[58]→nQ (S.drop p)=(0,[])))→
     Wp aF ovD (T68k7 ⟨B,0,some 0⟩ ((p:Nat):Int) (mkB S) ⟨A,0,some 0⟩ .normal []) σ6 fun e vs σ'=>Wp aF ovD (T68k9 ⟨A,0,some 0⟩ ⟨B,0,some 0⟩ e vs) σ' fun _ vs σ'=>∃ v,vs=[v]∧Q v σ':=by
    rintro σ6 n t hF6 hA6 hB6 hn rfl hm
    simp only [wpS,T68k7]
    rw [aE hB6 rfl,aL,aV]
    refine ⟨by simp only [Bool.and_eq_true,decide_eq_true_eq];omega,?_⟩
    rw [Int.toNat_natCast,Int.toNat_natCast,ext_at]
    refine bP hB6 (by simp) rfl fun σ7 hF7 hn7 hB7=>?_
    simp only [List.set_cons_succ,List.set_cons_zero] at hB7
    have hF07:Frm σ σ7 NoB:=hF6.fresh hF7 fun j hj h=>by have:=hF1.n;have:=hF2.n;omega
    have hA7:=hF7.st hA6 (by omega)
    simp only [wpS]
    rw [aP hB7 4 rfl]
    simp only [wpS]
    rw [aE hB7 rfl,fC,cA,aC]
    by_cases d1:(S.drop p).take n=[62]
    ·rw [if_neg (by simp [d1])]
     refine bD hA7 rfl rfl fun σ8 hF8 hn8 hA8=>?_
     simp only [wpS,T68k6]
     exact fail σ8 _ (hF07.fresh hF8 fun j hj h=>by omega) hA8 rfl ⟨_,_,_,_,rfl⟩ (by rw [h0,hm.2 (.inl d1)])
    ·rw [if_pos (by simp [d1]),aE hB7 rfl,fC]
     refine bD hA7 rfl rfl fun σ8 hF8 hn8 hA8=>?_
     have hB8:=hF8.st hB7 (by omega)
     rw [fD,aV]
     refine ⟨jC (hB8.ldF rfl),?_⟩
     simp only [wpS,T68k6,cA]
     by_cases d2:(S.drop p).take n=[58]
     ·rw [decide_eq_true d2]
      exact fail σ8 _ (hF07.fresh hF8 fun j hj h=>by omega) hA8 rfl ⟨_,_,_,_,rfl⟩ (by rw [h0,hm.2 (.inr d2)])
     ·rw [decide_eq_false d2]
      exact fine σ8 5 _ _ (hF07.fresh hF8 fun j hj h=>by omega) hA8 (by rw [h0,hm.1 ⟨d1,d2⟩]) (by decide) (by rw [List.length_take];omega)
   simp only [wpS,T68k8]
   rw [aC]
   by_cases d:c=true
   ·rw [if_pos d]
    have hd:=hc.1 d
    have e2:aO (((p:Nat):Int)+2)=((p+2:Nat):Int):=by rw [aS (by omega)];omega
    rw [e2]
    refine bP hB5 (by simp) rfl fun σ6 hF6 hn6 hB6=>?_
    simp only [List.set_cons_succ,List.set_cons_zero] at hB6
    simp only [wpS]
    have h2:2≤(S.drop p).length:=by
     rcases hd with hd|hd
     ·have:=congrArg List.length hd;simp at this;simp;omega
     ·have:=congrArg List.length hd;simp at this;simp;omega
    refine tail σ6 2 _ (hF05.fresh hF6 fun j hj h=>by have:=hF1.n;have:=hF2.n;omega) (hF6.st hA5 (by omega)) hB6 h2 rfl ⟨fun _=>?_,fun h=>?_⟩
    ·unfold nQ
     rcases hd with hd|hd
     ·rw [if_pos hd,hd]
     ·rw [if_neg (by rw [hd];decide),if_pos hd,hd]
    ·rcases hd with hd|hd<;>rw [hd] at h<;>rcases h with h|h<;>cases h
   ·rw [if_neg d,wp_ret]
    have hd:¬ ((S.drop p).take 2=[58,61]∨(S.drop p).take 2=[45,62]):=fun h=>d (hc.2 h)
    rw [not_or] at hd
    refine tail σ5 1 _ hF05 hA5 hB5 (by rw [hbr];simp) rfl ⟨fun h=>?_,fun h=>?_⟩
    ·unfold nQ
     rw [if_neg hd.1,if_neg hd.2,if_neg]
     rintro (h1|h1)
     ·apply h.1
      rw [hbr] at h1 ⊢
      simp only [List.head?_cons,Option.some.injEq] at h1
      rw [h1]
      try rfl
     ·apply h.2
      rw [hbr] at h1 ⊢
      simp only [List.head?_cons,Option.some.injEq] at h1
      rw [h1]
      try rfl
    ·unfold nQ
     rw [if_neg hd.1,if_neg hd.2,if_pos]
     rw [hbr] at h ⊢
     simp only [List.take_succ_cons,List.take_zero,List.cons.injEq,and_true] at h
     rcases h with h|h
     ·left;rw [h];try rfl
     ·right;rw [h];try rfl
  rw [aK,aC]
  have e1:aO (((p:Nat):Int)+1)=((p+1:Nat):Int):=by rw [aS (by omega)];omega
  have hdr:=jZ hp
  by_cases d1:p+1<S.length
  case neg=>
   rw [if_neg (by rw [e1,hsz];simp;omega),wp_ret]
   refine next false ⟨fun h=>(Bool.noConfusion h),fun h=>?_⟩
   rcases h with h|h<;> · have:=congrArg List.length h;simp at this;omega
  have hdr2:=jZ d1
  have tk:∀ x y:UInt8,(S.drop p).take 2=[x,y]↔S.getD p 0=x∧S.getD (p+1) 0=y:=by
   intro x y
   rw [hdr,hdr2]
   simp
  have g1:(decide (0≤((p:Nat):Int))&&decide (((p:Nat):Int)<((S.length:Nat):Int)))=true:=by simp;omega
  have g2:(decide (0≤((p+1:Nat):Int))&&decide (((p+1:Nat):Int)<((S.length:Nat):Int)))=true:=by simp only [Bool.and_eq_true,decide_eq_true_eq];omega
  have bt:∀ {q:Nat} {x:UInt8} {X:Int},X=((x.toNat:Nat):Int)→(((cF (mkB S) q)==X)=true↔S.getD q 0=x):=by
   intro q x X hX
   rw [qW,hX,beq_iff_eq,u8_int]
  have arrow:S.getD p 0≠58∨S.getD (p+1) 0≠61→Wp aF ovD (grd ((decide (0≤((p:Nat):Int)))&&(decide (((p:Nat):Int)<((S.length:Nat):Int)))) (bif ((cF (mkB S) p)==45)==true then (grd ((decide (0≤((p+1:Nat):Int)))&&(decide (((p+1:Nat):Int)<((S.length:Nat):Int)))) (.ret .normal [(.bool ((cF (mkB S) (p+1))==62))])) else (.ret .normal [(.bool false)]))) σ5 fun e vs σ'=>Wp aF ovD (T68k8 ⟨B,0,some 0⟩ ((p:Nat):Int) (mkB S) ⟨A,0,some 0⟩ e vs) σ' fun e vs σ'=>Wp aF ovD (T68k9 ⟨A,0,some 0⟩ ⟨B,0,some 0⟩ e vs) σ' fun _ vs σ'=>∃ v,vs=[v]∧Q v σ':=by
   intro hne
   have hne':¬ (S.drop p).take 2=[58,61]:=by
    rw [tk]
    rintro ⟨h1,h2⟩
    rcases hne with h|h
    ·exact h h1
    ·exact h h2
   rw [aV,aC]
   refine ⟨g1,?_⟩
   by_cases d3:S.getD p 0=45
   ·rw [if_pos (by simpa using (bt (X:=45) (x:=45) rfl).2 d3),aV,wp_ret]
    refine ⟨g2,next _ ?_⟩
    rw [bt (X:=62) (x:=62) rfl,tk 45 62]
    exact ⟨fun h=>.inr ⟨d3,h⟩,fun h=>h.elim (fun h=>absurd h hne') fun h=>h.2⟩
   ·rw [if_neg (by simpa using fun h=>d3 ((bt (X:=45) (x:=45) rfl).1 (by simpa using h))),wp_ret]
    refine next false ⟨fun h=>(Bool.noConfusion h),fun h=>?_⟩
    rcases h with h|h
    ·exact absurd h hne'
    ·exact absurd ((tk _ _).1 h).1 d3
  rw [if_pos (by rw [e1,hsz];simp;omega),e1,hsz]
  simp only [Int.toNat_natCast]
  rw [aV,aC]
  refine ⟨g1,?_⟩
  by_cases d2:S.getD p 0=58
  ·rw [if_pos (by simpa using (bt (X:=58) (x:=58) rfl).2 d2),aV,aC]
   refine ⟨g2,?_⟩
   by_cases d4:S.getD (p+1) 0=61
   ·have:=(bt (q:=p+1) (X:=61) (x:=61) rfl).2 d4
    rw [if_neg (by rw [this];simp),wp_ret]
    exact next true ⟨fun _=>.inl ((tk _ _).2 ⟨d2,d4⟩),fun _=>rfl⟩
   ·have:((cF (mkB S) (p+1))==61)=false:=by
     rw [Bool.eq_false_iff]
     exact fun h=>d4 ((bt (X:=61) (x:=61) rfl).1 h)
    rw [if_pos (by rw [this];rfl)]
    exact arrow (.inr d4)
  ·have:((cF (mkB S) p)==58)=false:=by
    rw [Bool.eq_false_iff]
    exact fun h=>d2 ((bt (X:=58) (x:=58) rfl).1 h)
   rw [if_neg (by rw [this];simp)]
   exact arrow (.inl d2)
 ·have h0:cU (S.drop p)=(0,[]):=by
   unfold cU
   rw [if_neg c1,if_neg c2,if_neg c3]
  rw [if_neg (by simpa using c3)]
  simp only [wpS,T68k9]
  rw [aP hB4 4 rfl]
  simp only [wpS]
  refine bD hA4 rfl rfl fun σ5 hF5 hn5 hA5=>?_
  rw [aP hA5 4 rfl]
  simp only [wpS]
  exact ⟨_,rfl,hq2 (by rw [h0]) _ [] _ _ σ5 (hF04.fresh hF5 fun j hj h=>by omega)⟩
end
end Go.Pg
namespace Go.Pg
open Go.Proofs Go.Utf8 Go.Lib
set_option linter.unusedSimpArgs false
def wc (w:Wd):List Value:=[.int .i64 w.k,.string (mkB w.t),.int .i64 w.fr,.int .i64 w.to]
def wcs (ws:List Wd):List Value:=ws.flatMap wc
theorem wcs_len (ws:List Wd):(wcs ws).length=ws.length*4:=by
 induction ws with
 |nil=>rfl
 |cons w r ih=>
  unfold wcs at ih ⊢
  simp only [List.flatMap_cons,List.length_append,List.length_cons,ih]
  simp [wc]
  omega
theorem wcs_snoc (ws:List Wd) (w:Wd):wcs (ws++[w])=wcs ws++wc w:=by simp [wcs]
def comb (ws:List Wd):Except (Int × Nat) (List Wd)→Except (Int × Nat) (List Wd)
 | .ok l=>.ok (ws++l)
 | .error e=>.error e
section
variable {σ:aB}
theorem wp_lexD (S:List UInt8) {Q:Value→aB→Prop}
  (hok:∀ ws,S.length≤4000→lexA S=.ok ws→∀ σ' b p c,Frm σ σ' NoB→SlE σ' b p c 4 (wcs ws)→(p≠none→σ.n≤b)→ws.length≤2000→Q (.tuple #[.slice p ws.length c,.int .i64 0,.int .i64 0]) σ')
  (herr:4000<S.length∨(∃ x,lexA S=.error x)→∀ e a σ',Frm σ σ' NoB→e≠0→Q (.tuple #[.slice none 0 0,.int .i64 e,.int .i64 a]) σ'):WpF aF ovD 42 [.string (mkB S)] σ Q:=by
 refine WpF.of (T42_eq _) rfl ?_
 have hsz:=bJ S
 rw [T42,aC]
 by_cases hl:4000<S.length
 ·rw [if_pos (by rw [hsz];simp;omega)]
  simp only [wpS]
  exact ⟨_,rfl,herr (.inl hl) _ _ σ (Frm.refl _ _) (by decide)⟩
 rw [if_neg (by rw [hsz];simp;omega)]
 refine Wp.loop (fun m st σ'=>∃ (at':Nat) (ws:List Wd) (p:Option Addr) (c b:Nat),m=S.length - at'∧at'≤S.length∧ws.length≤2000∧st=[.slice p ws.length c,.int .i64 0,.int .i64 0,.slice none 0 0,.int .i64 ((at':Nat):Int)]∧Frm σ σ' NoB∧SlE σ' b p c 4 (wcs ws)∧(p≠none→σ.n≤b)∧lexA S=comb ws (jI (S.length+1) (S.drop at') at' ws.length)) S.length
  ⟨0,[],none,0,0,rfl,by omega,by simp,rfl,Frm.refl _ _,.inl ⟨rfl,rfl,rfl⟩,fun h=>absurd rfl h,?_⟩ ?_
 ·rw [List.drop_zero]
  unfold lexA
  simp only [List.length_nil]
  cases jI (S.length+1) S 0 0<;>rfl
 rintro m st σ1 ⟨q,ws,p,c,b,rfl,hq,hws,rfl,hF1,hR1,hb1,hlx⟩
 unfold T42b0
 simp only [wpS]
 rw [aC,hsz]
 by_cases h1:q<S.length
 case neg=>
  rw [if_neg (by simp;omega),wp_ret]
  have hd:S.drop q=[]:=List.drop_of_length_le (by omega)
  rw [hd,lexL_end] at hlx
  simp only [comb,List.append_nil] at hlx
  simp only [wpS,T42k2]
  exact ⟨_,rfl,hok ws (by omega) hlx σ1 b p c hF1 hR1 hb1 hws⟩
 have hL:S.drop q≠[]:=by simp;omega
 have hw:=dE hL
 have hlen:(S.drop q).length=S.length - q:=List.length_drop
 rw [if_pos (by simp;omega),aK,aV]
 refine ⟨by simp only [Bool.and_eq_true,decide_eq_true_eq];omega,?_⟩
 rw [Int.toNat_natCast,←hsz,ext_to,aD]
 refine wp_first hL (by omega) fun σ2 hF2=>?_
 simp only [wpS]
 rw [aD,WpF.eq (ev_class' (kU _) _),aL,aC]
 have hF02:=hF1.seq hF2
 have hR2:=hR1.frm hF2 fun _ h=>h
 by_cases c1:dD (bM (S.drop q)).1=3
 ·have e1:aO (((q:Nat):Int)+((bM (S.drop q)).2:Nat))=((q+(bM (S.drop q)).2:Nat):Int):=by rw [aS (by omega)];omega
  rw [if_pos (by simpa using c1)]
  simp only [wpS,T42k1,e1]
  refine ⟨S.length - (q+(bM (S.drop q)).2),by omega,q+(bM (S.drop q)).2,ws,p,c,b,rfl,by omega,hws,by trivial,hF02,hR2,hb1,?_⟩
  rw [hlx,lexL_shift (shift_blank hL (by simpa [blk] using c1)),List.drop_drop]
  try rfl
 rw [if_neg (by simpa using c1),aK,aC]
 have hblk:blk (bM (S.drop q)).1=false:=by simpa [blk] using c1
 have key:∀ r:Bool,(r=true↔(S.drop q).take 2=[40,42])→Wp aF ovD (T42k0 (mkB S) ((q:Nat):Int) p ws.length c 0 0 none 0 0 .normal [.bool r]) σ2 fun e vs σ'=>Wp aF ovD (T42k1 e vs) σ' fun e st' σ'=>match e with
   | .normal=>∃ m',m'<S.length - q∧∃ (at':Nat) (ws:List Wd) (p:Option Addr) (c b:Nat),m'=S.length - at'∧at'≤S.length∧ws.length≤2000∧st'=[.slice p ws.length c,.int .i64 0,.int .i64 0,.slice none 0 0,.int .i64 ((at':Nat):Int)]∧Frm σ σ' NoB∧SlE σ' b p c 4 (wcs ws)∧(p≠none→σ.n≤b)∧lexA S=comb ws (jI (S.length+1) (S.drop at') at' ws.length)
   |e=>Wp aF ovD (T42k2 e st') σ' fun _ vs σ'=>∃ v,vs=[v]∧Q v σ':=by
  intro r hr
  simp only [wpS,T42k0]
  rw [aC]
  by_cases c2:r=true
  ·have h2:=hr.1 c2
   rw [if_pos c2,aD,WpF.eq (ev_remark S (by omega) h1 h2),aL,aC]
   cases hm:rmk (S.drop q).length (S.drop q) 0 with
   |none=>
    rw [if_pos (by simp)]
    simp only [wpS,T42k1,T42k2]
    rw [lexL_rem h2 hm] at hlx
    exact ⟨_,rfl,herr (.inr ⟨_,hlx⟩) _ _ σ2 hF02 (by decide)⟩
   |some m=>
    have hb:=gY _ _ _ _ hm
    rw [if_neg (by simp;omega)]
    simp only [wpS,T42k1]
    refine ⟨S.length - (q+m),by omega,q+m,ws,p,c,b,rfl,by omega,hws,by trivial,hF02,hR2,hb1,?_⟩
    rw [hlx,lexL_shift (shift_rem h2 hm),List.drop_drop]
  ·have h2:(S.drop q).take 2≠[40,42]:=fun h=>c2 (hr.2 h)
   have hsk:=skp_here hL hblk h2
   rw [lexL_word hL hsk _ _ _ (by omega)] at hlx
   rw [if_neg c2,aD]
   refine wp_wordD S (by omega) h1 ?_ ?_
   ·intro h5 σ3 hF3
    rw [if_neg h5] at hlx
    have hn:=(isW_of h5).ne hL
    generalize hkd:(cU (S.drop q)).1=kd at hlx h5 ⊢
    generalize ht:(cU (S.drop q)).2=t at hn hlx ⊢
    have ht1:1≤t.length:=List.length_pos_iff.2 hn.1
    unfold wv
    simp only [wpS]
    have hF03:=hF02.seq hF3
    refine aN fun σ4 hF4 hn4 hS4=>?_
    generalize hA:σ3.n=A at hS4
    have hAn:σ.n≤A:=by rw [←hA];exact hF03.n
    refine bD hS4 rfl rfl fun σ5 hF5 hn5 hS5=>?_
    have hF05:Frm σ σ5 NoB:=(hF03.seq hF4).fresh hF5 fun j hj e=>by omega
    have hF25:Frm σ2 σ5 NoB:=(hF3.seq hF4).fresh hF5 fun j hj e=>by have:=hF3.n;omega
    have hR5:=hR2.frm hF25 fun _ h=>h
    rw [aC,if_neg (by simp),aC]
    by_cases h6:2000≤ws.length
    ·rw [if_pos h6] at hlx
     rw [if_pos (by simp;omega)]
     simp only [wpS,T42k1,T42k2]
     exact ⟨_,rfl,herr (.inr ⟨_,hlx⟩) _ _ σ5 hF05 (by decide)⟩
    ·rw [if_neg h6] at hlx
     rw [if_neg (by simp;omega),aP hS5 4 rfl]
     simp only [wpS]
     refine jQ (ys:=wc ⟨kd,t,q,q+t.length⟩) hR5 (wcs_len ws) (by decide) (by decide) rfl (by intro y hy;simp [wc] at hy;rcases hy with rfl|rfl|rfl|rfl<;>rfl) (by omega) (by omega) fun σ8 b8 off8 s8 c8 hF8 hb8 hR8=>?_
     have hS8:St σ8 A [.int .i64 kd,.string (mkB t),.int .i64 ((q:Nat):Int),.int .i64 ((q+t.length:Nat):Int)]:=hF8.st hS5 fun h=>by
      have:=hR2.lt h.1
      have:=hF3.n
      omega
     rw [aE hS8 (v:=.int .i64 ((q+t.length:Nat):Int)) rfl]
     simp only [wpS,T42k1]
     rw [←wcs_snoc] at hR8
     refine ⟨S.length - (q+t.length),by omega,q+t.length,ws++[⟨kd,t,q,q+t.length⟩],some ⟨b8,off8,some s8⟩,c8,b8,rfl,by omega,by simp;omega,by simp,hF05.fresh hF8 ?_,.inr ⟨off8,s8,rfl,hR8⟩,?_,?_⟩
     ·intro j hj e
      have:=hb1 e.1
      omega
     ·intro _
      rcases hb8 with ⟨hp,rfl⟩|hb8
      ·exact hb1 hp
      ·have:=hF05.n
       omega
     ·rw [hlx,List.drop_drop,List.length_append,List.length_singleton]
      cases jI (S.length+1) (S.drop (q+t.length)) (q+t.length) (ws.length+1) with
      |ok l=>simp [comb]
      |error e=>rfl
   ·intro h5 k t a b' σ3 hF3
    rw [if_pos h5] at hlx
    unfold wv
    simp only [wpS]
    refine aN fun σ4 hF4 hn4 hS4=>?_
    refine bD hS4 rfl rfl fun σ5 hF5 hn5 hS5=>?_
    have hF05:Frm σ σ5 NoB:=((hF02.seq hF3).seq hF4).fresh hF5 fun j hj e=>by have:=hF02.n;have:=hF3.n;omega
    rw [aC,if_pos (by simp)]
    simp only [wpS,T42k1,T42k2]
    exact ⟨_,rfl,herr (.inr ⟨_,hlx⟩) _ _ σ5 hF05 (by decide)⟩
 have e1:aO (((q:Nat):Int)+1)=((q+1:Nat):Int):=by rw [aS (by omega)];omega
 obtain ⟨b0,hb0,hd0⟩:=byte_at h1
 by_cases c2:(bM (S.drop q)).1=40
 ·obtain ⟨b',r',e2,e3,_⟩:=decL_lt hL (by omega)
  have hb40:b0=40:=by
   rw [hd0] at e2
   cases e2
   exact UInt8.toNat_inj.1 (by rw [e3,c2];rfl)
  rw [if_pos (by simp;omega),aC,e1]
  by_cases c3:q+1<S.length
  ·obtain ⟨b1,hb1',hd1⟩:=byte_at c3
   rw [if_pos (by rw [hsz];simp;omega),aV]
   refine ⟨by rw [hsz];simp only [Bool.and_eq_true,decide_eq_true_eq];omega,?_⟩
   rw [Int.toNat_natCast,hb1',wp_ret]
   refine key _ ?_
   rw [hd0,hd1,hb40,beq_iff_eq]
   constructor
   ·intro h
    have:b1=42:=(u8_int (a:=b1) (x:=42)).1 h
    rw [this]
    try rfl
   ·intro h
    simp at h
    rw [h]
    try rfl
  ·rw [if_neg (by rw [hsz];simp;omega),wp_ret]
   refine key false ⟨fun h=>(Bool.noConfusion h),fun h=>?_⟩
   have:=congrArg List.length h
   simp at this
   omega
 ·rw [if_neg (by simp;omega),wp_ret]
  refine key false ⟨fun h=>(Bool.noConfusion h),fun h=>?_⟩
  rw [hd0] at h
  have hb40:b0=40:=(kL.1 h).1
  rw [hd0,hb40] at c2
  exact absurd (by rw [eP (by decide)];rfl) c2
theorem oneW_of {S:List UInt8} {ws:List Wd} (hl:S.length≤4000) (h:lexA S=.ok ws) (k:Int):oneW k S=decide (ws.length=1∧(ws.head?.map (fun w=>(w.k,w.t)))=some (k,S)):=by
 unfold oneW
 rw [if_neg (by omega),h]
 match ws with
 |[]=>simp
 |[w]=>simp [Bool.decide_and]
 |w::v::r=>simp
theorem oneW_err {S:List UInt8} (h:4000<S.length∨∃ x,lexA S=.error x) (k:Int):oneW k S=false:=by
 unfold oneW
 rcases h with h|⟨x,h⟩
 ·rw [if_pos h]
 ·rw [h]
  split<;>rfl
theorem wp_name94 (S:List UInt8) {Q:Value→aB→Prop} (hQ:∀ σ',Frm σ σ' NoB→Q (.bool (oneW 2 S)) σ'):WpF aF ovD 94 [.string (mkB S)] σ Q:=by
 refine WpF.of (T94_eq _) rfl ?_
 rw [T94,aD]
 have fin:∀ (b:Bool) (σ':aB),Frm σ σ' NoB→b=oneW 2 S→Wp aF ovD (T94k0 .normal [.bool b]) σ' fun _ vs σ'=>∃ v,vs=[v]∧Q v σ':=by
  rintro b σ' hF rfl
  simp only [wpS,T94k0]
  exact ⟨_,rfl,hQ σ' hF⟩
 refine wp_lexD S ?_ ?_
 ·intro ws hl hws σ1 b p c hF hR _ _
  have e:=oneW_of hl hws 2
  simp only [wpS]
  rw [aC,if_pos (by simp),aC]
  by_cases h1:ws.length=1
  ·rw [if_pos (by simp;omega)]
   obtain ⟨w,rfl⟩:∃ w,ws=[w]:=by
    match ws,h1 with
    |[w],_=>exact ⟨w,rfl⟩
   rcases hR with ⟨_,_,h⟩|⟨off,s,rfl,hR⟩
   ·simp [wcs,wc] at h
   have r0:=hR.ld (i:=0) (v:=.int .i64 w.k) rfl
   have r1:=hR.ld (i:=1) (v:=.string (mkB w.t)) rfl
   simp only [wpS]
   rw [aV]
   refine ⟨by simp,?_⟩
   rw [aZ,show aadd (aadd ⟨b,off,some s⟩ 0) 0=⟨b,off+0,some s⟩ from rfl,r0]
   simp only [wpS]
   rw [aC]
   by_cases h2:w.k=2
   ·rw [if_pos (by simpa using h2),aV]
    refine ⟨by simp,?_⟩
    rw [aZ,show aadd (aadd ⟨b,off,some s⟩ 0) 1=⟨b,off+1,some s⟩ from rfl,r1]
    simp only [wpS]
    rw [eX]
    exact fin _ σ1 hF (by rw [e];simp [h2])
   ·rw [if_neg (by simpa using h2),wp_ret]
    exact fin _ σ1 hF (by rw [e];simp [h2])
  ·rw [if_neg (by simp;omega),wp_ret]
   exact fin _ σ1 hF (by rw [e];simp [h1])
 ·intro he e a σ1 hF h0
  simp only [wpS]
  rw [aC,if_neg (by simpa using h0),wp_ret]
  exact fin _ σ1 hF (by rw [oneW_err he])
theorem wp_cons75 (S:List UInt8) {Q:Value→aB→Prop} (hQ:∀ σ',Frm σ σ' NoB→Q (.bool (conM S)) σ'):WpF aF ovD 75 [.string (mkB S)] σ Q:=by
 refine WpF.of (T75_eq _) rfl ?_
 rw [T75,aD]
 have fin:∀ (b:Bool) (σ':aB),Frm σ σ' NoB→b=oneW 3 S→Wp aF ovD (T75k0 .normal [.bool b]) σ' fun _ vs σ'=>∃ v,vs=[v]∧Q v σ':=by
  rintro b σ' hF rfl
  simp only [wpS,T75k0]
  exact ⟨_,rfl,hQ σ' hF⟩
 refine wp_lexD S ?_ ?_
 ·intro ws hl hws σ1 b p c hF hR _ _
  have e:=oneW_of hl hws 3
  simp only [wpS]
  rw [aC,if_pos (by simp),aC]
  by_cases h1:ws.length=1
  ·rw [if_pos (by simp;omega)]
   obtain ⟨w,rfl⟩:∃ w,ws=[w]:=by
    match ws,h1 with
    |[w],_=>exact ⟨w,rfl⟩
   rcases hR with ⟨_,_,h⟩|⟨off,s,rfl,hR⟩
   ·simp [wcs,wc] at h
   have r0:=hR.ld (i:=0) (v:=.int .i64 w.k) rfl
   have r1:=hR.ld (i:=1) (v:=.string (mkB w.t)) rfl
   simp only [wpS]
   rw [aV]
   refine ⟨by simp,?_⟩
   rw [aZ,show aadd (aadd ⟨b,off,some s⟩ 0) 0=⟨b,off+0,some s⟩ from rfl,r0]
   simp only [wpS]
   rw [aC]
   by_cases h2:w.k=3
   ·rw [if_pos (by simpa using h2),aV]
    refine ⟨by simp,?_⟩
    rw [aZ,show aadd (aadd ⟨b,off,some s⟩ 0) 1=⟨b,off+1,some s⟩ from rfl,r1]
    simp only [wpS]
    rw [eX]
    exact fin _ σ1 hF (by rw [e];simp [h2])
   ·rw [if_neg (by simpa using h2),wp_ret]
    exact fin _ σ1 hF (by rw [e];simp [h2])
  ·rw [if_neg (by simp;omega),wp_ret]
   exact fin _ σ1 hF (by rw [e];simp [h1])
 ·intro he e a σ1 hF h0
  simp only [wpS]
  rw [aC,if_neg (by simpa using h0),wp_ret]
  exact fin _ σ1 hF (by rw [oneW_err he])
theorem wp_var74 (S:List UInt8) {Q:Value→aB→Prop} (hQ:∀ σ',Frm σ σ' NoB→Q (.bool (tB S)) σ'):WpF aF ovD 74 [.string (mkB S)] σ Q:=by
 refine WpF.of (T74_eq _) rfl ?_
 rw [T74,aD]
 refine wp_name94 S fun σ1 hF=>?_
 simp only [wpS,cA]
 have e:(oneW 2 S&&!decide (S=[95]))=tB S:=by unfold tB;rw [decide_not]
 rw [e]
 exact ⟨_,rfl,hQ σ1 hF⟩
end
end Go.Pg
namespace Go.Pg
open Go.Proofs Go.Utf8 Go.Lib
set_option linter.unusedSimpArgs false
section
variable {σ:aB}
theorem ev_class {r:Int} (h:rOK r) (σ:aB):EvF aF ovD 100 [.int .i32 r] σ (.int .i64 (dD r)) σ:=by
 refine EvF.of (T100_eq _) rfl ?_
 rw [T100,aK,aK,aC]
 by_cases h1:r=95∨r=39
 ·have h1':((r==95)||(r==39))=true:=by simpa using h1
  have hc:dD r=1:=cls_1 (by rcases h1 with h1|h1<;>simp [h1])
  rw [if_neg (by rw [h1'];simp),hc]
  simp [wp_ret,T100k0,T100k17,aR,aJ,aX,aL,aI]
 ·have h1':((r==95)||(r==39))=false:=by simpa using h1
  rw [if_pos (by rw [h1'];rfl),aD,WpF.eq (ev_letter h σ)]
  simp only [aX,wp_ret,T100k0,aR,aJ,aI,aC]
  by_cases h2:isLetterU r=true
  ·rw [if_pos h2,cls_1 (.inr (.inr h2))]
   simp [wp_ret,T100k17,aR,aJ,aL,aI]
  ·have n1:¬ (r=95∨r=39∨isLetterU r=true):=fun h=>h.elim (fun h=>h1 (.inl h)) fun h=>h.elim (fun h=>h1 (.inr h)) h2
   rw [if_neg h2]
   by_cases h3:48≤r∧r≤57
   ·rw [if_pos (by simpa using h3),cls_2 n1 h3]
    simp [wp_ret,T100k17,aR,aJ,aL,aI]
   ·rw [if_neg (by simpa using h3)]
    simp only [T100k17,aR,jA,aJ,aL,aI]
    by_cases b1:r=32
    ·rw [cls_3 n1 h3 (by simp [b1])];subst b1;simp [wp_ret,aK,T100k15,T100k16,aR,aJ,aL,aX,aI]
    by_cases b2:r=9
    ·rw [cls_3 n1 h3 (by simp [b2])];subst b2;simp [wp_ret,aK,T100k15,T100k16,T100k2,aR,aJ,aL,aX,aI]
    by_cases b3:r=10
    ·rw [cls_3 n1 h3 (by simp [b3])];subst b3;simp [wp_ret,aK,T100k15,T100k16,T100k1,T100k2,aR,aJ,aL,aX,aI]
    by_cases b4:r=13
    ·rw [cls_3 n1 h3 (by simp [b4])];subst b4;simp [wp_ret,aK,T100k15,T100k16,T100k1,T100k2,aR,aJ,aL,aX,aI]
    have n3:¬ (r=32∨r=9∨r=10∨r=13):=by simp only [b1,b2,b3,b4,or_self,not_false_eq_true]
    by_cases hm:r∈marks
    ·rw [cls_4 n1 h3 n3 hm]
     unfold marks at hm
     simp only [List.mem_cons,List.mem_nil_iff,or_false] at hm
     rcases hm with rfl|rfl|rfl|rfl|rfl|rfl|rfl|rfl|rfl|rfl|rfl|rfl|rfl<;>
      simp [wp_ret,aK,T100k15,T100k16,T100k1,T100k2,T100k3,T100k4,T100k5,T100k6,T100k7,T100k8,T100k9,T100k10,T100k11,T100k12,T100k13,T100k14,aR,aJ,aL,aX,aI]
    ·rw [cls_0 n1 h3 n3 hm]
     unfold marks at hm
     simp only [List.mem_cons,List.mem_nil_iff,or_false,not_or] at hm
     obtain ⟨m1,m2,m3,m4,m5,m6,m7,m8,m9,m10,m11,m12,m13⟩:=hm
     have q:∀ k:Int,¬ r=k→(r==k)=false:=fun k hk=>by simpa using hk
     simp [wp_ret,aK,aC,T100k15,T100k16,T100k1,T100k2,T100k3,T100k4,T100k5,T100k6,T100k7,T100k8,T100k9,T100k10,T100k11,T100k12,T100k13,T100k14,aR,jA,aJ,aL,aX,aI,b1,b2,b3,b4,m1,m2,m3,m4,m5,m6,m7,m8,m9,m10,m11,m12,m13]
def Cls (g:FuncId) (may:Nat→Bool):Prop:=∀ (r:Nat) (σ:aB),rOK (r:Nat)→EvF aF ovD g [.int .i32 (r:Nat)] σ (.bool (may r)) σ
theorem cls_dgt:Cls 103 dig:=by
 intro r σ h
 refine EvF.of (T103_eq _) rfl ?_
 rw [T103,aD,WpF.eq (ev_class h σ),aL,wp_ret]
 exact ⟨rfl,rfl⟩
theorem cls_lod:Cls 110 lod:=by
 intro r σ h
 refine EvF.of (T110_eq _) rfl ?_
 rw [T110,aD,WpF.eq (ev_class h σ),aL,wp_ret]
 exact ⟨rfl,rfl⟩
theorem wp_run {g:FuncId} {may:Nat→Bool} (hg:Cls g may) (L:List UInt8) {Q:Value→aB→Prop} (hQ:∀ σ',Frm σ σ' NoB→Q (.int .i64 (run may L:Nat)) σ'):
  WpF aF ovD 102 [.string (mkB L),.func (.func g) #[] #[]] σ Q:=by
 refine WpF.of (T102_eq _ _) rfl ?_
 rw [T102,aZ,rng_eq]
 simp only [iV,cH]
 refine Wp.loop (fun m st σ'=>∃ p,m=L.length - p∧p≤L.length∧Frm σ σ' NoB∧σ.n<σ'.n∧σ'.get σ.n=some (.iter (mkB L) p)∧st=[.int .i64 0]∧run may L=p+run may (L.drop p)) L.length
  ⟨0,rfl,by omega,Frm.rng _ _,by rw [aB.push_n];omega,eG _ _,rfl,by simp⟩ ?_
 rintro m st σ' ⟨p,rfl,hp,hF,hn,hg',rfl,hr⟩
 simp only [T102b0,aJ,aL,aI]
 by_cases h1:p<L.length
 ·have hne:L.drop p≠[]:=by simp;omega
  have hw:=dE hne
  rw [List.length_drop] at hw
  rw [hJ hg' (by rw [bJ];exact h1),aK,rI,aD,nA L p hp]
  simp only [List.nil_append,List.append_nil]
  rw [WpF.eq (hg _ _ (kU _)),aX,aC]
  rw [dG hne] at hr
  by_cases hm:may (bM (L.drop p)).1=true
  ·rw [if_pos hm,List.drop_drop] at hr
   rw [if_neg (by simp [hm]),wp_ret]
   simp only [T102k0,jA,aR,aJ,aL,aI]
   rw [wp_ret]
   refine ⟨_,?_,p+(bM (L.drop p)).2,rfl,by omega,hF.putNew (Nat.le_refl _) hn _,hn,dI _ _ _,rfl,by omega⟩
   omega
  ·rw [if_neg hm] at hr
   rw [if_pos (by simp [hm]),wp_ret]
   simp only [T102k0,T102k1,aR,aJ,aL,aI]
   rw [wp_ret]
   simp only [sw_re,aR,aJ,aL,aI]
   rw [wp_ret]
   rw [Nat.add_zero] at hr
   rw [←hr]
   exact ⟨_,rfl,hQ _ (hF.putNew (Nat.le_refl _) hn _)⟩
 ·obtain rfl:p=L.length:=by omega
  rw [mR hg' (by rw [bJ];omega),wp_ret]
  simp only [T102k1,aR,aJ,aL,aI]
  rw [wp_ret,bJ]
  rw [List.drop_length,run_nil,Nat.add_zero] at hr
  rw [←hr]
  exact ⟨_,rfl,hQ _ hF⟩
theorem wp_upperL {L:List UInt8} (hL:L≠[]) {Q:Value→aB→Prop} (hQ:∀ σ',Frm σ σ' NoB→Q (.bool (isUpperU ((bM L).1:Nat))) σ'):WpF aF ovD 111 [.string (mkB L)] σ Q:=by
 have hl:=List.length_pos_iff.2 hL
 refine WpF.of (T111_eq _) rfl ?_
 rw [T111,aZ,rng_eq]
 simp only [iV,cH]
 refine Wp.count 0 (fun _ st σ'=>σ'=σ.push (.iter (mkB L) 0)∧st=[.bool false]) ⟨rfl,rfl⟩ (fun j _ _ hj _=>by omega) ?_
 rintro st σ' ⟨rfl,rfl⟩
 simp only [T111b0,aJ,aX,aI]
 have e:=nA L 0 (by omega)
 rw [List.drop_zero] at e
 rw [hJ (eG _ _) (by rw [bJ];exact hl),e,aK,aD,WpF.eq (ev_upper (kU L) _)]
 simp only [aX,wp_ret,T111k0,T111k1,aR,sw_re,aJ,aI]
 exact ⟨_,rfl,hQ _ ((Frm.rng σ _).putNew (Nat.le_refl _) (by rw [aB.push_n];omega) _)⟩
theorem ev_prefix (L p:List UInt8):EvF aF ovD 113 [.string (mkB L),.string (bs p)] σ (.bool (decide (L.take p.length=p))) σ:=by
 have h55:EvF aF ovD 115 [.string (mkB L),.string (bs p)] σ (.bool (decide (L.take p.length=p))) σ:=by
  refine EvF.of (T115_eq _ _) rfl ?_
  have hs:(bs p).size=p.length:=rfl
  rw [T115,aK,hs,bJ,aC]
  by_cases h:p.length≤L.length
  ·rw [if_pos (by simp;omega),aV]
   refine ⟨by simp;omega,?_⟩
   rw [wp_ret]
   simp only [T115k0,aR,aJ,aX,aI]
   rw [wp_ret,ext_0,tl_mkB,tl_bs]
   refine ⟨?_,rfl⟩
   congr 2
   by_cases e:L.take p.length=p
   ·rw [e];simp
   ·simp [e]
  ·rw [if_neg (by simp;omega),wp_ret]
   simp only [T115k0,aR,aJ,aX,aI]
   rw [wp_ret]
   refine ⟨?_,rfl⟩
   have:¬ L.take p.length=p:=by
    intro e
    have:=congrArg List.length e
    rw [List.length_take] at this
    omega
   simp [this]
 refine EvF.of (T113_eq _ _) rfl ?_
 rw [T113,aD,WpF.eq h55,aX,wp_ret]
 exact ⟨rfl,rfl⟩
def EvB (p:Pg) (σ:aB) (b:Bool):Prop:=∀ Q:cJ,Wp aF ovD p σ Q=Q .normal [.bool b] σ
theorem EvB.ret (σ:aB) (b:Bool):EvB (.ret .normal [.bool b]) σ b:=fun Q=>by rw [wp_ret]
theorem EvB.cond {p:Pg} {σ:aB} {b c:Bool} (h:EvB p σ b):EvB (bif c then .ret .normal [.bool c] else p) σ (c||b):=by
 cases c with
 |true=>exact EvB.ret σ true
 |false=>exact h
theorem EvB.join {p:Pg} {k:Ex→List Value→Pg} {σ:aB} {b:Bool} (h:EvB p σ b) (hk:∀ x,EvB (k .normal [.bool x]) σ x):EvB (.join p k) σ b:=fun Q=>by rw [aK,h,hk b]
theorem ev_isKey (t:List UInt8):EvF aF ovD 112 [.string (mkB t)] σ (.bool (iH t)) σ:=by
 refine EvF.of (T112_eq _) rfl ?_
 have hk:∃ b,b=iH t∧Wp aF ovD (T112k17 .normal [.bool b]) σ (fun e vs σ1=>Wp aF ovD (T112k18 e vs) σ1 fun _ vs σ1=>vs=[.bool (iH t)]∧σ1=σ):=by
  refine ⟨_,rfl,?_⟩
  simp only [T112k17,aR,aJ,aX,aI]
  rw [aC]
  cases iH t with
  |true=>
   rw [if_pos rfl,wp_ret]
   simp only [T112k18,aR,aJ,aX,aI]
   rw [wp_ret]
   exact ⟨rfl,rfl⟩
  |false=>
   rw [if_neg (by simp),wp_ret]
   simp only [T112k18,jA,aR,aJ,aX,aI]
   rw [wp_ret]
   exact ⟨rfl,rfl⟩
 obtain ⟨b,hb,hk⟩:=hk
 rw [T112,aK,aK]
 have pass:∀ {k:Ex→List Value→Pg},(∀ x,k .normal [.bool x]=.ret .normal [.bool x])→∀ x,EvB (k .normal [.bool x]) σ x:=fun h x=>by rw [h];exact EvB.ret _ _
 have passK:∀ x:Bool,T112k0 .normal [.bool x]=.ret .normal [.bool x]:=fun x=>by simp only [T112k0,aR,aJ,aX,aI]
 have key:∀ p,(∃ c,EvB p σ c∧c=b)→Wp aF ovD p σ fun e vs σ1=>Wp aF ovD (T112k17 e vs) σ1 fun e vs σ1=>Wp aF ovD (T112k18 e vs) σ1 fun _ vs σ1=>vs=[.bool (iH t)]∧σ1=σ:=by
  rintro p ⟨c,hp,rfl⟩
  rw [hp]
  exact hk
 apply key
 apply Exists.intro
 apply And.intro
 ·repeat' first
   |exact EvB.ret _ _
   |apply EvB.cond
   |(apply EvB.join;case hk=>exact pass fun x=>passK x)
 ·rw [hb]
  simp only [iH,keys,List.any_cons,List.any_nil,tl_mkB,tl_bs,Bool.or_false]
theorem wp_value (t:List UInt8) (ht:∀ b∈t,48≤b.toNat∧b.toNat≤57) {Q:Value→aB→Prop} (hQ:∀ n σ',Frm σ σ' NoB→Q (.tuple #[.int .i64 n,.bool (lY t 0)]) σ'):
  WpF aF ovD 104 [.string (mkB t)] σ Q:=by
 refine WpF.of (T104_eq _) rfl ?_
 rw [T104,aZ,rng_eq]
 simp only [iV,cH]
 refine Wp.loop (fun m st σ'=>∃ (p:Nat) (n:Int),m=t.length - p∧p≤t.length∧Frm σ σ' NoB∧σ.n<σ'.n∧σ'.get σ.n=some (.iter (mkB t) p)∧0≤n∧n≤4611686018427387903∧st=[.int .i64 n,.bool false,.int .i64 0]∧lY t 0=lY (t.drop p) n) t.length
  ⟨0,0,rfl,by omega,Frm.rng _ _,by rw [aB.push_n];omega,eG _ _,by omega,by omega,rfl,by simp⟩ ?_
 rintro m st σ' ⟨p,n,rfl,hp,hF,hn,hg',h0,h1,rfl,hv⟩
 simp only [T104b0,aJ,aL,aX,aI]
 by_cases hpl:p<t.length
 ·obtain ⟨b,r,hb⟩:∃ b r,t.drop p=b::r:=by
   cases hX:t.drop p with
   |nil=>simp at hX;omega
   |cons b r=>exact ⟨b,r,rfl⟩
  have hbt:=ht b (List.mem_of_mem_drop (by rw [hb];simp))
  have hr:r=t.drop (p+1):=by
   have:=congrArg (List.drop 1) hb
   rw [List.drop_drop] at this
   simpa using this.symm
  have hd:=eP (b:=b) (r:=r) (by omega)
  rw [hJ hg' (by rw [bJ];exact hpl),nA t p hp,hb,hd,aK]
  simp only
  have e32:wi32 ((b.toNat:Int) - 48)=(b.toNat:Int) - 48:=wi32_in (by omega)
  have e64:aO ((b.toNat:Int) - 48)=(b.toNat:Int) - 48:=aS (by omega)
  have ex:aO (4611686018427387903 - ((b.toNat:Int) - 48))=4611686018427387903 - ((b.toNat:Int) - 48):=aS (by omega)
  have ed:Int.tdiv (4611686018427387903 - ((b.toNat:Int) - 48)) 10=(4611686018427387903 - ((b.toNat:Int) - 48)) / 10:=Int.tdiv_eq_ediv_of_nonneg (by omega)
  have ed2:aO (Int.tdiv (4611686018427387903 - ((b.toNat:Int) - 48)) 10)=Int.tdiv (4611686018427387903 - ((b.toNat:Int) - 48)) 10:=aS (by rw [ed];omega)
  rw [e32,e64,ex,ed2,aC]
  rw [hb,show lY (b::r) n=if n>Int.tdiv (4611686018427387903 - ((b.toNat:Int) - 48)) 10 then false else lY r (10*n+((b.toNat:Int) - 48)) from rfl] at hv
  by_cases hc:n>Int.tdiv (4611686018427387903 - ((b.toNat:Int) - 48)) 10
  ·rw [if_pos hc] at hv
   rw [if_pos (by simpa using hc),wp_ret]
   simp only [T104k0,aR,aJ,aL,aX,aI]
   rw [wp_ret]
   simp only [T104k1,sw_re,aR,aJ,aL,aX,aI]
   rw [wp_ret,←hv]
   exact ⟨_,rfl,hQ _ _ (hF.putNew (Nat.le_refl _) hn _)⟩
  ·rw [if_neg hc] at hv
   rw [if_neg (by simpa using hc),wp_ret]
   have h10:aO (10*n)=10*n:=aS (by rw [ed] at hc;omega)
   have h11:aO (10*n+((b.toNat:Int) - 48))=10*n+((b.toNat:Int) - 48):=aS (by rw [ed] at hc;omega)
   simp only [T104k0,jA,aR,aJ,aL,aX,aI]
   rw [wp_ret,h10,h11]
   refine ⟨t.length - (p+1),by omega,p+1,10*n+((b.toNat:Int) - 48),rfl,by omega,hF.putNew (Nat.le_refl _) hn _,hn,dI _ _ _,by omega,by rw [ed] at hc;omega,rfl,?_⟩
   rw [hv,hr]
 ·obtain rfl:p=t.length:=by omega
  rw [mR hg' (by rw [bJ];omega),wp_ret]
  simp only [T104k1,aR,aJ,aL,aX,aI]
  rw [List.drop_length] at hv
  have:lY t 0=true:=hv
  rw [wp_ret,←this]
  exact ⟨_,rfl,hQ _ _ hF⟩
theorem wp_marked {L:List UInt8} (hL:L≠[]) {Q:Value→aB→Prop} (hQ:∀ σ',Frm σ σ' NoB→Q (wv (nQ L).1 (nQ L).2 0 0) σ'):WpF aF ovD 105 [.string (mkB L)] σ Q:=by
 refine WpF.of (T105_eq _) rfl ?_
 rw [T105]
 refine aN fun σ1 hF1 hn1 hS1=>?_
 rw [aZ,cV]
 simp only [bK]
 have hF2:Frm σ1 (σ1.newBlk [.string (bs [58,61]),.string (bs [45,62])] 1) NoB:=Frm.new _ _ _ _
 have hR2:=Row.new σ1 1 [.string (bs [58,61]),.string (bs [45,62])] 2 (by decide) rfl (by intro x hx;simp at hx;rcases hx with rfl|rfl<;>rfl)
 generalize σ1.newBlk [.string (bs [58,61]),.string (bs [45,62])] 1=σ2 at hF2 hR2
 have hS2:=hF2.stN hS1
 have hF02:=hF1.seq hF2
 have done:∀ (σ3:aB) (x:List Value) (k:Int) (t:List UInt8),Frm σ σ3 NoB→St σ3 σ.n [.int .i64 k,.string (mkB t),.int .i64 0,.int .i64 0]→nQ L=(k,t)→
   Wp aF ovD (.act (ldN 4 ⟨σ.n,0,some 0⟩) fun v40=>.ret .ret [v40]) σ3 fun _ vs σ'=>∃ v,vs=[v]∧Q v σ':=by
  intro σ3 x k t hF3 hS3 he
  rw [aP hS3 4 rfl,wp_ret]
  have:=hQ σ3 hF3
  rw [he] at this
  exact ⟨_,rfl,this⟩
 have setW:∀ (k:Int) (t:List UInt8) (p:Pg) (R:cJ),(∀ σ3,Frm σ σ3 NoB→St σ3 σ.n [.int .i64 k,.string (mkB t),.int .i64 0,.int .i64 0]→Wp aF ovD p σ3 R)→
   Wp aF ovD (.act (stC ⟨σ.n,0,some 0⟩ [.int .i64 k,.string (mkB t),.int .i64 0,.int .i64 0]) fun v=>cG v fun l=>aA l p) σ2 R:=by
  intro k t p R h
  refine bD hS2 rfl rfl fun σ3 hF3 hn3 hS3=>h σ3 (hF02.fresh hF3 fun j hj e=>by omega) hS3
 refine Wp.count 2 (fun j st σ'=>σ'=σ2∧st=[.int .i64 ((j:Nat):Int)]∧(1≤j→L.take 2≠[58,61])∧(2≤j→L.take 2≠[45,62])) ⟨rfl,rfl,by omega,by omega⟩ ?_ ?_
 ·rintro j st σ' hj ⟨rfl,rfl,hn1,hn2⟩
  have ej:aO ((j:Int)+1)=((j+1:Nat):Int):=by rw [aS (by omega)];omega
  simp only [T105b0,aJ,aL,aI,cH]
  rw [aC,if_pos (by simp;omega),aK,aV]
  refine ⟨by simp;omega,?_⟩
  rw [Int.toNat_natCast]
  have hj2:j=0∨j=1:=by omega
  rcases hj2 with rfl|rfl
  ·rw [lJ hR2 (v:=.string (bs [58,61])) rfl,fC,aD,WpF.eq (ev_prefix _ _),aX,aC]
   by_cases h1:L.take 2=[58,61]
   ·rw [if_pos (by simpa using h1)]
    refine setW 5 [58,61] _ _ fun σ3 hF3 hS3=>?_
    rw [wp_ret]
    simp only [T105k0,aR,aI]
    rw [wp_ret]
    simp only [T105k2,sw_re,aR,aJ,aL,aI]
    exact done σ3 [] 5 [58,61] hF3 hS3 (by unfold nQ;rw [if_pos h1])
   ·rw [if_neg (by simpa using h1),wp_ret]
    simp only [T105k0,jA,aR,aI]
    rw [wp_ret,ej]
    exact ⟨rfl,rfl,fun _=>h1,by omega⟩
  ·rw [lJ hR2 (v:=.string (bs [45,62])) rfl,fC,aD,WpF.eq (ev_prefix _ _),aX,aC]
   by_cases h1:L.take 2=[45,62]
   ·rw [if_pos (by simpa using h1)]
    refine setW 5 [45,62] _ _ fun σ3 hF3 hS3=>?_
    rw [wp_ret]
    simp only [T105k0,aR,aI]
    rw [wp_ret]
    simp only [T105k2,sw_re,aR,aJ,aL,aI]
    exact done σ3 [] 5 [45,62] hF3 hS3 (by unfold nQ;rw [if_neg (hn1 (by omega)),if_pos h1])
   ·rw [if_neg (by simpa using h1),wp_ret]
    simp only [T105k0,jA,aR,aI]
    rw [wp_ret,ej]
    exact ⟨rfl,rfl,fun _=>hn1 (by omega),fun _=>h1⟩
 ·rintro st σ' ⟨rfl,rfl,hn1,hn2⟩
  have h1:=hn1 (by omega)
  have h2:=hn2 (by omega)
  obtain ⟨b,r,rfl⟩:∃ b r,L=b::r:=by
   cases L with
   |nil=>exact absurd rfl hL
   |cons b r=>exact ⟨b,r,rfl⟩
  have hb0:cF (mkB (b::r)) 0=(b.toNat:Int):=rfl
  have hsz:(mkB (b::r)).size=r.length+1:=rfl
  simp only [T105b0,aJ,aL,aI,cH]
  rw [aC,if_neg (by simp),wp_ret]
  simp only [T105k2,aR,aJ,aL,aI]
  rw [aK,aV]
  refine ⟨by simp [hsz],?_⟩
  rw [hb0,aC]
  have bad:b=62∨b=58→Wp aF ovD (T105k1 ⟨σ.n,0,some 0⟩ (mkB (b::r)) .normal [.bool true]) σ' fun _ vs σ'=>∃ v,vs=[v]∧Q v σ':=by
   intro hb
   simp only [T105k1,aR,aJ,aX,aI]
   rw [aC,if_pos rfl]
   refine setW 0 [] _ _ fun σ3 hF3 hS3=>?_
   exact done σ3 [] 0 [] hF3 hS3 (by unfold nQ;rw [if_neg h1,if_neg h2,if_pos (by simpa using hb)])
  by_cases c1:b=62
  ·subst c1
   rw [if_neg (by simp),wp_ret]
   exact bad (.inl rfl)
  ·have n1:¬ ((b.toNat:Int)=62):=fun e=>c1 (UInt8.toNat_inj.1 (by show b.toNat=62;omega))
   rw [if_pos (by simpa using n1),aV]
   refine ⟨by simp [hsz],?_⟩
   rw [wp_ret]
   by_cases c2:b=58
   ·subst c2
    exact bad (.inr rfl)
   ·have n2:¬ ((b.toNat:Int)=58):=fun e=>c2 (UInt8.toNat_inj.1 (by show b.toNat=58;omega))
    have e2:((b.toNat:Int)==58)=false:=by simpa using n2
    rw [e2]
    simp only [T105k1,aR,aJ,aX,aI]
    rw [aC,if_neg (by simp),aV]
    refine ⟨by simp [hsz];omega,?_⟩
    rw [ext_0]
    refine setW 5 _ _ _ fun σ3 hF3 hS3=>?_
    exact done σ3 [] 5 _ hF3 hS3 (by unfold nQ;rw [if_neg h1,if_neg h2,if_neg (by simp [c1,c2])])
theorem wp_named {L:List UInt8} (hL:L≠[]) {Q:Value→aB→Prop} (hQ:∀ σ',Frm σ σ' NoB→Q (wv (qH L).1 (qH L).2 0 0) σ'):WpF aF ovD 101 [.string (mkB L)] σ Q:=by
 refine WpF.of (T101_eq _) rfl ?_
 have hlen:=nD (may:=lod) L
 rw [T101]
 refine aN fun σ1 hF1 hn1 hS1=>?_
 rw [aD]
 refine wp_run cls_lod L fun σ2 hF2=>?_
 have hS2:=hF2.stN hS1
 rw [aL,aV]
 refine ⟨by simp [bJ];omega,?_⟩
 rw [Int.toNat_natCast,ext_0]
 refine aN fun σ3 hF3 hn3 hS3=>?_
 have hS3':=hF3.stN hS2
 generalize hA:σ2.n=A at hS3
 have hAn:σ.n<A:=by rw [←hA];have:=hF2.n;omega
 refine bD hS3 rfl rfl fun σ4 hF4 hn4 hS4=>?_
 have hS4':=hF4.st hS3' (by omega)
 have hF04:Frm σ σ4 NoB:=((hF1.seq hF2).seq hF3).fresh hF4 fun j hj e=>by omega
 rw [aK,aD]
 refine wp_upperL hL fun σ5 hF5=>?_
 have hS5:=hF5.stN hS4
 have hS5':=hF5.stN hS4'
 have hF05:=hF04.seq hF5
 have fin:∀ (σ6:aB) (k:Int),Frm σ σ6 NoB→St σ6 A [.int .i64 k,.string (mkB (L.take (run lod L))),.int .i64 0,.int .i64 0]→St σ6 σ.n [.int .i64 0,.string (bs []),.int .i64 0,.int .i64 0]→(qH L).1=k→
   Wp aF ovD (T101k2 ⟨A,0,some 0⟩ ⟨σ.n,0,some 0⟩ .normal []) σ6 fun _ vs σ'=>∃ v,vs=[v]∧Q v σ':=by
  intro σ6 k hF6 hS6 hS6' hk
  simp only [T101k2,aR,aI]
  rw [aP hS6 4 rfl]
  simp only [mK,aJ,aL,fC,aI]
  refine bD hS6' rfl rfl fun σ7 hF7 hn7 hS7=>?_
  rw [aP hS7 4 rfl,wp_ret]
  have:=hQ σ7 (hF6.fresh hF7 fun j hj e=>by omega)
  rw [hk] at this
  exact ⟨_,rfl,this⟩
 rw [aX,aK,aC]
 by_cases hu:isUpperU ((bM L).1:Nat)=true
 ·rw [if_pos hu]
  refine bP hS5 (by simp) rfl fun σ6 hF6 hn6 hS6=>?_
  rw [wp_ret]
  simp only [T101k1,aR,aI]
  rw [wp_ret]
  refine fin σ6 3 (hF05.fresh hF6 fun j hj e=>by omega) hS6 (hF6.st hS5' (by omega)) ?_
  unfold qH
  rw [if_pos hu]
 ·rw [if_neg hu,aE hS5 (v:=.string (mkB (L.take (run lod L)))) rfl,fC,aD,WpF.eq (ev_isKey _),aX,aK,aC]
  by_cases hk:iH (L.take (run lod L))=true
  ·rw [if_pos hk]
   refine bP hS5 (by simp) rfl fun σ6 hF6 hn6 hS6=>?_
   rw [wp_ret]
   simp only [T101k0,T101k1,aR,aI]
   rw [wp_ret]
   simp only [aR,aI]
   rw [wp_ret]
   refine fin σ6 4 (hF05.fresh hF6 fun j hj e=>by omega) hS6 (hF6.st hS5' (by omega)) ?_
   unfold qH
   rw [if_neg hu,if_pos hk]
  ·rw [if_neg hk,wp_ret]
   simp only [T101k0,T101k1,aR,aI]
   rw [wp_ret]
   simp only [aR,aI]
   rw [wp_ret]
   refine fin σ5 2 hF05 hS5 hS5' ?_
   unfold qH
   rw [if_neg hu,if_neg hk]
theorem dig_bytes:∀ (n:Nat) (L:List UInt8),L.length≤n→∀ b∈L.take (run dig L),48≤b.toNat∧b.toNat≤57
 |0,L,h,b,hb=>by
  have:L=[]:=List.eq_nil_of_length_eq_zero (by omega)
  subst this
  simp at hb
 |n+1,L,h,b,hb=>by
  by_cases hL:L=[]
  ·subst hL;simp at hb
  ·rw [dG hL] at hb
   split at hb
   ·rename_i hm
    have hc:dD ((bM L).1:Nat)=2:=by simpa [dig] using hm
    have hd:=cls_dig hc
    obtain ⟨a,r,rfl,ha,hw⟩:=decL_lt hL (by omega)
    rw [hw,Nat.add_comm,List.take_succ_cons,List.drop_succ_cons,List.drop_zero] at hb
    rcases List.mem_cons.1 hb with rfl|hb
    ·omega
    ·exact dig_bytes n r (by simpa using h) b hb
   ·simp at hb
theorem wp_word {L:List UInt8} (hL:L≠[]) {Q:Value→aB→Prop} (hQ:∀ σ',Frm σ σ' NoB→Q (wv (cU L).1 (cU L).2 0 0) σ'):WpF aF ovD 96 [.string (mkB L)] σ Q:=by
 refine WpF.of (T96_eq _) rfl ?_
 rw [T96]
 refine aN fun σ1 hF1 hn1 hS1=>?_
 rw [aD,WpF.eq (ev_decode hL _)]
 simp only [dL,aJ,aL,aI]
 rw [aD,WpF.eq (ev_class (kU L) _),aL,aK,aK]
 have fin:∀ (σ2:aB) (k:Int) (t:List UInt8),Frm σ σ2 NoB→St σ2 σ.n [.int .i64 k,.string (mkB t),.int .i64 0,.int .i64 0]→cU L=(k,t)→
   Wp aF ovD (T96k2 ⟨σ.n,0,some 0⟩ .ret []) σ2 fun _ vs σ'=>∃ v,vs=[v]∧Q v σ':=by
  intro σ2 k t hF2 hS2 he
  simp only [T96k2,aR,aI]
  rw [aP hS2 4 rfl,wp_ret]
  have:=hQ σ2 hF2
  rw [he] at this
  exact ⟨_,rfl,this⟩
 have no:∀ (σ2:aB),Frm σ1 σ2 NoB→cU L=(0,[])→Wp aF ovD (T96k2 ⟨σ.n,0,some 0⟩ .normal []) σ2 fun _ vs σ'=>∃ v,vs=[v]∧Q v σ':=by
  intro σ2 hF2 he
  simp only [T96k2,jA,aR,aI]
  refine bD (hF2.stN hS1) rfl rfl fun σ3 hF3 hn3 hS3=>?_
  rw [aP hS3 4 rfl,wp_ret]
  have:=hQ σ3 ((hF1.seq hF2).fresh hF3 fun j hj e=>by omega)
  rw [he] at this
  exact ⟨_,rfl,this⟩
 rw [aC]
 by_cases h1:dD ((bM L).1:Nat)=1
 ·rw [if_pos (by simpa using h1),aC]
  by_cases h2:(bM L).1=39
  ·rw [if_neg (by simp [h2]),wp_ret]
   simp only [T96k1,jA,aR,aI]
   rw [wp_ret]
   exact no σ1 (Frm.refl _ _) (by unfold cU;rw [if_pos h1,if_pos h2])
  ·rw [if_pos (by simp;omega),aD]
   refine wp_named hL fun σ2 hF2=>?_
   unfold wv
   simp only [mK,aJ,aL,fC,aI]
   refine bD (hF2.stN hS1) rfl rfl fun σ3 hF3 hn3 hS3=>?_
   rw [wp_ret]
   simp only [T96k1,aR,aI]
   rw [wp_ret]
   exact fin σ3 _ _ ((hF1.seq hF2).fresh hF3 fun j hj e=>by omega) hS3 (by unfold cU;rw [if_pos h1,if_neg h2])
 ·rw [if_neg (by simpa using h1),aK,aC]
  by_cases h2:dD ((bM L).1:Nat)=2
  ·have hlen:=nD (may:=dig) L
   rw [if_pos (by simpa using h2),aD]
   refine wp_run cls_dgt L fun σ2 hF2=>?_
   rw [aL,aV]
   refine ⟨by simp [bJ];omega,?_⟩
   rw [Int.toNat_natCast,ext_0,aD]
   refine wp_value _ (dig_bytes _ L (Nat.le_refl _)) fun n σ3 hF3=>?_
   simp only [dL,aJ,aL,aX,aI]
   rw [aC]
   have hF13:=hF2.seq hF3
   by_cases h3:lY (L.take (run dig L)) 0=true
   ·rw [if_pos h3,aV]
    refine ⟨by simp [bJ];omega,?_⟩
    refine bD (hF13.stN hS1) rfl rfl fun σ4 hF4 hn4 hS4=>?_
    rw [wp_ret]
    simp only [T96k0,T96k1,aR,aI]
    rw [wp_ret]
    simp only [aR,aI]
    rw [wp_ret]
    exact fin σ4 _ _ ((hF1.seq hF13).fresh hF4 fun j hj e=>by omega) hS4 (by unfold cU;rw [if_neg h1,if_pos h2,if_pos h3])
   ·rw [if_neg h3,wp_ret]
    simp only [T96k0,T96k1,jA,aR,aI]
    rw [wp_ret]
    simp only [jA,aR,aI]
    rw [wp_ret]
    exact no σ3 hF13 (by unfold cU;rw [if_neg h1,if_pos h2,if_neg h3])
  ·rw [if_neg (by simpa using h2),aC]
   by_cases h3:dD ((bM L).1:Nat)=4
   ·rw [if_pos (by simpa using h3),aD]
    refine wp_marked hL fun σ2 hF2=>?_
    unfold wv
    simp only [mK,aJ,aL,fC,aI]
    refine bD (hF2.stN hS1) rfl rfl fun σ3 hF3 hn3 hS3=>?_
    rw [wp_ret]
    simp only [T96k0,T96k1,aR,aI]
    rw [wp_ret]
    simp only [aR,aI]
    rw [wp_ret]
    exact fin σ3 _ _ ((hF1.seq hF2).fresh hF3 fun j hj e=>by omega) hS3 (by unfold cU;rw [if_neg h1,if_neg h2,if_pos h3])
   ·rw [if_neg (by simpa using h3),wp_ret]
    simp only [T96k0,T96k1,jA,aR,aI]
    rw [wp_ret]
    simp only [jA,aR,aI]
    rw [wp_ret]
    exact no σ1 (Frm.refl _ _) (by unfold cU;rw [if_neg h1,if_neg h2,if_neg h3])
end
end Go.Pg
namespace Go.Pg
open Go.Proofs Go.Utf8 Go.Lib
set_option linter.unusedSimpArgs false
abbrev bU (b:Nat):Value:=.pointer (some ⟨b,0,some 0⟩)
theorem dC (a:Addr) (i:Nat):aadd (aadd a 0) i=aadd a i:=rfl
theorem mQ {σ:aB} {a:Addr} {n o k:Nat} {vs:List Value} (h:σ.rdN a n=some vs) (hk:o+k≤n):σ.rdN (aadd a o) k=some ((vs.drop o).take k):=by
 obtain ⟨b,off,s⟩:=a
 unfold aB.rdN at h ⊢
 cases s with
 |none=>
  simp only [aadd] at h ⊢
  obtain ⟨h1,h2⟩:=pJ _ _ _ h
  have hl:((vs.drop o).take k).length=k:=by rw [List.length_take,List.length_drop];omega
  have:=oldN_of (old:=σ.old) (b:=b) ((vs.drop o).take k) (off+o) fun i v hv=>by
   have hi:=(List.getElem?_eq_some_iff.1 hv).1
   rw [List.getElem?_take_of_lt (by omega),List.getElem?_drop] at hv
   rw [Nat.add_assoc]
   exact h2 _ _ hv
  rw [hl] at this
  exact this
 |some s=>
  simp only [aadd] at h ⊢
  split at h
  ·rename_i B hB
   split at h
   ·rename_i hi hhi
    obtain ⟨h1,h2⟩:=bif_some' h
    simp only [Option.some.injEq] at h2
    simp only [Bool.and_eq_true,Nat.ble_eq] at h1
    have h3:(Nat.ble B.dirty (s / 64)&&Nat.ble (off+o+k) hi)=true:=by
     simp only [Bool.and_eq_true,Nat.ble_eq]
     omega
    rw [h3,cond_true,←h2,List.drop_take,List.drop_drop,List.take_take,Nat.min_eq_left (by omega)]
   ·cases h
  ·cases h
structure Rdr (σ:aB) (B lo:Nat) (p:Option Addr) (cap:Nat) (ws:List Wd) (e:Nat) (r:Rs):Prop where
 st:St σ B [.slice p ws.length cap,.int .i64 ((r.p:Nat):Int),.int .i64 ((e:Nat):Int),.bool r.bad]
 row:aT σ (fun j=>j=B∨lo≤j) 4 (fun cs w=>cs=wc w) p ws
 low:lo≤σ.n
 len:ws.length≤2000
 el:e≤4000
 pl:r.p≤ws.length
section
variable {σ σ':aB} {B lo:Nat} {p:Option Addr} {cap:Nat} {ws:List Wd} {e:Nat} {r:Rs}
theorem Rdr.frm (h:Rdr σ B lo p cap ws e r) (f:Frm σ σ' NoB):Rdr σ' B lo p cap ws e r:=
 ⟨f.stN h.st,h.row.step f.no (fun _ _ h=>h) (fun _ _ h=>h) (fun _ _ h=>h),Nat.le_trans h.low f.n,h.len,h.el,h.pl⟩
theorem Rdr.to (h:Rdr σ B lo p cap ws e r) (f:Frm σ σ' (· =B)) {r':Rs} (hp:r'.p≤ws.length) (hs:St σ' B [.slice p ws.length cap,.int .i64 ((r'.p:Nat):Int),.int .i64 ((e:Nat):Int),.bool r'.bad]):Rdr σ' B lo p cap ws e r':=
 ⟨hs,h.row.step f (fun _ _ h=>.inl h) (fun _ _ h=>h) (fun _ _ h=>h),Nat.le_trans h.low f.n,h.len,h.el,hp⟩
theorem Rdr.frmS {S:Nat→Prop} (h:Rdr σ B lo p cap ws e r) (f:Frm σ σ' S) (hB:¬ S B) (hS:∀ j,S j→lo≤j):Rdr σ' B lo p cap ws e r:=
 ⟨f.st h.st hB,h.row.step f (fun j _ h=>.inr (hS j h)) (fun _ _ h=>h) (fun _ _ h=>h),Nat.le_trans h.low f.n,h.len,h.el,h.pl⟩
theorem dS (h:Rdr σ B lo p cap ws e r):WpF aF ovD 45 [bU B] σ fun v σ'=>v=.agg (wc (wdM ws e r.p)).toArray∧Frm σ σ' NoB:=by
 refine WpF.of (T45_eq _) rfl ?_
 rw [T45]
 refine aN fun σ1 hF1 hn1 hS1=>?_
 have h1:=h.frm hF1
 simp only [wpS]
 rw [aE h1.st rfl]
 simp only [wpS]
 rw [aE h1.st rfl]
 simp only [wpS]
 rw [aC]
 by_cases hp:r.p<ws.length
 ·rw [if_pos (by simp;omega),aE h1.st rfl]
  simp only [wpS]
  rw [aE h1.st rfl]
  simp only [wpS]
  refine dN h1.row hp rfl fun cs hcs=>?_
  have e1:wdM ws e r.p=ws[r.p]:=by unfold wdM;rw [dif_pos hp]
  rw [hcs,e1]
  unfold wc
  simp only [wpS]
  refine bD hS1 rfl rfl fun σ2 hF2 hn2 hS2=>?_
  rw [aP hS2 4 rfl,wp_ret]
  exact ⟨_,rfl,rfl,hF1.fresh hF2 fun j hj h=>by omega⟩
 ·rw [if_neg (by simp;omega),aE h1.st rfl]
  simp only [wpS]
  rw [aE h1.st rfl]
  simp only [wpS]
  have e1:wdM ws e r.p=⟨0,[],e,e⟩:=by unfold wdM;rw [dif_neg hp]
  refine bD hS1 rfl rfl fun σ2 hF2 hn2 hS2=>?_
  rw [aP hS2 4 rfl,wp_ret,e1]
  exact ⟨_,rfl,rfl,hF1.fresh hF2 fun j hj h=>by omega⟩
theorem wp_is92 (h:Rdr σ B lo p cap ws e r) (s:List UInt8):WpF aF ovD 92 [bU B,.string (mkB s)] σ fun v σ'=>v=.bool (isM ws e s r)∧Frm σ σ' NoB:=by
 refine WpF.of (T92_eq _ _) rfl ?_
 rw [T92,aD]
 refine WpF.mono (dS h) ?_
 rintro _ σ1 ⟨rfl,hF1⟩
 unfold wc
 simp only [wpS]
 refine aN fun σ2 hF2 hn2 hS2=>?_
 refine bD hS2 rfl rfl fun σ3 hF3 hn3 hS3=>?_
 have hF:Frm σ σ3 NoB:=(hF1.seq hF2).fresh hF3 fun j hj h=>by have:=hF1.n;omega
 have h3:=h.frm hF
 simp only [wpS]
 rw [aE h3.st rfl]
 simp only [wpS]
 rw [aC]
 have fin:∀ b:Bool,b=isM ws e s r→Wp aF ovD (T92k0 .normal [.bool b]) σ3 fun _ vs σ'=>∃ v,vs=[v]∧v=.bool (isM ws e s r)∧Frm σ σ' NoB:=by
  rintro b rfl
  simp only [wpS,T92k0]
  exact ⟨_,rfl,rfl,hF⟩
 unfold isM at fin ⊢
 by_cases hb:r.bad=true
 ·rw [if_neg (by simp [hb]),wp_ret]
  exact fin _ (by simp [hb])
 ·have hb:r.bad=false:=by simpa using hb
  rw [if_pos (by simp [hb]),aE hS3 rfl]
  simp only [wpS]
  rw [aC]
  by_cases hk:(wdM ws e r.p).k>3
  ·rw [if_pos (by simpa using hk),aE hS3 rfl]
   simp only [wpS]
   rw [eX]
   exact fin _ (by simp [hb,hk])
  ·rw [if_neg (by simpa using hk),wp_ret]
   exact fin _ (by simp [hb,hk])
def gA (ws:List Wd) (e:Nat) (s:List UInt8) (r:Rs):Rs:=if isM ws e s r=true then r.next else r
theorem bV (h:Rdr σ B lo p cap ws e r) (s:List UInt8):WpF aF ovD 69 [bU B,.string (mkB s)] σ fun v σ'=>v=.bool (isM ws e s r)∧Rdr σ' B lo p cap ws e (gA ws e s r)∧Frm σ σ' (· =B):=by
 refine WpF.of (T69_eq _ _) rfl ?_
 rw [T69,aD]
 refine WpF.mono (wp_is92 h s) ?_
 rintro _ σ1 ⟨rfl,hF1⟩
 have h1:=h.frm hF1
 simp only [wpS]
 rw [aC]
 unfold gA
 by_cases hm:isM ws e s r=true
 ·have hl:=aW hm
  have hlen:=h.len
  rw [if_neg (by simp [hm]),aE h1.st rfl]
  simp only [wpS]
  have e1:aO (((r.p:Nat):Int)+1)=((r.p+1:Nat):Int):=by rw [aS (by omega)];omega
  rw [e1]
  refine bP h1.st (by simp) rfl fun σ2 hF2 hn2 hS2=>?_
  simp only [List.set_cons_succ,List.set_cons_zero] at hS2
  simp only [wpS,hm,if_true]
  exact ⟨_,rfl,rfl,h1.to hF2 hl.2 hS2,hF1.no.seq hF2⟩
 ·have hm2:isM ws e s r=false:=by simpa using hm
  rw [if_pos (by simp [hm2]),wp_ret,if_neg hm]
  exact ⟨_,rfl,by rw [hm2],h1,hF1.no⟩
theorem cD (h:Rdr σ B lo p cap ws e r) (s:List UInt8):WpF aF ovD 71 [bU B,.string (mkB s)] σ fun v σ'=>v=.tuple #[]∧Rdr σ' B lo p cap ws e (bN ws e s r)∧Frm σ σ' (· =B):=by
 refine WpF.of (T71_eq _ _) rfl ?_
 rw [T71,aD]
 refine WpF.mono (bV h s) ?_
 rintro _ σ1 ⟨rfl,h1,hF1⟩
 simp only [wpS]
 rw [aC]
 unfold gA at h1
 unfold bN
 by_cases hm:isM ws e s r=true
 ·rw [if_pos hm] at h1 ⊢
  rw [if_neg (by simp [hm])]
  simp only [wpS,T71k0]
  exact ⟨_,rfl,rfl,h1,hF1⟩
 ·rw [if_neg hm] at h1 ⊢
  rw [if_pos (by simpa using hm)]
  refine bP h1.st (by simp) rfl fun σ2 hF2 hn2 hS2=>?_
  simp only [List.set_cons_succ,List.set_cons_zero] at hS2
  simp only [wpS,T71k0]
  exact ⟨_,rfl,rfl,h1.to hF2 h1.pl hS2,hF1.seq hF2⟩
theorem fW (h:Rdr σ B lo p cap ws e r) {k:Int} (hk:k≠0):WpF aF ovD 70 [bU B,.int .i64 k] σ fun v σ'=>v=.string (mkB (bI ws e k r).1)∧Rdr σ' B lo p cap ws e (bI ws e k r).2∧Frm σ σ' (· =B):=by
 refine WpF.of (T70_eq _ _) rfl ?_
 rw [T70,aD]
 refine WpF.mono (dS h) ?_
 rintro _ σ1 ⟨rfl,hF1⟩
 unfold wc
 simp only [wpS]
 refine aN fun σ2 hF2 hn2 hS2=>?_
 refine bD hS2 rfl rfl fun σ3 hF3 hn3 hS3=>?_
 have hF:Frm σ σ3 NoB:=(hF1.seq hF2).fresh hF3 fun j hj h=>by have:=hF1.n;omega
 have h3:=h.frm hF
 have hSB:σ1.n≠B:=by have:=h.st.1;have:=hF1.n;omega
 simp only [wpS]
 rw [aE h3.st rfl]
 simp only [wpS]
 rw [aC]
 have no:(r.bad=true∨(wdM ws e r.p).k≠k∨(wdM ws e r.p).t=[95])→Wp aF ovD (T70k0 (some ⟨B,0,some 0⟩) ⟨σ1.n,0,some 0⟩ .normal [.bool true]) σ3 fun _ vs σ'=>∃ v,vs=[v]∧v=.string (mkB (bI ws e k r).1)∧Rdr σ' B lo p cap ws e (bI ws e k r).2∧Frm σ σ' (· =B):=by
  intro hc
  simp only [wpS,T70k0]
  rw [aC,if_pos rfl]
  refine bP h3.st (by simp) rfl fun σ4 hF4 hn4 hS4=>?_
  simp only [List.set_cons_succ,List.set_cons_zero] at hS4
  simp only [wpS]
  unfold bI
  rw [if_pos hc]
  exact ⟨_,rfl,rfl,h3.to hF4 h.pl hS4,hF.no.seq hF4⟩
 by_cases hb:r.bad=true
 ·rw [if_neg (by simp [hb]),wp_ret]
  exact no (.inl hb)
 rw [if_pos (by simpa using hb),aE hS3 rfl]
 simp only [wpS]
 rw [aC]
 by_cases hkk:(wdM ws e r.p).k=k
 case neg=>
  rw [if_neg (by simpa using hkk),wp_ret]
  exact no (.inr (.inl hkk))
 rw [if_pos (by simpa using hkk),aE hS3 rfl]
 simp only [wpS]
 rw [cA]
 by_cases ht:(wdM ws e r.p).t=[95]
 ·rw [decide_eq_true ht]
  exact no (.inr (.inr ht))
 rw [decide_eq_false ht]
 simp only [wpS,T70k0]
 rw [aC,if_neg (by simp),aE h3.st rfl]
 simp only [wpS]
 have hl:r.p<ws.length:=wd_lt (by rw [hkk];exact hk)
 have hlen:=h.len
 have e1:aO (((r.p:Nat):Int)+1)=((r.p+1:Nat):Int):=by rw [aS (by omega)];omega
 rw [e1]
 refine bP h3.st (by simp) rfl fun σ4 hF4 hn4 hS4=>?_
 simp only [List.set_cons_succ,List.set_cons_zero] at hS4
 rw [aE (hF4.st hS3 hSB) rfl]
 simp only [wpS]
 unfold bI
 rw [if_neg (by simp [hb,hkk,ht])]
 exact ⟨_,rfl,rfl,h3.to hF4 hl hS4,hF.no.seq hF4⟩
theorem kD (h:Rdr σ B lo p cap ws e r) (h1:1≤r.p):WpF aF ovD 125 [bU B] σ fun v σ'=>v=.int .i64 (lC ws e r)∧σ'=σ:=by
 refine WpF.of (T125_eq _) rfl ?_
 rw [T125]
 simp only [wpS]
 rw [aE h.st rfl]
 simp only [wpS]
 rw [aE h.st rfl]
 simp only [wpS]
 have hlen:=h.len
 have hpl:=h.pl
 have e1:aO (((r.p:Nat):Int) - 1)=((r.p - 1:Nat):Int):=by rw [aS (by omega)];omega
 have hlt:r.p - 1<ws.length:=by omega
 obtain ⟨x,cs,hx,_,hrd,hcs⟩:=h.row (r.p - 1) hlt
 rw [hx,e1]
 simp only [wpS]
 rw [aV]
 refine ⟨by simp only [Bool.and_eq_true,decide_eq_true_eq];omega,?_⟩
 have e2:ld1 (aadd (aadd x ((r.p - 1)*4)) 3) σ=some (.int .i64 ((ws[r.p - 1].to:Nat):Int),σ):=by
  unfold ld1
  have h4:σ.rdN (aadd (aadd x ((r.p - 1)*4)) 3) 1=some [.int .i64 ((ws[r.p - 1].to:Nat):Int)]:=by
   have:=mQ (o:=3) (k:=1) hrd (by omega)
   rw [this,hcs]
   try rfl
  rw [h4]
 rw [Int.toNat_natCast,aZ,e2]
 simp only [wpS]
 have e3:lC ws e r=((ws[r.p - 1].to:Nat):Int):=by unfold lC wdM;rw [dif_pos hlt]
 rw [e3]
 exact ⟨_,rfl,rfl,trivial⟩
theorem wp_in77 {Y:Nat→Prop} {l:List (List UInt8)} {c:Nat} (h:aT σ Y 1 (fun cs t=>cs=[.string (mkB t)]) p l) (hl:l.length≤1000000) (s:List UInt8):
  WpF aF ovD 77 [.slice p l.length c,.string (mkB s)] σ fun v σ'=>v=.bool (l.contains s)∧σ'=σ:=by
 refine WpF.of (T77_eq _ _ _ _) rfl ?_
 rw [T77]
 refine Wp.count l.length (fun j st σ'=>σ'=σ∧st=[.int .i64 ((j:Nat):Int),.bool false]∧l.contains s=(l.drop j).contains s) ⟨rfl,rfl,rfl⟩ ?_ ?_
 ·rintro j st σ' hj ⟨rfl,rfl,ha⟩
  have e1:aO ((j:Int)+1)=((j+1:Nat):Int):=by rw [aS (by omega)];omega
  unfold T77b0
  simp only [wpS]
  rw [aC,if_pos (by simp;omega),aK]
  obtain ⟨x,cs,hx,_,hrd,hcs⟩:=h j hj
  rw [hx]
  simp only [wpS]
  rw [aV]
  refine ⟨by simp;omega,?_⟩
  have e2:ld1 (aadd x (j*1)) σ'=some (.string (mkB l[j]),σ'):=by
   unfold ld1
   rw [hrd,hcs]
  rw [Int.toNat_natCast,aZ,e2]
  simp only [wpS]
  rw [eX,aC]
  rw [List.drop_eq_getElem_cons hj,List.contains_cons] at ha
  by_cases he:l[j]=s
  ·rw [if_pos (by simpa using he)]
   simp only [wpS,T77k0,T77k1]
   rw [ha,he]
   simp
  ·rw [if_neg (by simpa using he)]
   simp only [wpS,T77k0,e1]
   refine ⟨trivial,trivial,?_⟩
   rw [ha]
   have:(s==l[j])=false:=by simpa using fun e:s=l[j]=>he e.symm
   rw [this,Bool.false_or]
 ·rintro st σ' ⟨rfl,rfl,ha⟩
  unfold T77b0
  simp only [wpS]
  rw [aC,if_neg (by simp)]
  simp only [wpS,T77k1]
  rw [ha,List.drop_length]
  simp
theorem contains_any (l:List (List UInt8)) (s:List UInt8):l.contains s=l.any (s== ·):=by
 rw [List.contains_eq_any_beq]
theorem tA (h:Rdr σ B lo p cap ws e r):WpF aF ovD 117 [bU B] σ fun v σ'=>v=.bool (eA ws e r)∧Frm σ σ' NoB:=by
 refine WpF.of (T117_eq _) rfl ?_
 rw [T117,aD]
 refine WpF.mono (dS h) ?_
 rintro _ σ1 ⟨rfl,hF1⟩
 unfold wc
 simp only [wpS]
 refine aN fun σ2 hF2 hn2 hS2=>?_
 refine bD hS2 rfl rfl fun σ3 hF3 hn3 hS3=>?_
 have hF:Frm σ σ3 NoB:=(hF1.seq hF2).fresh hF3 fun j hj h=>by have:=hF1.n;omega
 have h3:=h.frm hF
 simp only [wpS]
 rw [aE h3.st rfl]
 simp only [wpS]
 rw [aC]
 unfold eA
 have no:Wp aF ovD (T117k2 ⟨σ1.n,0,some 0⟩ .normal [.bool true]) σ3 fun _ vs σ'=>∃ v,vs=[v]∧v=.bool false∧Frm σ σ' NoB:=by
  simp only [wpS,T117k2]
  rw [aC,if_pos rfl]
  simp only [wpS]
  exact ⟨_,rfl,rfl,hF⟩
 by_cases hb:r.bad=true
 ·rw [if_neg (by simp [hb]),wp_ret,if_pos (.inl hb)]
  exact no
 rw [if_pos (by simpa using hb),aE hS3 rfl]
 simp only [wpS]
 by_cases hk0:(wdM ws e r.p).k=0
 ·rw [if_pos (.inr hk0),hk0]
  exact no
 rw [if_neg (by simp [hb,hk0]),show ((wdM ws e r.p).k==0)=false by simpa using hk0]
 simp only [wpS,T117k2]
 rw [aC,if_neg (by simp),aK,aE hS3 rfl]
 simp only [wpS]
 rw [aC]
 have yes:Wp aF ovD (T117k1 ⟨σ1.n,0,some 0⟩ .normal [.bool true]) σ3 fun _ vs σ'=>∃ v,vs=[v]∧v=.bool true∧Frm σ σ' NoB:=by
  simp only [wpS,T117k1]
  rw [aC,if_pos rfl]
  simp only [wpS]
  exact ⟨_,rfl,rfl,hF⟩
 by_cases c1:(wdM ws e r.p).k=1
 ·rw [if_neg (by simp [c1]),wp_ret,if_pos (.inl c1)]
  exact yes
 rw [if_pos (by simpa using c1),aE hS3 rfl]
 simp only [wpS]
 rw [aC]
 by_cases c3:(wdM ws e r.p).k=3
 ·rw [if_neg (by simp [c3]),wp_ret,if_pos (.inr (.inl c3))]
  exact yes
 rw [if_pos (by simpa using c3),aE hS3 rfl]
 simp only [wpS]
 rw [aC]
 have row:¬ ((wdM ws e r.p).k=1∨(wdM ws e r.p).k=3∨(wdM ws e r.p).k=2∧(wdM ws e r.p).t≠[95])→Wp aF ovD (T117k1 ⟨σ1.n,0,some 0⟩ .normal [.bool false]) σ3 fun _ vs σ'=>∃ v,vs=[v]∧v=.bool (decide ((wdM ws e r.p).k>3)&&begs.any ((wdM ws e r.p).t== ·))∧Frm σ σ' NoB:=by
  intro _
  simp only [wpS,T117k1]
  rw [aC,if_neg (by simp),aZ,cV]
  have hrow:=Row.new σ3 1 (begs.map fun t=>Value.string (bs t)) 13 (by decide) (by simp [begs]) (by intro y hy;obtain ⟨t,_,rfl⟩:=List.mem_map.1 hy;rfl)
  have hFn:=Frm.new σ3 (begs.map fun t=>Value.string (bs t)) 1 NoB
  have hbk:begs.map (fun t=>Value.string (bs t))=[(.string (bs [114,101,102])),(.string (bs [33])),(.string (bs [112,114,105,110,116])),(.string (bs [114,97,105,115,101])),(.string (bs [116,114,117,101])),(.string (bs [102,97,108,115,101])),(.string (bs [114,101,97,100])),(.string (bs [40])),(.string (bs [102,117,110])),(.string (bs [108,101,116])),(.string (bs [105,102])),(.string (bs [109,97,116,99,104])),(.string (bs [116,114,121]))]:=rfl
  rw [←hbk]
  generalize hσ:σ3.newBlk (begs.map fun t=>Value.string (bs t)) 1=σ4 at hrow hFn ⊢
  have hS4:=hFn.stN hS3
  have hF4:=hF.seq hFn
  simp only [wpS]
  rw [aE hS4 rfl]
  simp only [wpS]
  rw [aC]
  by_cases c4:(wdM ws e r.p).k>3
  ·rw [if_pos (by simpa using c4),aE hS4 rfl]
   simp only [wpS]
   have hro:aT σ4 NoB 1 (fun cs t=>cs=[.string (mkB t)]) (some ⟨σ3.n,0,some 1⟩) begs:=aT.own (css:=begs.map fun t=>[Value.string (bs t)]) (by rw [show (begs.map fun t=>[Value.string (bs t)]).flatten=begs.map fun t=>Value.string (bs t) from rfl];exact hrow) (fun h=>h) (by simp) (by intro cs hcs;obtain ⟨t,_,rfl⟩:=List.mem_map.1 hcs;rfl) (fun i h1 h2=>by simp [bs_mkB])
   rw [aD]
   refine WpF.mono (wp_in77 (c:=13) hro (by decide) (wdM ws e r.p).t) ?_
   rintro _ _ ⟨rfl,rfl⟩
   simp only [wpS,T117k0]
   rw [contains_any,decide_eq_true c4,Bool.true_and]
   exact ⟨_,rfl,rfl,hF4⟩
  ·rw [if_neg (by simpa using c4)]
   simp only [wpS,T117k0]
   rw [decide_eq_false c4,Bool.false_and]
   exact ⟨_,rfl,rfl,hF4⟩
 by_cases c2:(wdM ws e r.p).k=2
 ·rw [if_pos (by simpa using c2),aE hS3 rfl]
  simp only [wpS]
  rw [cA]
  by_cases ct:(wdM ws e r.p).t=[95]
  ·rw [decide_eq_true ct,if_neg (by simp [c1,c3,ct])]
   exact row (by simp [c1,c3,ct])
  ·rw [decide_eq_false ct,if_pos (.inr (.inr ⟨c2,ct⟩))]
   exact yes
 ·rw [if_neg (by simpa using c2),wp_ret,if_neg (by simp [c1,c3,c2])]
  exact row (by simp [c1,c3,c2])
def ndc (x:Nd) (p:Option Addr) (n c:Nat):List Value:=[.int .i64 x.k,.int .i64 x.n,.string (mkB x.nm),.string (mkB x.pm),.slice none 0 0,.int .i64 x.fr,.int .i64 x.to,.slice p n c]
inductive TmB (σ:aB) (Y:Nat→Prop):Nat→Tm→Prop
 |mk {b:Nat} {x:Nd} {l:List Tm} {p:Option Addr} {c:Nat} (bl:List Nat) (hb:¬ Y b) (hs:St σ b (ndc x p l.length c)) (hr:aT σ Y 1 (fun cs (j:Nat)=>cs=[bU j]) p bl) (hl:bl.length=l.length)
   (hk:∀ i (h:i<bl.length) (h':i<l.length),TmB σ Y bl[i] l[i]):TmB σ Y b (.mk x l)
theorem TmB.step {Y Y' S:Nat→Prop} {b:Nat} {t:Tm} (f:Frm σ σ' S) (hS:∀ j,j<σ.n→S j→Y j) (hY:∀ j,j<σ.n→Y' j→Y j) (h:TmB σ Y b t):TmB σ' Y' b t:=by
 induction h with
 |mk bl hb hs hr hl hk ih=>exact .mk bl (fun h=>hb (hY _ hs.1 h)) (f.st hs fun h=>hb (hS _ hs.1 h)) (hr.step f hS hY fun _ _ h=>h) hl ih
theorem TmB.st {Y:Nat→Prop} {b:Nat} {t:Tm} (h:TmB σ Y b t):∃ p c,St σ b (ndc t.a p t.args.length c):=by
 cases h with
 |mk bl hb hs hr hl hk=>exact ⟨_,_,hs⟩
theorem sS {Y:Nat→Prop} {b off s c:Nat} {bl:List Nat} (h:Row σ b off s c 1 (bl.map bU)) (hb:¬ Y b):aT σ Y 1 (fun cs (j:Nat)=>cs=[bU j]) (some ⟨b,off,some s⟩) bl:=
 aT.own (css:=bl.map fun j=>[bU j]) (by
  have e:(bl.map fun j=>[bU j]).flatten=bl.map bU:=by
   clear h
   induction bl with
   |nil=>rfl
   |cons j r ih=>rw [List.map_cons,List.flatten_cons,List.map_cons,←ih];try rfl
  rw [e];exact h) hb (by simp) (by intro cs hcs;obtain ⟨t,_,rfl⟩:=List.mem_map.1 hcs;rfl) (fun i h1 h2=>by simp)
abbrev bZ (B n:Nat):Nat→Prop:=fun j=>j=B∨j<n
theorem TmB.frm {n b:Nat} {t:Tm} (f:Frm σ σ' (· =B)) (h:TmB σ (bZ B n) b t):TmB σ' (bZ B n) b t:=h.step f (fun _ _ h=>.inl h) fun _ _ h=>h
theorem TmB.no {Y:Nat→Prop} {b:Nat} {t:Tm} (f:Frm σ σ' NoB) (h:TmB σ Y b t):TmB σ' Y b t:=h.step (S:=NoB) f (fun _ _ h=>h.elim) fun _ _ h=>h
theorem TmB.low {n m b:Nat} {t:Tm} (hn:m≤n) (h:TmB σ (bZ B n) b t):TmB σ (bZ B m) b t:=h.step (Frm.refl σ NoB) (fun _ _ h=>h.elim) fun _ _ h=>h.elim .inl fun h=>.inr (Nat.lt_of_lt_of_le h hn)
end
end Go.Pg
namespace Go.Pg
open Go.Proofs Go.Utf8 Go.Lib
set_option linter.unusedSimpArgs false
theorem chks_two {h k:Act} {v w:Value} {σ τ τ':aB} (e:h σ=some (v,τ)) (e':k σ=some (w,τ')):chks [(h,v),(k,w)] σ=true:=by simp [chks,qC,e,e',oA]
theorem ndc_len (x:Nd) (p:Option Addr) (n c:Nat):(ndc x p n c).length=8:=rfl
section
variable {σ σ':aB} {B lo:Nat} {p:Option Addr} {cap:Nat} {ws:List Wd} {e:Nat} {r:Rs}
theorem TmB.leaf {Y:Nat→Prop} {b:Nat} {x:Nd} (hb:¬ Y b) (hs:St σ b (ndc x none 0 0)):TmB σ Y b (.mk x []):=.mk [] hb hs aT.nil rfl fun _ h=>absurd h (Nat.not_lt_zero _)
theorem wp_two73 {Y:Nat→Prop} (hY:∀ j,Y j→j<σ.n) (k:Int) (nm:List UInt8) {a b:Nat} {ta tb:Tm} (ha:TmB σ Y a ta) (hb:TmB σ Y b tb):
  WpF aF ovD 73 [.int .i64 k,.string (mkB nm),bU a,bU b] σ fun v σ'=>∃ c,v=bU c∧TmB σ' Y c (two k nm ta tb)∧Frm σ σ' NoB:=by
 refine WpF.of (T73_eq _ _ _ _) rfl ?_
 rw [T73]
 obtain ⟨pa,ca,sa⟩:=ha.st
 obtain ⟨pb,cb,sb⟩:=hb.st
 simp only [wpS,dC]
 rw [aE sa (v:=.int .i64 ta.a.fr) rfl]
 simp only [wpS]
 rw [aE sb (v:=.int .i64 tb.a.to) rfl]
 simp only [wpS]
 rw [aZ,cV]
 have hF1:=Frm.new σ [bU a,bU b] 1 NoB
 have hR1:=Row.new σ 1 [bU a,bU b] 2 (by decide) rfl (by intro y hy;simp at hy;rcases hy with rfl|rfl<;>rfl)
 have hn1:(σ.newBlk [bU a,bU b] 1).n=σ.n+1:=rfl
 generalize σ.newBlk [bU a,bU b] 1=σ1 at hF1 hR1 hn1 ⊢
 simp only [wpS]
 rw [fD,aV]
 refine ⟨chks_two ((hF1.stN sb).ldF (v:=.int .i64 tb.a.to) rfl) ((hF1.stN sa).ldF (v:=.int .i64 ta.a.fr) rfl),?_⟩
 refine aN fun σ2 hF2 hn2 hS2=>?_
 simp only [wpS]
 have hF:=hF1.seq hF2
 refine ⟨_,rfl,_,rfl,?_,hF⟩
 refine .mk (p:=some ⟨σ.n,0,some 1⟩) (c:=2) [a,b] (fun h=>by have:=hY _ h;omega) hS2 (sS (bl:=[a,b]) (hF2.rowN hR1) fun h=>by have:=hY _ h;omega) rfl ?_
 intro i h h'
 match i,h with
 |0,_=>exact ha.no hF
 |1,_=>exact hb.no hF
theorem wp_none119 {Q:Value→aB→Prop} (hQ:∀ σ',Frm σ σ' NoB→(∀ Y:Nat→Prop,(∀ j,Y j→j<σ.n)→TmB σ' Y σ.n sX)→Q (bU σ.n) σ'):WpF aF ovD 119 [] σ Q:=by
 refine WpF.of T119_eq rfl ?_
 rw [T119]
 refine aN fun σ1 hF1 hn1 hS1=>?_
 simp only [wpS]
 exact ⟨_,rfl,hQ σ1 hF1 fun Y hY=>.leaf (x:={ k:=3 }) (fun h=>by have:=hY _ h;omega) hS1⟩
theorem wp_one120 (h:Rdr σ B lo p cap ws e r) (hp:r.p<ws.length) (k n:Int) (nm:List UInt8):
  WpF aF ovD 120 [bU B,.agg #[.int .i64 k,.int .i64 n,.string (mkB nm),.string (bs []),.slice none 0 0,.int .i64 0,.int .i64 0]] σ fun v σ'=>∃ b,v=bU b∧σ.n≤b∧b≠B∧St σ' b (ndc (dV ws e k n nm r).a none 0 0)∧Rdr σ' B lo p cap ws e r.next∧Frm σ σ' (· =B):=by
 refine WpF.of (T120_eq _ _ _ _ _ _ _ _ _ _) rfl ?_
 rw [T120]
 have hB:=h.st.1
 refine aN fun σ1 hF1 hn1 hS1=>?_
 rw [aD]
 refine WpF.mono (dS (h.frm hF1)) ?_
 rintro _ σ2 ⟨rfl,hF2⟩
 unfold wc
 simp only [wpS]
 rw [aD]
 refine WpF.mono (dS ((h.frm hF1).frm hF2)) ?_
 rintro _ σ3 ⟨rfl,hF3⟩
 unfold wc
 simp only [wpS]
 have hS3:=hF3.stN (hF2.stN hS1)
 refine bP hS3 (by simp) rfl fun σ4 hF4 hn4 hS4=>?_
 simp only [List.set_cons_succ,List.set_cons_zero] at hS4
 refine bP hS4 (by simp) rfl fun σ5 hF5 hn5 hS5=>?_
 simp only [List.set_cons_succ,List.set_cons_zero] at hS5
 have hn3:=hF2.n
 have hn3':=hF3.n
 have hF05:Frm σ σ5 NoB:=(((hF1.seq hF2).seq hF3).fresh hF4 fun j hj h=>by omega).fresh hF5 fun j hj h=>by omega
 have h5:=h.frm hF05
 rw [aE h5.st rfl]
 simp only [wpS]
 have hlen:=h.len
 have e1:aO (((r.p:Nat):Int)+1)=((r.p+1:Nat):Int):=by rw [aS (by omega)];omega
 rw [e1]
 refine bP h5.st (by simp) rfl fun σ6 hF6 hn6 hS6=>?_
 simp only [List.set_cons_succ,List.set_cons_zero] at hS6
 rw [aP (hF6.st hS5 (by omega)) 7 rfl]
 simp only [wpS]
 refine aN fun σ7 hF7 hn7 hS7=>?_
 simp only [wpS]
 have hn6':=hF05.n
 refine ⟨_,rfl,_,rfl,by omega,by omega,hS7,(h5.to (r':=r.next) hF6 hp hS6).frm hF7,(hF05.no.seq hF6).seq hF7.no⟩
theorem valM_wrap (b:UInt8):aO (wu8 (((b.toNat:Nat):Int) - 48))=(((b.toNat+208) % 256:Nat):Int):=by
 have hb:=b.toNat_lt
 rw [wu8_eq,aS (by omega)]
 omega
theorem ev_value (t:List UInt8) (hl:t.length≤1000000):EvF aF ovD 121 [.string (mkB t)] σ (.int .i64 (mW t 0)) σ:=by
 refine EvF.of (T121_eq _) rfl ?_
 rw [T121]
 have hsz:=bJ t
 refine Wp.count t.length (fun j st σ'=>σ'=σ∧∃ n,st=[.int .i64 ((j:Nat):Int),.int .i64 n]∧mW t 0=mW (t.drop j) n) ⟨rfl,0,rfl,rfl⟩ ?_ ?_
 ·rintro j st σ' hj ⟨rfl,n,rfl,hv⟩
  have e1:aO ((j:Int)+1)=((j+1:Nat):Int):=by rw [aS (by omega)];omega
  obtain ⟨b,hb,hd⟩:=byte_at hj
  unfold T121b0
  simp only [wpS]
  rw [aC,hsz,if_pos (by simp;omega),aK,aV]
  refine ⟨by simp;omega,?_⟩
  rw [Int.toNat_natCast,hb,valM_wrap]
  simp only [wpS,T121k0,e1]
  refine ⟨trivial,_,rfl,?_⟩
  rw [hv,hd,mW]
 ·rintro st σ' ⟨rfl,n,rfl,hv⟩
  unfold T121b0
  simp only [wpS]
  rw [aC,hsz,if_neg (by simp)]
  simp only [wpS,T121k1]
  rw [hv,List.drop_length,mW]
  exact ⟨rfl,trivial⟩
structure OpT (σ:aB) (Y:Nat→Prop) (b rb:Nat) (x:Nd) (l:List Tm) (bl:List Nat) (p:Option Addr) (c:Nat):Prop where
 hb:¬ Y b
 hs:St σ b (ndc x p l.length c)
 row:SlE σ rb p c 1 (bl.map bU)
 hr:p≠none→¬ Y rb∧rb≠b
 hl:bl.length=l.length
 hk:∀ i (h:i<bl.length) (h':i<l.length),TmB σ (fun j=>Y j∨j=b∨p≠none∧j=rb) bl[i] l[i]
theorem OpT.start {Y:Nat→Prop} {b:Nat} {x:Nd} (hb:¬ Y b) (hs:St σ b (ndc x none 0 0)):OpT σ Y b 0 x [] [] none 0:=
 ⟨hb,hs,.inl ⟨rfl,rfl,rfl⟩,fun h=>absurd rfl h,rfl,fun _ h=>absurd h (Nat.not_lt_zero _)⟩
theorem OpT.frm {Y S:Nat→Prop} {b rb:Nat} {x:Nd} {l:List Tm} {bl:List Nat} {p:Option Addr} {c:Nat} (h:OpT σ Y b rb x l bl p c) (f:Frm σ σ' S) (hS:∀ j,j<σ.n→S j→Y j):OpT σ' Y b rb x l bl p c:=
 ⟨h.hb,f.st h.hs fun h1=>h.hb (hS _ h.hs.1 h1),h.row.frm f fun hp h1=>(h.hr hp).1 (hS _ (h.row.lt hp) h1),h.hr,h.hl,fun i h1 h2=>(h.hk i h1 h2).step f (fun j hj h3=>.inl (hS j hj h3)) fun _ _ h3=>h3⟩
theorem OpT.close {Y:Nat→Prop} {b rb:Nat} {x:Nd} {l:List Tm} {bl:List Nat} {p:Option Addr} {c:Nat} (h:OpT σ Y b rb x l bl p c):TmB σ Y b (.mk x l):=by
 refine .mk bl h.hb h.hs ?_ h.hl fun i h1 h2=>(h.hk i h1 h2).step (Frm.refl σ NoB) (fun _ _ h=>h.elim) fun _ _ h=>.inl h
 rcases h.row with ⟨rfl,_,h0⟩|⟨off,s,rfl,hR⟩
 ·have:bl=[]:=by simpa using h0
  rw [this]
  exact aT.nil
 ·exact sS hR (h.hr (by simp)).1
theorem wp_kid {Y:Nat→Prop} {b rb j:Nat} {x:Nd} {l:List Tm} {bl:List Nat} {p:Option Addr} {c:Nat} {t:Tm} {K:Pg} {Q:cJ} (hY:∀ j,Y j→j<σ.n) (h:OpT σ Y b rb x l bl p c) (hll:l.length≤100000) (ht:TmB σ (fun i=>Y i∨i=b∨p≠none∧i=rb) j t)
  (k:∀ σ' rb' p' c',Frm σ σ' (fun i=>i=b∨p≠none∧i=rb)→OpT σ' Y b rb' x (l++[t]) (bl++[j]) p' c'→(σ.n≤rb'∨p≠none∧rb'=rb)→p'≠none→Wp aF ovD K σ' Q):
  Wp aF ovD (.get fun h1=>grd (chks [((ld1 (aadd ⟨b,0,some 0⟩ 7)),.slice p l.length c)] h1) (.act (rJ 1 1 [bU j]) fun v=>aM v fun p1 n1 c1=>.get fun h2=>grd (chks [((ld1 (aadd ⟨b,0,some 0⟩ 7)),.slice p l.length c)] h2) (.act (apS 1 8 p l.length c p1 n1 c1) fun w=>aM w fun p2 n2 c2=>.act (stC (aadd ⟨b,0,some 0⟩ 7) [(.slice p2 n2 c2)]) fun v93=>cG v93 fun l94=>aA l94 K))) σ Q:=by
 refine wp_appC (len:=l.length) h.row (by rw [List.length_map,h.hl,Nat.mul_one]) (by decide) (by decide) rfl (by intro y hy;simp at hy;subst hy;rfl) (by omega) (by omega) (fun σ1 hF1=>jC ((hF1.stN h.hs).ldF rfl)) fun σ1 rb' off s c' hF1 hrb hR1=>?_
 have hb1:St σ1 b (ndc x p l.length c):=hF1.st h.hs fun h1=>(h.hr h1.1).2 h1.2.symm
 refine bP hb1 (by rw [ndc_len];decide) rfl fun σ2 hF2 hn2 hS2=>?_
 have hF:Frm σ σ2 (fun i=>i=b∨p≠none∧i=rb):=hF1.trans hF2 (fun _ _ h=>.inr h) fun _ _ h=>.inl h
 have hne:rb'≠b:=by
  rcases hrb with ⟨hp,rfl⟩|hrb
  ·exact (h.hr hp).2
  ·have:=h.hs.1;omega
 have hnY:¬ Y rb':=by
  rcases hrb with ⟨hp,rfl⟩|hrb
  ·exact (h.hr hp).1
  ·intro h1;have:=hY _ h1;omega
 have hYY:∀ i,i<σ.n→(Y i∨i=b∨some (⟨rb',off,some s⟩:Addr)≠none∧i=rb')→(Y i∨i=b∨p≠none∧i=rb):=by
  rintro i hi (h1|h1|⟨_,h1⟩)
  ·exact .inl h1
  ·exact .inr (.inl h1)
  ·subst h1
   rcases hrb with ⟨hp,rfl⟩|hrb
   ·exact .inr (.inr ⟨hp,rfl⟩)
   ·omega
 refine k σ2 rb' (some ⟨rb',off,some s⟩) c' hF ⟨h.hb,?_,.inr ⟨off,s,rfl,?_⟩,fun _=>⟨hnY,hne⟩,by simp [h.hl],?_⟩ (hrb.elim .inr .inl) (by simp)
 ·rw [List.length_append]
  exact hS2
 ·have:=hF2.row hR1 hne
  simpa using this
 ·intro i h1 h2
  have hS:∀ j,j<σ.n→(fun i=>i=b∨p≠none∧i=rb) j→(Y j∨j=b∨p≠none∧j=rb):=fun _ _ h=>.inr h
  by_cases hi:i<bl.length
  ·have hi2:i<l.length:=by rw [←h.hl];exact hi
   rw [List.getElem_append_left hi,List.getElem_append_left hi2]
   exact (h.hk i hi hi2).step hF hS hYY
  ·have hi1:i=bl.length:=by simp at h1;omega
   subst hi1
   have e1:(bl++[j])[bl.length]'h1=j:=by simp
   have e2:(l++[t])[bl.length]'h2=t:=by simp [h.hl]
   rw [e1,e2]
   exact ht.step hF hS hYY
end
end Go.Pg
namespace Go.Pg
open Go.Proofs Go.Utf8 Go.Lib
set_option linter.unusedSimpArgs false
def fnum:Fn→FuncId
 | .expr=>44| .set=>72| .cmp=>93| .sum=>98| .mul=>108| .app=>114| .pre=>116| .atom=>118| .con=>122| .bracket=>123| .long=>124| .pat=>126
 |_=>0
section
variable (B lo:Nat) (p:Option Addr) (cap:Nat) (ws:List Wd) (e:Nat)
def RQ (σ:aB) (x:Tm × Rs) (v:Value) (σ':aB):Prop:=∃ b,v=bU b∧TmB σ' (bZ B σ.n) b x.1∧Rdr σ' B lo p cap ws e x.2∧Frm σ σ' (· =B)
def RIH (n:Nat):Prop:=∀ (f:Fn) (r:Rs) (x:Tm × Rs) (σ:aB),f.eats=true→Pre ws f r→parse ws e n f r=some x→Rdr σ B lo p cap ws e r→WpF aF ovD (fnum f) [bU B] σ (RQ B lo p cap ws e σ x)
end
section
variable {σ σ':aB} {B lo:Nat} {p:Option Addr} {cap:Nat} {ws:List Wd} {e:Nat} {r:Rs} {x:Tm × Rs} {n:Nat}
theorem oE {σ3:aB} (hF:Frm σ σ3 (· =B)) (hR:Rdr σ3 B lo p cap ws e r) {a b:Nat} {A T:Tm} (ta:TmB σ3 (bZ B σ.n) a A) (tb:TmB σ3 (bZ B σ.n) b T) (k:Int) (nm:List UInt8) {t:Tm} (ht:t=two k nm A T):
  WpF aF ovD 73 [.int .i64 k,.string (mkB nm),bU a,bU b] σ3 (RQ B lo p cap ws e σ (t,r)):=by
 subst ht
 have hn:=hF.n
 have hB:=hR.st.1
 refine WpF.mono (wp_two73 (Y:=bZ B σ.n) (fun j hj=>by rcases hj with rfl|hj;exact hB;omega) k nm ta tb) ?_
 rintro _ σ4 ⟨c,rfl,tc,hF4⟩
 exact ⟨c,rfl,tc,hR.frm hF4,hF.seq hF4.no⟩
theorem wp_expr (ih:RIH B lo p cap ws e n) (h:parse ws e (n+1) .expr r=some x) (hR:Rdr σ B lo p cap ws e r):WpF aF ovD 44 [bU B] σ (RQ B lo p cap ws e σ x):=by
 refine WpF.of (T44_eq _) rfl ?_
 rw [T44,aD]
 rw [parse] at h
 obtain ⟨a,h1,h⟩:=aQ h
 refine WpF.mono (ih .set r a σ rfl trivial h1 hR) ?_
 rintro _ σ1 ⟨ba,rfl,ta,hR1,hF1⟩
 simp only [wpS]
 rw [aD]
 refine WpF.mono (bV hR1 [59]) ?_
 rintro _ σ2 ⟨rfl,hR2,hF2⟩
 simp only [wpS]
 rw [aC]
 unfold gA at hR2
 have hF02:=hF1.seq hF2
 by_cases hm:isM ws e [59] a.2=true
 ·rw [if_pos hm] at h hR2
  rw [if_pos hm]
  obtain ⟨b,h2,h⟩:=aQ h
  have hx:=ofS h
  subst hx
  rw [aD]
  refine WpF.mono (ih .expr _ b σ2 rfl trivial h2 hR2) ?_
  rintro _ σ3 ⟨bb,rfl,tb,hR3,hF3⟩
  simp only [wpS]
  rw [aD]
  refine WpF.mono (oE (hF02.seq hF3) hR3 ((ta.frm hF2).frm hF3) (tb.low hF02.n) 12 [] rfl) ?_
  rintro _ σ4 ⟨c,rfl,hc⟩
  simp only [wpS]
  exact ⟨_,rfl,c,rfl,hc⟩
 ·rw [if_neg hm] at h hR2
  rw [if_neg hm]
  have hx:=ofS h
  subst hx
  simp only [wpS]
  exact ⟨_,rfl,ba,rfl,ta.frm hF2,hR2,hF02⟩
theorem wp_set' (ih:RIH B lo p cap ws e n) (h:parse ws e (n+1) .set r=some x) (hR:Rdr σ B lo p cap ws e r):WpF aF ovD 72 [bU B] σ (RQ B lo p cap ws e σ x):=by
 refine WpF.of (T72_eq _) rfl ?_
 rw [T72,aD]
 rw [parse] at h
 obtain ⟨a,h1,h⟩:=aQ h
 refine WpF.mono (ih .cmp r a σ rfl trivial h1 hR) ?_
 rintro _ σ1 ⟨ba,rfl,ta,hR1,hF1⟩
 simp only [wpS]
 rw [aD]
 refine WpF.mono (bV hR1 [58,61]) ?_
 rintro _ σ2 ⟨rfl,hR2,hF2⟩
 simp only [wpS]
 rw [aC]
 unfold gA at hR2
 have hF02:=hF1.seq hF2
 by_cases hm:isM ws e [58,61] a.2=true
 ·rw [if_pos hm] at h hR2
  rw [if_pos hm]
  obtain ⟨b,h2,h⟩:=aQ h
  have hx:=ofS h
  subst hx
  rw [aD]
  refine WpF.mono (ih .set _ b σ2 rfl trivial h2 hR2) ?_
  rintro _ σ3 ⟨bb,rfl,tb,hR3,hF3⟩
  simp only [wpS]
  rw [aD]
  refine WpF.mono (oE (hF02.seq hF3) hR3 ((ta.frm hF2).frm hF3) (tb.low hF02.n) 13 [] rfl) ?_
  rintro _ σ4 ⟨c,rfl,hc⟩
  simp only [wpS]
  exact ⟨_,rfl,c,rfl,hc⟩
 ·rw [if_neg hm] at h hR2
  rw [if_neg hm]
  have hx:=ofS h
  subst hx
  simp only [wpS]
  exact ⟨_,rfl,ba,rfl,ta.frm hF2,hR2,hF02⟩
theorem wp_cmp (ih:RIH B lo p cap ws e n) (h:parse ws e (n+1) .cmp r=some x) (hR:Rdr σ B lo p cap ws e r):WpF aF ovD 93 [bU B] σ (RQ B lo p cap ws e σ x):=by
 refine WpF.of (T93_eq _) rfl ?_
 rw [T93,aD]
 rw [parse] at h
 obtain ⟨a,h1,h⟩:=aQ h
 refine WpF.mono (ih .sum r a σ rfl trivial h1 hR) ?_
 rintro _ σ1 ⟨ba,rfl,ta,hR1,hF1⟩
 simp only [wpS]
 rw [aD]
 refine WpF.mono (bV hR1 [60]) ?_
 rintro _ σ2 ⟨rfl,hR2,hF2⟩
 simp only [wpS]
 rw [aC]
 unfold gA at hR2
 have hF02:=hF1.seq hF2
 by_cases hm:isM ws e [60] a.2=true
 ·rw [if_pos hm] at h hR2
  rw [if_pos hm]
  obtain ⟨b,h2,h⟩:=aQ h
  have hx:=ofS h
  subst hx
  rw [aD]
  refine WpF.mono (ih .sum _ b σ2 rfl trivial h2 hR2) ?_
  rintro _ σ3 ⟨bb,rfl,tb,hR3,hF3⟩
  simp only [wpS]
  rw [aD]
  refine WpF.mono (oE (hF02.seq hF3) hR3 ((ta.frm hF2).frm hF3) (tb.low hF02.n) 14 [60] rfl) ?_
  rintro _ σ4 ⟨c,rfl,hc⟩
  simp only [wpS]
  exact ⟨_,rfl,c,rfl,hc⟩
 ·rw [if_neg hm] at h hR2
  rw [if_neg hm,aD]
  refine WpF.mono (bV hR2 [61]) ?_
  rintro _ σ3 ⟨rfl,hR3,hF3⟩
  simp only [wpS]
  rw [aC]
  unfold gA at hR3
  have hF03:=hF02.seq hF3
  by_cases hm2:isM ws e [61] a.2=true
  ·rw [if_pos hm2] at h hR3
   rw [if_pos hm2]
   obtain ⟨b,h2,h⟩:=aQ h
   have hx:=ofS h
   subst hx
   rw [aD]
   refine WpF.mono (ih .sum _ b σ3 rfl trivial h2 hR3) ?_
   rintro _ σ4 ⟨bb,rfl,tb,hR4,hF4⟩
   simp only [wpS]
   rw [aD]
   refine WpF.mono (oE (hF03.seq hF4) hR4 (((ta.frm hF2).frm hF3).frm hF4) (tb.low hF03.n) 14 [61] rfl) ?_
   rintro _ σ5 ⟨c,rfl,hc⟩
   simp only [wpS]
   exact ⟨_,rfl,c,rfl,hc⟩
  ·rw [if_neg hm2] at h hR3
   rw [if_neg hm2]
   have hx:=ofS h
   subst hx
   simp only [wpS]
   exact ⟨_,rfl,ba,rfl,(ta.frm hF2).frm hF3,hR3,hF03⟩
theorem wp_sum (ih:∀ m,m≤n→RIH B lo p cap ws e m) (h:parse ws e (n+1) .sum r=some x) (hR:Rdr σ B lo p cap ws e r):WpF aF ovD 98 [bU B] σ (RQ B lo p cap ws e σ x):=by
 refine WpF.of (T98_eq _) rfl ?_
 rw [T98,aD]
 rw [parse] at h
 obtain ⟨a,h1,h⟩:=aQ h
 refine WpF.mono (ih n (Nat.le_refl _) .mul r a σ rfl trivial h1 hR) ?_
 rintro _ σ1 ⟨ba,rfl,ta,hR1,hF1⟩
 simp only [wpS]
 refine Wp.loop (fun m st σ'=>m≤n∧∃ (a:Tm) (r':Rs) (ba:Nat),st=[bU ba]∧parse ws e m (.sumL a) r'=some x∧TmB σ' (bZ B σ.n) ba a∧Rdr σ' B lo p cap ws e r'∧Frm σ σ' (· =B)) n ⟨Nat.le_refl _,a.1,a.2,ba,rfl,h,ta,hR1,hF1⟩ ?_
 clear h h1 ta hR1 hF1
 rintro m st σ2 ⟨hm,a,r',ba,rfl,h,ta,hR2,hF2⟩
 cases m with
 |zero=>cases h
 |succ m=>
 rw [parse] at h
 unfold T98b0
 simp only [wpS]
 rw [aE hR2.st rfl]
 simp only [wpS]
 rw [aC]
 by_cases hb:r'.bad=true
 ·rw [if_pos hb] at h
  have hx:=ofS h
  subst hx
  rw [if_neg (by simp [hb])]
  simp only [wpS,T98k2]
  exact ⟨_,rfl,ba,rfl,ta,hR2,hF2⟩
 rw [if_neg hb] at h
 rw [if_pos (by simpa using hb),aK,aD]
 refine WpF.mono (bV hR2 [43]) ?_
 rintro _ σ3 ⟨rfl,hR3,hF3⟩
 simp only [wpS]
 rw [aC]
 unfold gA at hR3
 have hF03:=hF2.seq hF3
 by_cases c1:isM ws e [43] r'=true
 ·rw [if_pos c1] at h hR3
  rw [if_pos c1]
  obtain ⟨b,h2,h⟩:=aQ h
  rw [aD]
  refine WpF.mono (ih m (by omega) .mul _ b σ3 rfl trivial h2 hR3) ?_
  rintro _ σ4 ⟨bb,rfl,tb,hR4,hF4⟩
  simp only [wpS]
  rw [aD]
  refine WpF.mono (oE (hF03.seq hF4) hR4 ((ta.frm hF3).frm hF4) (tb.low hF03.n) 14 [43] rfl) ?_
  rintro _ σ5 ⟨c,rfl,tc,hR5,hF5⟩
  simp only [wpS,T98k0,T98k1]
  exact ⟨m,by omega,by omega,_,_,c,rfl,h,tc,hR5,hF5⟩
 rw [if_neg c1] at h hR3
 rw [if_neg c1,aD]
 refine WpF.mono (bV hR3 [45]) ?_
 rintro _ σ4 ⟨rfl,hR4,hF4⟩
 simp only [wpS]
 rw [aC]
 unfold gA at hR4
 have hF04:=hF03.seq hF4
 by_cases c2:isM ws e [45] r'=true
 ·rw [if_pos c2] at h hR4
  rw [if_pos c2]
  obtain ⟨b,h2,h⟩:=aQ h
  rw [aD]
  refine WpF.mono (ih m (by omega) .mul _ b σ4 rfl trivial h2 hR4) ?_
  rintro _ σ5 ⟨bb,rfl,tb,hR5,hF5⟩
  simp only [wpS]
  rw [aD]
  refine WpF.mono (oE (hF04.seq hF5) hR5 (((ta.frm hF3).frm hF4).frm hF5) (tb.low hF04.n) 14 [45] rfl) ?_
  rintro _ σ6 ⟨c,rfl,tc,hR6,hF6⟩
  simp only [wpS,T98k0,T98k1]
  exact ⟨m,by omega,by omega,_,_,c,rfl,h,tc,hR6,hF6⟩
 rw [if_neg c2] at h hR4
 have hx:=ofS h
 subst hx
 rw [if_neg c2]
 simp only [wpS,T98k0,T98k1,T98k2]
 exact ⟨_,rfl,ba,rfl,(ta.frm hF3).frm hF4,hR4,hF04⟩
theorem wp_mul (ih:∀ m,m≤n→RIH B lo p cap ws e m) (h:parse ws e (n+1) .mul r=some x) (hR:Rdr σ B lo p cap ws e r):WpF aF ovD 108 [bU B] σ (RQ B lo p cap ws e σ x):=by
 refine WpF.of (T108_eq _) rfl ?_
 rw [T108,aD]
 rw [parse] at h
 obtain ⟨a,h1,h⟩:=aQ h
 refine WpF.mono (ih n (Nat.le_refl _) .app r a σ rfl trivial h1 hR) ?_
 rintro _ σ1 ⟨ba,rfl,ta,hR1,hF1⟩
 simp only [wpS]
 refine Wp.loop (fun m st σ'=>m≤n∧∃ (a:Tm) (r':Rs) (ba:Nat),st=[bU ba]∧parse ws e m (.mulL a) r'=some x∧TmB σ' (bZ B σ.n) ba a∧Rdr σ' B lo p cap ws e r'∧Frm σ σ' (· =B)) n ⟨Nat.le_refl _,a.1,a.2,ba,rfl,h,ta,hR1,hF1⟩ ?_
 clear h h1 ta hR1 hF1
 rintro m st σ2 ⟨hm,a,r',ba,rfl,h,ta,hR2,hF2⟩
 cases m with
 |zero=>cases h
 |succ m=>
 rw [parse] at h
 unfold T108b0
 simp only [wpS]
 rw [aD]
 refine WpF.mono (bV hR2 [42]) ?_
 rintro _ σ3 ⟨rfl,hR3,hF3⟩
 simp only [wpS]
 rw [aC]
 unfold gA at hR3
 have hF03:=hF2.seq hF3
 by_cases c1:isM ws e [42] r'=true
 ·rw [if_pos c1] at h hR3
  rw [if_pos c1,aK]
  obtain ⟨b,h2,h⟩:=aQ h
  rw [aD]
  refine WpF.mono (ih m (by omega) .app _ b σ3 rfl trivial h2 hR3) ?_
  rintro _ σ4 ⟨bb,rfl,tb,hR4,hF4⟩
  simp only [wpS]
  rw [aD]
  refine WpF.mono (oE (hF03.seq hF4) hR4 ((ta.frm hF3).frm hF4) (tb.low hF03.n) 14 [42] rfl) ?_
  rintro _ σ5 ⟨c,rfl,tc,hR5,hF5⟩
  simp only [wpS,T108k0]
  exact ⟨m,by omega,by omega,_,_,c,rfl,h,tc,hR5,hF5⟩
 rw [if_neg c1] at h hR3
 have hx:=ofS h
 subst hx
 rw [if_neg c1]
 simp only [wpS,T108k1]
 exact ⟨_,rfl,ba,rfl,ta.frm hF3,hR3,hF03⟩
theorem wp_app (ih:∀ m,m≤n→RIH B lo p cap ws e m) (h:parse ws e (n+1) .app r=some x) (hR:Rdr σ B lo p cap ws e r):WpF aF ovD 114 [bU B] σ (RQ B lo p cap ws e σ x):=by
 refine WpF.of (T114_eq _) rfl ?_
 rw [T114,aD]
 rw [parse] at h
 obtain ⟨a,h1,h⟩:=aQ h
 refine WpF.mono (ih n (Nat.le_refl _) .pre r a σ rfl trivial h1 hR) ?_
 rintro _ σ1 ⟨ba,rfl,ta,hR1,hF1⟩
 simp only [wpS]
 refine Wp.loop (fun m st σ'=>m≤n∧∃ (a:Tm) (r':Rs) (ba:Nat),st=[bU ba]∧parse ws e m (.appL a) r'=some x∧TmB σ' (bZ B σ.n) ba a∧Rdr σ' B lo p cap ws e r'∧Frm σ σ' (· =B)) n ⟨Nat.le_refl _,a.1,a.2,ba,rfl,h,ta,hR1,hF1⟩ ?_
 clear h h1 ta hR1 hF1
 rintro m st σ2 ⟨hm,a,r',ba,rfl,h,ta,hR2,hF2⟩
 cases m with
 |zero=>cases h
 |succ m=>
 rw [parse] at h
 unfold T114b0
 simp only [wpS]
 rw [aD]
 refine WpF.mono (tA hR2) ?_
 rintro _ σ3 ⟨rfl,hF3⟩
 simp only [wpS]
 rw [aC]
 have hF03:=hF2.seq hF3.no
 have hR3:=hR2.frm hF3
 by_cases c1:eA ws e r'=true
 ·rw [if_pos c1] at h
  rw [if_pos c1,aK]
  obtain ⟨b,h2,h⟩:=aQ h
  rw [aD]
  refine WpF.mono (ih m (by omega) .pre _ b σ3 rfl trivial h2 hR3) ?_
  rintro _ σ4 ⟨bb,rfl,tb,hR4,hF4⟩
  simp only [wpS]
  rw [aD]
  refine WpF.mono (oE (hF03.seq hF4) hR4 ((ta.no hF3).frm hF4) (tb.low hF03.n) 7 [] rfl) ?_
  rintro _ σ5 ⟨c,rfl,tc,hR5,hF5⟩
  simp only [wpS,T114k0]
  exact ⟨m,by omega,by omega,_,_,c,rfl,h,tc,hR5,hF5⟩
 rw [if_neg c1] at h
 have hx:=ofS h
 subst hx
 rw [if_neg c1]
 simp only [wpS,T114k1]
 exact ⟨_,rfl,ba,rfl,ta.no hF3,hR3,hF03⟩
end
end Go.Pg
namespace Go.Pg
open Go.Proofs Go.Utf8 Go.Lib
set_option linter.unusedSimpArgs false
section
variable {σ σ':aB} {B lo:Nat} {p:Option Addr} {cap:Nat} {ws:List Wd} {e:Nat} {r:Rs} {x:Tm × Rs} {n:Nat}
def pws:List (List UInt8):=[kRef,[33],kPrint,kRaise]
def pks:List Int:=[15,16,17,19]
theorem preK_some {j:Nat} (hj:j<4) (h0:∀ i,i<j→isM ws e (pws.getD i []) r=false) (h1:isM ws e (pws.getD j []) r=true):preK ws e r=some (pks.getD j 0):=by
 unfold preK
 match j,hj with
 |0,_=>
  simp only [pws,List.getD_cons_zero,List.getD_cons_succ] at h1
  rw [if_pos h1];try rfl
 |1,_=>
  have a:=h0 0 (by omega)
  simp only [pws,List.getD_cons_zero,List.getD_cons_succ] at a h1
  rw [a,if_neg (by simp),if_pos h1];try rfl
 |2,_=>
  have a:=h0 0 (by omega)
  have b:=h0 1 (by omega)
  simp only [pws,List.getD_cons_zero,List.getD_cons_succ] at a b h1
  rw [a,b,if_neg (by simp),if_neg (by simp),if_pos h1];try rfl
 |3,_=>
  have a:=h0 0 (by omega)
  have b:=h0 1 (by omega)
  have c:=h0 2 (by omega)
  simp only [pws,List.getD_cons_zero,List.getD_cons_succ] at a b c h1
  rw [a,b,c,if_neg (by simp),if_neg (by simp),if_neg (by simp),if_pos h1];try rfl
theorem preK_none (h0:∀ i,i<4→isM ws e (pws.getD i []) r=false):preK ws e r=none:=by
 unfold preK
 have a:=h0 0 (by omega)
 have b:=h0 1 (by omega)
 have c:=h0 2 (by omega)
 have d:=h0 3 (by omega)
 simp only [pws,List.getD_cons_zero,List.getD_cons_succ] at a b c d
 rw [a,b,c,d]
 try rfl
theorem one_kid {Y:Nat→Prop} (hY:∀ j,Y j→j<σ.n) {a:Nat} {T:Tm} (ta:TmB σ Y a T) (x:Nd) {f:Addr→Pg} {Q:cJ} {ck:List (Act × Value)} (hck:∀ σ',Frm σ σ' NoB→chks ck σ'=true)
  (k:∀ σ' b,Frm σ σ' NoB→TmB σ' Y b (.mk x [T])→Wp aF ovD (f ⟨b,0,some 0⟩) σ' Q):
  Wp aF ovD (.act (rJ 1 1 [bU a]) fun v43=>aM v43 fun p44 n45 n46=>.get fun h50=>grd (chks ck h50) (.act (newC [(.int .i64 x.k),(.int .i64 x.n),(.string (mkB x.nm)),(.string (mkB x.pm)),(.slice none 0 0),(.int .i64 x.fr),(.int .i64 x.to),(.slice p44 n45 n46)]) fun v47=>aY v47 fun p48=>aH p48 f)) σ Q:=by
 rw [aZ,cV]
 have hF1:=Frm.new σ [bU a] 1 NoB
 have hR1:=Row.new σ 1 [bU a] 1 (by decide) rfl (by intro y hy;simp at hy;subst hy;rfl)
 have hn1:(σ.newBlk [bU a] 1).n=σ.n+1:=rfl
 generalize σ.newBlk [bU a] 1=σ1 at hF1 hR1 hn1 ⊢
 simp only [wpS]
 rw [fD,aV]
 refine ⟨hck σ1 hF1,?_⟩
 refine aN fun σ2 hF2 hn2 hS2=>?_
 have hF:=hF1.seq hF2
 refine k σ2 σ1.n hF (.mk (p:=some ⟨σ.n,0,some 1⟩) (c:=1) [a] (fun h=>by have:=hY _ h;omega) hS2 (sS (bl:=[a]) (hF2.rowN hR1) fun h=>by have:=hY _ h;omega) rfl ?_)
 intro i h h'
 match i,h with
 |0,_=>exact ta.no hF
theorem jP (hR:Rdr σ B lo p cap ws e r) {m:Nat} (hm:m≤σ.n):∀ j,bZ B m j→j<σ.n:=fun j hj=>by
 rcases hj with rfl|hj
 ·exact hR.st.1
 ·omega
theorem wp_pre (ih:RIH B lo p cap ws e n) (h:parse ws e (n+1) .pre r=some x) (hR:Rdr σ B lo p cap ws e r):WpF aF ovD 116 [bU B] σ (RQ B lo p cap ws e σ x):=by
 refine WpF.of (T116_eq _) rfl ?_
 rw [T116,aD]
 refine WpF.mono (dS hR) ?_
 rintro _ σ1 ⟨rfl,hF1⟩
 unfold wc
 simp only [wpS]
 rw [aZ,cV]
 have hFa:=Frm.new σ1 (pws.map fun t=>Value.string (bs t)) 1 NoB
 have hRa:=Row.new σ1 1 (pws.map fun t=>Value.string (bs t)) 4 (by decide) rfl (by intro y hy;obtain ⟨t,_,rfl⟩:=List.mem_map.1 hy;rfl)
 have hna:(σ1.newBlk (pws.map fun t=>Value.string (bs t)) 1).n=σ1.n+1:=rfl
 rw [show ([(.string (bs [114,101,102])),(.string (bs [33])),(.string (bs [112,114,105,110,116])),(.string (bs [114,97,105,115,101]))]:List Value)=pws.map fun t=>Value.string (bs t) from rfl]
 generalize σ1.newBlk (pws.map fun t=>Value.string (bs t)) 1=σ2 at hFa hRa hna ⊢
 simp only [wpS]
 rw [aZ,cV]
 have hFb:=Frm.new σ2 (pks.map fun t=>Value.int .i64 t) 1 NoB
 have hRb:=Row.new σ2 1 (pks.map fun t=>Value.int .i64 t) 4 (by decide) rfl (by intro y hy;obtain ⟨t,_,rfl⟩:=List.mem_map.1 hy;rfl)
 have hnb:(σ2.newBlk (pks.map fun t=>Value.int .i64 t) 1).n=σ2.n+1:=rfl
 rw [show ([(.int .i64 15),(.int .i64 16),(.int .i64 17),(.int .i64 19)]:List Value)=pks.map fun t=>Value.int .i64 t from rfl]
 generalize σ2.newBlk (pks.map fun t=>Value.int .i64 t) 1=σ3 at hFb hRb hnb ⊢
 simp only [wpS]
 have hB:=hR.st.1
 have hn1:=hF1.n
 have hF3:=(hF1.seq hFa).seq hFb
 refine Wp.count 4 (fun j st σ'=>st=[.int .i64 ((j:Nat):Int),.pointer none]∧Frm σ3 σ' (· =B)∧Rdr σ' B lo p cap ws e r∧∀ i,i<j→isM ws e (pws.getD i []) r=false) ⟨rfl,Frm.refl _ _,hR.frm hF3,fun i hi=>by omega⟩ ?_ ?_
 ·rintro j st σ4 hj ⟨rfl,hF4,hR4,h0⟩
  have e1:aO ((j:Int)+1)=((j+1:Nat):Int):=by rw [aS (by omega)];omega
  have hRa4:=hF4.row (hFb.rowN hRa) (by omega)
  have hRb4:=hF4.row hRb (by omega)
  have hn4:=hF4.n
  unfold T116b0
  simp only [wpS]
  rw [aC,if_pos (by simp;omega)]
  simp only [wpS]
  rw [aV]
  refine ⟨by simp;omega,?_⟩
  have hva:(pws.map fun t=>Value.string (bs t))[j]?=some (.string (bs (pws.getD j []))):=by
   have:j<pws.length:=hj
   simp [List.getD,this]
  have hvb:(pks.map fun t=>Value.int .i64 t)[j]?=some (.int .i64 (pks.getD j 0)):=by
   have:j<pks.length:=hj
   simp [List.getD,this]
  rw [Int.toNat_natCast,lJ hRa4 hva]
  simp only [wpS]
  rw [aD]
  refine WpF.mono (bV hR4 (pws.getD j [])) ?_
  rintro _ σ5 ⟨rfl,hR5,hF5⟩
  simp only [wpS]
  rw [aC]
  unfold gA at hR5
  by_cases hm:isM ws e (pws.getD j []) r=true
  ·rw [if_pos hm] at hR5
   rw [if_pos hm,aD]
   have hk:=preK_some hj h0 hm
   rw [parse,hk] at h
   simp only at h
   obtain ⟨a,h1,h⟩:=aQ h
   have hx:=ofS h
   subst hx
   have hn5:=hF5.n
   refine WpF.mono (ih .pre r.next a σ5 rfl trivial h1 hR5) ?_
   rintro _ σ6 ⟨ba,rfl,ta,hR6,hF6⟩
   have hn6:=hF6.n
   obtain ⟨pa,ca,sa⟩:=ta.st
   have hRb6:=hF6.row (hF5.row hRb4 (by omega)) (by omega)
   simp only [wpS]
   rw [aV]
   refine ⟨by simp;omega,?_⟩
   rw [lJ hRb6 hvb]
   simp only [wpS,dC]
   rw [aE sa (v:=.int .i64 a.1.a.to) rfl]
   simp only [wpS]
   refine one_kid (Y:=bZ B σ.n) (jP hR6 (by omega)) (ta.low (by omega)) { k:=pks.getD j 0,fr:=(wdM ws e r.p).fr,to:=a.1.a.to } (fun σ7 hF7=>chks_two ((hF7.stN sa).ldF (v:=.int .i64 a.1.a.to) rfl) (by
    have e2:=(hF7.rowN hRb6).ld hvb
    have e3:aadd ⟨σ2.n,0,some 1⟩ (j*1)=⟨σ2.n,0+j,some 1⟩:=by simp [aadd]
    rw [e3]
    exact e2)) fun σ7 b hF7 hb=>?_
   simp only [wpS,T116k0,T116k1]
   exact ⟨_,rfl,b,rfl,hb,hR6.frm hF7,((((hF3.no.seq hF4).seq hF5).seq hF6).seq hF7.no)⟩
  ·rw [if_neg hm] at hR5
   rw [if_neg hm]
   simp only [wpS,T116k0,e1]
   refine ⟨trivial,hF4.seq hF5,hR5,fun i hi=>?_⟩
   by_cases hij:i=j
   ·subst hij
    simpa using hm
   ·exact h0 i (by omega)
 ·rintro st σ4 ⟨rfl,hF4,hR4,h0⟩
  unfold T116b0
  simp only [wpS]
  rw [aC,if_neg (by simp)]
  simp only [wpS,T116k1]
  rw [aD]
  rw [parse,preK_none h0] at h
  simp only at h
  have hn4:=hF4.n
  refine WpF.mono (ih .atom r x σ4 rfl trivial h hR4) ?_
  rintro _ σ5 ⟨b,rfl,tb,hR5,hF5⟩
  simp only [wpS]
  exact ⟨_,rfl,b,rfl,tb.low (by omega),hR5,(hF3.no.seq hF4).seq hF5⟩
theorem wp_fell (hF:Frm σ σ' (· =B)) (hR:Rdr σ' B lo p cap ws e r) {Q:cJ} (hQ:∀ σ2 b,RQ B lo p cap ws e σ (sX,r.fell) (bU b) σ2→Q .ret [bU b] σ2):
  Wp aF ovD (.act (stC (aadd ⟨B,0,some 0⟩ 3) [(.bool true)]) fun v23=>cG v23 fun l24=>aA l24 (.call 119 [] fun v25=>aY v25 fun p26=>.ret .ret [(.pointer p26)])) σ' Q:=by
 have hn:=hF.n
 refine bP hR.st (by simp) rfl fun σ2 hF2 hn2 hS2=>?_
 simp only [List.set_cons_succ,List.set_cons_zero] at hS2
 have hR2:=hR.to (r':=r.fell) hF2 hR.pl hS2
 rw [aD]
 refine wp_none119 fun σ3 hF3 ht=>?_
 simp only [wpS]
 exact hQ σ3 σ2.n ⟨_,rfl,ht _ (jP hR2 (by omega)),hR2.frm hF3,(hF.seq hF2).seq hF3.no⟩
theorem one_RQ (hF:Frm σ σ' (· =B)) (hR:Rdr σ' B lo p cap ws e r) (hp:r.p<ws.length) (k n:Int) (nm:List UInt8):
  WpF aF ovD 120 [bU B,.agg #[.int .i64 k,.int .i64 n,.string (mkB nm),.string (bs []),.slice none 0 0,.int .i64 0,.int .i64 0]] σ' (RQ B lo p cap ws e σ (dV ws e k n nm r,r.next)):=by
 refine WpF.mono (wp_one120 hR hp k n nm) ?_
 rintro _ σ2 ⟨b,rfl,hb,hne,hS,hR2,hF2⟩
 have hn:=hF.n
 exact ⟨b,rfl,.leaf (x:=(dV ws e k n nm r).a) (fun h=>by rcases h with h|h;exact hne h;omega) hS,hR2,hF.seq hF2⟩
theorem wp_atom (ih:RIH B lo p cap ws e n) (h:parse ws e (n+1) .atom r=some x) (hR:Rdr σ B lo p cap ws e r) (ht:(wdM ws e r.p).t.length≤1000000):WpF aF ovD 118 [bU B] σ (RQ B lo p cap ws e σ x):=by
 refine WpF.of (T118_eq _) rfl ?_
 rw [T118,aD]
 refine WpF.mono (dS hR) ?_
 rintro _ σ1 ⟨rfl,hF1⟩
 unfold wc
 simp only [wpS]
 refine aN fun σ2 hF2 hn2 hS2=>?_
 refine bD hS2 rfl rfl fun σ3 hF3 hn3 hS3=>?_
 have hB:=hR.st.1
 have hn1:=hF1.n
 have hF03:Frm σ σ3 NoB:=(hF1.seq hF2).fresh hF3 fun j hj h=>by omega
 rw [aD]
 refine WpF.mono (tA (hR.frm hF03)) ?_
 rintro _ σ4 ⟨rfl,hF4⟩
 have hF04:=hF03.seq hF4
 have hR4:=hR.frm hF04
 have hS4:=hF4.stN hS3
 simp only [wpS]
 rw [parse] at h
 rw [aC]
 by_cases hb:eA ws e r=true
 case neg=>
  rw [if_neg hb] at h
  have hx:=ofS h
  subst hx
  rw [if_pos (by simpa using hb)]
  exact wp_fell hF04.no hR4 fun σ5 b hq=>⟨_,rfl,hq⟩
 rw [if_pos hb] at h
 have hl:=iY hb
 rw [if_neg (by simp [hb]),aE hS4 rfl]
 simp only [wpS]
 rw [aC]
 have one:∀ (k n:Int) (nm:List UInt8),some (dV ws e k n nm r,r.next)=some x→WpF aF ovD 120 [bU B,.agg #[.int .i64 k,.int .i64 n,.string (mkB nm),.string (bs []),.slice none 0 0,.int .i64 0,.int .i64 0]] σ4 (RQ B lo p cap ws e σ x):=fun k n nm hx=>by
  have hx:=ofS hx
  subst hx
  exact one_RQ hF04.no hR4 hl.2 k n nm
 have sub:∀ {f:Fn},f.eats=true→Pre ws f r→parse ws e n f r=some x→WpF aF ovD (fnum f) [bU B] σ4 (RQ B lo p cap ws e σ x):=fun he hp hx=>by
  refine WpF.mono (ih _ r x σ4 he hp hx hR4) ?_
  rintro _ σ5 ⟨b,rfl,tb,hR5,hF5⟩
  exact ⟨b,rfl,tb.low hF04.n,hR5,hF04.no.seq hF5⟩
 by_cases c1:(wdM ws e r.p).k=1
 ·rw [if_pos c1] at h
  rw [if_pos (by simpa using c1),aE hS4 rfl]
  simp only [wpS]
  rw [aD,WpF.eq (ev_value _ ht)]
  simp only [wpS]
  rw [aD]
  refine WpF.mono (one _ _ _ h) ?_
  rintro _ σ5 ⟨b,rfl,hq⟩
  simp only [wpS,T118k1]
  exact ⟨_,rfl,b,rfl,hq⟩
 rw [if_neg c1] at h
 rw [if_neg (by simpa using c1),aC]
 by_cases c2:(wdM ws e r.p).k=2
 ·rw [if_pos c2] at h
  rw [if_pos (by simpa using c2),aE hS4 rfl]
  simp only [wpS]
  rw [aD]
  refine WpF.mono (one _ _ _ h) ?_
  rintro _ σ5 ⟨b,rfl,hq⟩
  simp only [wpS,T118k1]
  exact ⟨_,rfl,b,rfl,hq⟩
 rw [if_neg c2] at h
 rw [if_neg (by simpa using c2),aC]
 by_cases c3:(wdM ws e r.p).k=3
 ·rw [if_pos c3] at h
  rw [if_pos (by simpa using c3),aD]
  refine WpF.mono (sub (f:=.con) rfl ⟨hl.2,hl.1⟩ h) ?_
  rintro _ σ5 ⟨b,rfl,hq⟩
  simp only [wpS,T118k1]
  exact ⟨_,rfl,b,rfl,hq⟩
 rw [if_neg c3] at h
 rw [if_neg (by simpa using c3)]
 simp only [wpS,T118k1]
 rw [aE hS4 rfl]
 simp only [wpS,cA]
 rw [aC]
 by_cases c4:(wdM ws e r.p).t=rR
 ·rw [if_pos c4] at h
  rw [if_pos (decide_eq_true c4),aD]
  refine WpF.mono (one 2 1 [] h) ?_
  rintro _ σ5 ⟨b,rfl,hq⟩
  simp only [wpS,T118k0]
  exact ⟨_,rfl,b,rfl,hq⟩
 rw [if_neg c4] at h
 rw [if_neg (fun hh=>c4 (of_decide_eq_true hh)),aC]
 by_cases c5:(wdM ws e r.p).t=mS
 ·rw [if_pos c5] at h
  rw [if_pos (decide_eq_true c5),aD]
  refine WpF.mono (one 2 0 [] h) ?_
  rintro _ σ5 ⟨b,rfl,hq⟩
  simp only [wpS,T118k0]
  exact ⟨_,rfl,b,rfl,hq⟩
 rw [if_neg c5] at h
 rw [if_neg (fun hh=>c5 (of_decide_eq_true hh)),aC]
 by_cases c6:(wdM ws e r.p).t=kRead
 ·rw [if_pos c6] at h
  rw [if_pos (decide_eq_true c6),aD]
  refine WpF.mono (one 18 0 [] h) ?_
  rintro _ σ5 ⟨b,rfl,hq⟩
  simp only [wpS,T118k0]
  exact ⟨_,rfl,b,rfl,hq⟩
 rw [if_neg c6] at h
 rw [if_neg (fun hh=>c6 (of_decide_eq_true hh)),aC]
 by_cases c7:(wdM ws e r.p).t=[40]
 ·rw [if_pos c7] at h
  rw [if_pos (decide_eq_true c7),aD]
  refine WpF.mono (sub (f:=.bracket) rfl hl.1 h) ?_
  rintro _ σ5 ⟨b,rfl,hq⟩
  simp only [wpS,T118k0]
  exact ⟨_,rfl,b,rfl,hq⟩
 rw [if_neg c7] at h
 rw [if_neg (fun hh=>c7 (of_decide_eq_true hh))]
 simp only [wpS,T118k0]
 rw [aD]
 refine WpF.mono (sub (f:=.long) rfl trivial h) ?_
 rintro _ σ5 ⟨b,rfl,hq⟩
 simp only [wpS]
 exact ⟨_,rfl,b,rfl,hq⟩
theorem wp_bracket (ih:RIH B lo p cap ws e n) (h:parse ws e (n+1) .bracket r=some x) (hR:Rdr σ B lo p cap ws e r):WpF aF ovD 123 [bU B] σ (RQ B lo p cap ws e σ x):=by
 refine WpF.of (T123_eq _) rfl ?_
 rw [T123,aD]
 refine WpF.mono (dS hR) ?_
 rintro _ σ1 ⟨rfl,hF1⟩
 unfold wc
 simp only [wpS]
 rw [aD]
 refine WpF.mono (cD (hR.frm hF1) [40]) ?_
 rintro _ σ2 ⟨rfl,hR2,hF2⟩
 simp only [wpS]
 rw [aD]
 refine WpF.mono (bV hR2 [41]) ?_
 rintro _ σ3 ⟨rfl,hR3,hF3⟩
 simp only [wpS]
 rw [parse] at h
 rw [aC]
 unfold gA at hR3
 have hF03:=(hF1.no.seq hF2).seq hF3
 have hn3:=hF03.n
 by_cases hm:isM ws e [41] (bN ws e [40] r)=true
 ·rw [if_pos hm] at h hR3
  have hx:=ofS h
  subst hx
  rw [if_pos hm,aD]
  refine WpF.mono (kD hR3 (Nat.le_add_left _ _)) ?_
  rintro _ _ ⟨rfl,rfl⟩
  simp only [wpS]
  refine aN fun σ4 hF4 hn4 hS4=>?_
  simp only [wpS]
  refine ⟨_,rfl,_,rfl,.leaf (x:={ k:=3,fr:=(wdM ws e r.p).fr,to:=lC ws e (bN ws e [40] r).next }) (fun h=>by have:=jP hR3 hn3 _ h;omega) hS4,hR3.frm hF4,hF03.seq hF4.no⟩
 ·rw [if_neg hm] at h hR3
  rw [if_neg hm]
  obtain ⟨a,h1,h⟩:=aQ h
  have hx:=ofS h
  subst hx
  rw [aD]
  refine WpF.mono (ih .expr _ a σ3 rfl trivial h1 hR3) ?_
  rintro _ σ4 ⟨ba,rfl,ta,hR4,hF4⟩
  simp only [wpS]
  rw [aD]
  refine WpF.mono (cD hR4 [41]) ?_
  rintro _ σ5 ⟨rfl,hR5,hF5⟩
  simp only [wpS]
  exact ⟨_,rfl,ba,rfl,(ta.low hn3).frm hF5,hR5,(hF03.seq hF4).seq hF5⟩
end
end Go.Pg
namespace Go.Pg
open Go.Proofs Go.Utf8 Go.Lib
set_option linter.unusedSimpArgs false
section
variable {σ σ':aB} {B lo:Nat} {p:Option Addr} {cap:Nat} {ws:List Wd} {e:Nat} {r:Rs} {x:Tm × Rs} {n:Nat}
theorem Rdr.cell (h:Rdr σ B lo p cap ws e r) {i:Nat} (hi:i<ws.length):∃ y,p=some y∧∀ (o:Nat) (v:Value),(wc ws[i])[o]?=some v→ld1 (aadd (aadd y (i*4)) o) σ=some (v,σ):=by
 obtain ⟨y,cs,hy,_,hrd,hcs⟩:=h.row i hi
 refine ⟨y,hy,fun o v hv=>?_⟩
 subst hcs
 have ho:o<4:=(List.getElem?_eq_some_iff.1 hv).1
 unfold ld1
 rw [mQ (o:=o) (k:=1) hrd (by omega),List.drop_eq_getElem_cons (show o<(wc ws[i]).length from ho),List.take_succ_cons,List.take_zero,(List.getElem?_eq_some_iff.1 hv).2]
theorem wdM_at {i:Nat} (hi:i<ws.length):wdM ws e i=ws[i]:=by unfold wdM;rw [dif_pos hi]
theorem OpT.low {m b rb:Nat} {y:Nd} {l:List Tm} {bl:List Nat} {q:Option Addr} {c:Nat} (h:OpT σ (bZ B m) b rb y l bl q c):b≠B∧m≤b∧(q≠none→rb≠B∧m≤rb):=by
 refine ⟨fun h1=>h.hb (.inl h1),?_,fun hq=>⟨fun h1=>(h.hr hq).1 (.inl h1),?_⟩⟩
 ·have:=h.hb
  simp only [bZ,not_or] at this
  omega
 ·have:=(h.hr hq).1
  simp only [bZ,not_or] at this
  omega
theorem wp_setTo {Y:Nat→Prop} {b rb:Nat} {y:Nd} {l:List Tm} {bl:List Nat} {q:Option Addr} {c:Nat} {K:Pg} {Q:cJ} (h:OpT σ Y b rb y l bl q c) (i:Int)
  (k:∀ σ',Frm σ σ' (· =b)→OpT σ' Y b rb { y with to:=i } l bl q c→Wp aF ovD K σ' Q):
  Wp aF ovD (.act (stC (aadd ⟨b,0,some 0⟩ 6) [(.int .i64 i)]) fun v106=>cG v106 fun l107=>aA l107 K) σ Q:=by
 refine bP h.hs (by rw [ndc_len];decide) rfl fun σ1 hF1 hn1 hS1=>?_
 refine k σ1 hF1 ⟨h.hb,hS1,h.row.frm hF1 fun hq h1=>(h.hr hq).2 h1,h.hr,h.hl,fun i h1 h2=>(h.hk i h1 h2).step hF1 (fun _ _ h=>.inr (.inl h)) fun _ _ h=>h⟩
theorem wp_kidR {σ0:aB} {b rb j:Nat} {y:Nd} {l:List Tm} {bl:List Nat} {q:Option Addr} {c:Nat} {t:Tm} {K:Pg} {Q:cJ} (hF0:Frm σ0 σ (· =B)) (h:OpT σ (bZ B σ0.n) b rb y l bl q c) (hll:l.length≤100000) (hlo:lo≤σ0.n)
  {m:Nat} (hm:b<m∧(q≠none→rb<m)) (ht:TmB σ (bZ B m) j t) (hR:Rdr σ B lo p cap ws e r)
  (k:∀ σ' rb' p' c',Frm σ0 σ' (· =B)→Rdr σ' B lo p cap ws e r→OpT σ' (bZ B σ0.n) b rb' y (l++[t]) (bl++[j]) p' c'→Wp aF ovD K σ' Q):
  Wp aF ovD (.get fun h1=>grd (chks [((ld1 (aadd ⟨b,0,some 0⟩ 7)),.slice q l.length c)] h1) (.act (rJ 1 1 [bU j]) fun v=>aM v fun p1 n1 c1=>.get fun h2=>grd (chks [((ld1 (aadd ⟨b,0,some 0⟩ 7)),.slice q l.length c)] h2) (.act (apS 1 8 q l.length c p1 n1 c1) fun w=>aM w fun p2 n2 c2=>.act (stC (aadd ⟨b,0,some 0⟩ 7) [(.slice p2 n2 c2)]) fun v93=>cG v93 fun l94=>aA l94 K))) σ Q:=by
 have hlow:=h.low
 have hn:=hF0.n
 refine wp_kid (jP hR hn) h hll (ht.step (Frm.refl σ NoB) (fun _ _ h=>h.elim) ?_) fun σ1 rb' p' c' hF1 hO hrb hp'=>?_
 ·rintro i _ (h1|h1|⟨h1,h2⟩)
  ·rcases h1 with h1|h1
   ·exact .inl h1
   ·exact .inr (by omega)
  ·exact .inr (by omega)
  ·exact .inr (by have:=hm.2 h1;omega)
 ·refine k σ1 rb' p' c' (hF0.trans hF1 (fun _ _ h=>h) ?_) (hR.frmS hF1 ?_ ?_) hO
  ·rintro i hi (h1|⟨h1,h2⟩)
   ·omega
   ·have:=(hlow.2.2 h1).2;omega
  ·rintro (h1|⟨h1,h2⟩)
   ·exact hlow.1 h1.symm
   ·exact (hlow.2.2 h1).1 h2.symm
  ·rintro i (h1|⟨h1,h2⟩)
   ·omega
   ·have:=(hlow.2.2 h1).2;omega
theorem wp_con (ih:∀ m,m≤n→RIH B lo p cap ws e m) (hp:r.p<ws.length∧r.bad=false) (h:parse ws e (n+1) .con r=some x) (hR:Rdr σ B lo p cap ws e r):WpF aF ovD 122 [bU B] σ (RQ B lo p cap ws e σ x):=by
 refine WpF.of (T122_eq _) rfl ?_
 rw [T122,aD]
 refine WpF.mono (dS hR) ?_
 rintro _ σ1 ⟨rfl,hF1⟩
 unfold wc
 simp only [wpS]
 rw [aD]
 refine WpF.mono (wp_one120 (hR.frm hF1) hp.1 5 0 _) ?_
 rintro _ σ2 ⟨b,rfl,hb,hne,hS2,hR2,hF2⟩
 simp only [wpS]
 rw [aD]
 refine WpF.mono (wp_is92 hR2 [40]) ?_
 rintro _ σ3 ⟨rfl,hF3⟩
 simp only [wpS]
 have hB:=hR.st.1
 have hn1:=hF1.n
 have hlen:=hR.len
 have hF03:Frm σ σ3 (· =B):=(hF1.no.seq hF2).seq hF3.no
 have hR3:=hR2.frm hF3
 have hO3:OpT σ3 (bZ B σ.n) b 0 (dV ws e 5 0 (wdM ws e r.p).t r).a [] [] none 0:=(OpT.start (Y:=bZ B σ.n) (fun h=>by rcases h with h|h;exact hne h;omega) hS2).frm hF3 fun _ _ h=>h.elim
 rw [parse] at h
 have bare:¬ (isM ws e [40] r.next=true∧¬ (r.p+2<ws.length∧(wdM ws e (r.p+2)).k=5∧(wdM ws e (r.p+2)).t=[41]))→Wp aF ovD (T122k2 (some ⟨b,0,some 0⟩) (some ⟨B,0,some 0⟩) .normal [.bool true]) σ3 fun _ vs σ'=>∃ v,vs=[v]∧RQ B lo p cap ws e σ x v σ':=by
  intro hc
  rw [if_neg hc] at h
  have hx:=ofS h
  subst hx
  simp only [wpS,T122k2]
  rw [aC,if_pos rfl]
  simp only [wpS]
  exact ⟨_,rfl,b,rfl,hO3.close,hR3,hF03⟩
 have full:isM ws e [40] r.next=true∧¬ (r.p+2<ws.length∧(wdM ws e (r.p+2)).k=5∧(wdM ws e (r.p+2)).t=[41])→Wp aF ovD (T122k2 (some ⟨b,0,some 0⟩) (some ⟨B,0,some 0⟩) .normal [.bool false]) σ3 fun _ vs σ'=>∃ v,vs=[v]∧RQ B lo p cap ws e σ x v σ':=by
  intro hc
  rw [if_pos hc] at h
  obtain ⟨b1,h1,h⟩:=aQ h
  obtain ⟨c1,h2,h⟩:=aQ h
  have hx:=ofS h
  subst hx
  simp only [wpS,T122k2]
  rw [aC,if_neg (by simp),aD]
  refine WpF.mono (cD hR3 [40]) ?_
  rintro _ σ4 ⟨rfl,hR4,hF4⟩
  have e4:bN ws e [40] r.next=r.next.next:=by unfold bN;rw [if_pos hc.1]
  rw [e4] at hR4
  simp only [wpS]
  have hO4:=hO3.frm hF4 fun _ _ h=>.inl h
  rw [aE hO4.hs (v:=.slice none 0 0) rfl]
  simp only [wpS]
  rw [aD]
  have hF04:=hF03.seq hF4
  have g1:=(fK _ _ _ _ (show Pre ws .expr r.next.next from trivial) h1).2.le
  refine WpF.mono (ih n (Nat.le_refl _) .expr _ b1 σ4 rfl trivial h1 hR4) ?_
  rintro _ σ5 ⟨j1,rfl,t1,hR5,hF5⟩
  simp only [wpS]
  have hO5:=hO4.frm hF5 fun _ _ h=>.inl h
  refine wp_kidR (l:=[]) (q:=none) (hF04.seq hF5) hO5 (by simp) (Nat.le_trans hR.low (Nat.le_refl _)) ⟨hO4.hs.1,fun h=>absurd rfl h⟩ t1 hR5 fun σ6 rb6 p6 c6 hF6 hR6 hO6=>?_
  refine Wp.loop (fun m st σ'=>m≤n∧st=[]∧∃ (a:Tm) (r':Rs) (rb:Nat) (bl:List Nat) (q:Option Addr) (c:Nat),parse ws e m (.conL a) r'=some c1∧OpT σ' (bZ B σ.n) b rb a.a a.args bl q c∧Rdr σ' B lo p cap ws e r'∧Frm σ σ' (· =B)∧a.args.length≤r'.p∧1≤r'.p) n
   ⟨Nat.le_refl _,rfl,_,b1.2,rb6,_,p6,c6,h2,hO6,hR6,hF6,by simp only [Rs.next] at g1;simp [addT,Tr.args,dV];omega,by simp only [Rs.next] at g1;omega⟩ ?_
  clear h1 h2 hO6 hR6 hF6 hO5 hR5 hF5 t1
  rintro m st σ7 ⟨hm,rfl,a,r',rb,bl,q,c,h2,hO7,hR7,hF7,hl7,hp7⟩
  cases m with
  |zero=>cases h2
  |succ m=>
  rw [parse] at h2
  unfold T122b0
  simp only [wpS]
  rw [aD]
  refine WpF.mono (bV hR7 [44]) ?_
  rintro _ σ8 ⟨rfl,hR8,hF8⟩
  simp only [wpS]
  rw [aC]
  unfold gA at hR8
  have hO8:=hO7.frm hF8 fun _ _ h=>.inl h
  have hF08:=hF7.seq hF8
  by_cases hm1:isM ws e [44] r'=true
  ·rw [if_pos hm1] at h2 hR8
   rw [if_pos hm1,aK]
   obtain ⟨b2,h3,h2⟩:=aQ h2
   have g2:=(fK _ _ _ _ (show Pre ws .expr r'.next from trivial) h3).2.le
   rw [aE hO8.hs (v:=.slice q a.args.length c) rfl]
   simp only [wpS]
   rw [aD]
   refine WpF.mono (ih m (by omega) .expr _ b2 σ8 rfl trivial h3 hR8) ?_
   rintro _ σ9 ⟨j2,rfl,t2,hR9,hF9⟩
   simp only [wpS]
   have hpl:=hR8.pl
   refine wp_kidR (hF08.seq hF9) (hO8.frm hF9 fun _ _ h=>.inl h) (by have:=hR7.pl;omega) hR.low ⟨hO8.hs.1,fun h=>hO8.row.lt h⟩ t2 hR9 fun σa rba pa ca hFa hRa hOa=>?_
   simp only [wpS,T122k0]
   refine ⟨m,by omega,by omega,trivial,addT a b2.1,b2.2,rba,_,pa,ca,h2,hOa,hRa,hFa,?_,?_⟩
   ·simp only [Rs.next] at g2
    show (a.args++[b2.1]).length≤b2.2.p
    rw [List.length_append,List.length_singleton]
    omega
   ·simp only [Rs.next] at g2
    omega
  ·rw [if_neg hm1] at h2 hR8
   have hx:=ofS h2
   subst hx
   rw [if_neg hm1]
   simp only [wpS,T122k1]
   rw [aD]
   refine WpF.mono (cD hR8 [41]) ?_
   rintro _ σ9 ⟨rfl,hR9,hF9⟩
   simp only [wpS]
   rw [aD]
   refine WpF.mono (kD hR9 (Nat.le_trans hp7 (bG [41] r').1.le)) ?_
   rintro _ _ ⟨rfl,rfl⟩
   simp only [wpS,dC]
   refine wp_setTo (hO8.frm hF9 fun _ _ h=>.inl h) _ fun σa hFa hOa=>?_
   simp only [wpS]
   have hlow:=hOa.low
   exact ⟨_,rfl,b,rfl,hOa.close,hR9.frmS hFa (fun h=>hlow.1 h.symm) fun j hj=>by have:=hR.low;omega,(hF08.seq hF9).trans hFa (fun _ _ h=>h) fun j hj h=>by omega⟩
 rw [aC]
 by_cases c1:isM ws e [40] r.next=true
 case neg=>
  rw [if_neg (by simp [c1])]
  simp only [wpS]
  exact bare fun h=>c1 h.1
 rw [if_pos (by simp [c1]),aE hR3.st (v:=.int .i64 ((r.p+1:Nat):Int)) rfl]
 simp only [wpS]
 rw [aE hR3.st rfl]
 simp only [wpS]
 have e1:aO (((r.p+1:Nat):Int)+1)=((r.p+2:Nat):Int):=by rw [aS (by omega)];omega
 rw [aC,e1]
 by_cases c2:r.p+2<ws.length
 case neg=>
  rw [if_neg (by simp;omega)]
  simp only [wpS]
  exact full ⟨c1,fun h=>c2 h.1⟩
 obtain ⟨y,rfl,hcell⟩:=hR3.cell c2
 rw [if_pos (by simp;omega),aE hR3.st rfl]
 simp only [wpS]
 rw [aE hR3.st (v:=.int .i64 ((r.p+1:Nat):Int)) rfl]
 simp only [wpS,e1]
 rw [aV]
 refine ⟨by simp only [Bool.and_eq_true,decide_eq_true_eq];omega,?_⟩
 rw [Int.toNat_natCast,aZ,hcell 0 _ rfl]
 simp only [wpS]
 rw [aC]
 have ew:=wdM_at (e:=e) c2
 by_cases c3:ws[r.p+2].k=5
 case neg=>
  rw [if_neg (by simpa using c3)]
  simp only [wpS]
  exact full ⟨c1,fun h=>c3 (by rw [←ew];exact h.2.1)⟩
 rw [if_pos (by simpa using c3),aE hR3.st (v:=.slice (some y) ws.length cap) rfl]
 simp only [wpS]
 rw [aE hR3.st (v:=.int .i64 ((r.p+1:Nat):Int)) rfl]
 simp only [wpS,e1]
 rw [aV]
 refine ⟨by simp only [Bool.and_eq_true,decide_eq_true_eq];omega,?_⟩
 rw [Int.toNat_natCast,aZ,hcell 1 _ rfl]
 simp only [wpS,cA]
 by_cases c4:ws[r.p+2].t=[41]
 ·rw [decide_eq_true c4]
  exact bare fun h=>h.2 ⟨c2,by rw [ew];exact c3,by rw [ew];exact c4⟩
 ·rw [decide_eq_false c4]
  exact full ⟨c1,fun h=>c4 (by rw [←ew];exact h.2.2)⟩
end
end Go.Pg
namespace Go.Pg
open Go.Proofs Go.Utf8 Go.Lib
set_option linter.unusedSimpArgs false
section
variable {σ σ':aB} {B lo:Nat} {p:Option Addr} {cap:Nat} {ws:List Wd} {e:Nat} {r:Rs} {x:Tm × Rs} {n:Nat}
theorem tr_eta (a:Tm):Tr.mk a.a a.args=a:=by
 cases a
 rfl
theorem wp_pat (ih:∀ m,m≤n→RIH B lo p cap ws e m) (h:parse ws e (n+1) .pat r=some x) (hR:Rdr σ B lo p cap ws e r) (ht:(wdM ws e r.p).t.length≤1000000):WpF aF ovD 126 [bU B] σ (RQ B lo p cap ws e σ x):=by
 refine WpF.of (T126_eq _) rfl ?_
 rw [T126,aD]
 refine WpF.mono (dS hR) ?_
 rintro _ σ1 ⟨rfl,hF1⟩
 unfold wc
 simp only [wpS]
 refine aN fun σ2 hF2 hn2 hS2=>?_
 refine bD hS2 rfl rfl fun σ3 hF3 hn3 hS3=>?_
 have hB:=hR.st.1
 have hn1:=hF1.n
 have hF03:Frm σ σ3 NoB:=(hF1.seq hF2).fresh hF3 fun j hj h=>by omega
 have hR3:=hR.frm hF03
 have hAB:σ1.n≠B:=by omega
 simp only [wpS]
 rw [aE hR3.st rfl]
 simp only [wpS]
 rw [parse] at h
 have ret:∀ (v:Value) (σ':aB),RQ B lo p cap ws e σ x v σ'→Wp aF ovD (T126k8 .ret [v]) σ' fun e_1 vs σ'=>Wp aF ovD (T126k9 (some ⟨B,0,some 0⟩) e_1 vs) σ' fun _ vs σ'=>∃ v,vs=[v]∧RQ B lo p cap ws e σ x v σ':=by
  rintro v σ' ⟨b,rfl,hq⟩
  simp only [wpS,T126k8,T126k9]
  exact ⟨_,rfl,b,rfl,hq⟩
 have fall:∀ (r':Rs) (σ':aB),Frm σ σ' (· =B)→Rdr σ' B lo p cap ws e r'→x=(sX,r'.fell)→Wp aF ovD (T126k8 .normal [.pointer none]) σ' fun e_1 vs σ'=>Wp aF ovD (T126k9 (some ⟨B,0,some 0⟩) e_1 vs) σ' fun _ vs σ'=>∃ v,vs=[v]∧RQ B lo p cap ws e σ x v σ':=by
  rintro r' σ' hF' hR' rfl
  simp only [wpS,T126k8,T126k9]
  exact wp_fell hF' hR' fun σ5 b hq=>⟨_,rfl,hq⟩
 rw [aC]
 by_cases c1:r.bad=true
 ·rw [if_pos c1] at h
  rw [if_pos c1]
  simp only [wpS]
  exact fall r σ3 hF03.no hR3 (ofS h)
 rw [if_neg c1] at h
 rw [if_neg c1]
 have lt:∀ {k:Int},(wdM ws e r.p).k=k→k≠0→r.p<ws.length:=fun h hk=>wd_lt (by rw [h];exact hk)
 have one:∀ (k n:Int) (nm:List UInt8),r.p<ws.length→some (dV ws e k n nm r,r.next)=some x→WpF aF ovD 120 [bU B,.agg #[.int .i64 k,.int .i64 n,.string (mkB nm),.string (bs []),.slice none 0 0,.int .i64 0,.int .i64 0]] σ3 (RQ B lo p cap ws e σ x):=fun k n nm hl hx=>by
  have hx:=ofS hx
  subst hx
  exact one_RQ hF03.no hR3 hl k n nm
 simp only [wpS]
 rw [aE hS3 rfl]
 simp only [wpS]
 have s7:∀ b:Bool,(b=true↔(wdM ws e r.p).k=2∧(wdM ws e r.p).t=[95])→Wp aF ovD (T126k7 (some ⟨B,0,some 0⟩) ⟨σ1.n,0,some 0⟩ .normal [.bool b]) σ3 fun e_1 vs σ'=>Wp aF ovD (T126k8 e_1 vs) σ' fun e_1 vs σ'=>Wp aF ovD (T126k9 (some ⟨B,0,some 0⟩) e_1 vs) σ' fun _ vs σ'=>∃ v,vs=[v]∧RQ B lo p cap ws e σ x v σ':=by
  intro b hb
  simp only [wpS,T126k7]
  rw [aC]
  by_cases c2:(wdM ws e r.p).k=2∧(wdM ws e r.p).t=[95]
  ·rw [if_pos c2] at h
   rw [if_pos (hb.2 c2),aD]
   refine WpF.mono (one 21 0 [] (lt c2.1 (by decide)) h) ?_
   rintro _ σ5 hq
   have hq':=hq
   obtain ⟨b,rfl,_⟩:=hq'
   simp only [wpS]
   exact ret _ _ hq
  rw [if_neg c2] at h
  rw [if_neg fun hh=>c2 (hb.1 hh),aE hS3 rfl]
  simp only [wpS]
  rw [aC]
  by_cases c3:(wdM ws e r.p).k=2
  ·rw [if_pos c3] at h
   rw [if_pos (by simpa using c3),aE hS3 rfl]
   simp only [wpS]
   rw [aD]
   refine WpF.mono (one 22 0 _ (lt c3 (by decide)) h) ?_
   rintro _ σ5 hq
   have hq':=hq
   obtain ⟨b,rfl,_⟩:=hq'
   simp only [wpS]
   exact ret _ _ hq
  rw [if_neg c3] at h
  rw [if_neg (by simpa using c3),aE hS3 rfl]
  simp only [wpS]
  rw [aC]
  by_cases c4:(wdM ws e r.p).k=1
  ·rw [if_pos c4] at h
   rw [if_pos (by simpa using c4),aE hS3 rfl]
   simp only [wpS]
   rw [aD,WpF.eq (ev_value _ ht)]
   simp only [wpS]
   rw [aD]
   refine WpF.mono (one 23 _ [] (lt c4 (by decide)) h) ?_
   rintro _ σ5 hq
   have hq':=hq
   obtain ⟨b,rfl,_⟩:=hq'
   simp only [wpS]
   exact ret _ _ hq
  rw [if_neg c4] at h
  rw [if_neg (by simpa using c4),aK,aE hS3 rfl]
  simp only [wpS]
  have s6:∀ b:Bool,(b=true↔(wdM ws e r.p).k=4∧(wdM ws e r.p).t=rR)→Wp aF ovD (T126k6 (some ⟨B,0,some 0⟩) ⟨σ1.n,0,some 0⟩ .normal [.bool b]) σ3 fun e_1 vs σ'=>Wp aF ovD (T126k8 e_1 vs) σ' fun e_1 vs σ'=>Wp aF ovD (T126k9 (some ⟨B,0,some 0⟩) e_1 vs) σ' fun _ vs σ'=>∃ v,vs=[v]∧RQ B lo p cap ws e σ x v σ':=by
   intro b hb
   simp only [wpS,T126k6]
   rw [aC]
   by_cases c5:(wdM ws e r.p).k=4∧(wdM ws e r.p).t=rR
   ·rw [if_pos c5] at h
    rw [if_pos (hb.2 c5),aD]
    refine WpF.mono (one 24 1 [] (lt c5.1 (by decide)) h) ?_
    rintro _ σ5 hq
    have hq':=hq
    obtain ⟨b,rfl,_⟩:=hq'
    simp only [wpS]
    exact ret _ _ hq
   rw [if_neg c5] at h
   rw [if_neg fun hh=>c5 (hb.1 hh),aK,aE hS3 rfl]
   simp only [wpS]
   have s5:∀ b:Bool,(b=true↔(wdM ws e r.p).k=4∧(wdM ws e r.p).t=mS)→Wp aF ovD (T126k5 (some ⟨B,0,some 0⟩) ⟨σ1.n,0,some 0⟩ .normal [.bool b]) σ3 fun e_1 vs σ'=>Wp aF ovD (T126k8 e_1 vs) σ' fun e_1 vs σ'=>Wp aF ovD (T126k9 (some ⟨B,0,some 0⟩) e_1 vs) σ' fun _ vs σ'=>∃ v,vs=[v]∧RQ B lo p cap ws e σ x v σ':=by
    intro b hb
    simp only [wpS,T126k5]
    rw [aC]
    by_cases c6:(wdM ws e r.p).k=4∧(wdM ws e r.p).t=mS
    ·rw [if_pos c6] at h
     rw [if_pos (hb.2 c6),aD]
     refine WpF.mono (one 24 0 [] (lt c6.1 (by decide)) h) ?_
     rintro _ σ5 hq
     have hq':=hq
     obtain ⟨b,rfl,_⟩:=hq'
     simp only [wpS]
     exact ret _ _ hq
    rw [if_neg c6] at h
    rw [if_neg fun hh=>c6 (hb.1 hh),aD]
    refine WpF.mono (bV hR3 [40]) ?_
    rintro _ σ4 ⟨rfl,hR4,hF4⟩
    simp only [wpS]
    rw [aC]
    unfold gA at hR4
    have hF04:=hF03.no.seq hF4
    have hS4:=hF4.st hS3 hAB
    by_cases c7:isM ws e [40] r=true
    ·rw [if_pos c7] at h hR4
     rw [if_pos c7,aD]
     refine WpF.mono (cD hR4 [41]) ?_
     rintro _ σ5 ⟨rfl,hR5,hF5⟩
     have hF05:=hF04.seq hF5
     have hS5:=hF5.st hS4 hAB
     simp only [wpS]
     rw [aE hR5.st rfl]
     simp only [wpS]
     rw [aC]
     by_cases c8:(bN ws e [41] r.next).bad=true
     ·rw [if_pos c8] at h
      rw [if_neg (by simp [c8])]
      simp only [wpS,T126k4]
      exact fall _ σ5 hF05 hR5 (ofS h)
     ·rw [if_neg c8] at h
      have hx:=ofS h
      rw [if_pos (by simpa using c8),aE hS5 rfl]
      simp only [wpS]
      rw [aD]
      refine WpF.mono (kD hR5 (Nat.le_trans (Nat.le_add_left 1 r.p) (bG [41] r.next).1.le)) ?_
      rintro _ _ ⟨rfl,rfl⟩
      simp only [wpS]
      rw [fD,aV]
      refine ⟨jC (hS5.ldF rfl),?_⟩
      refine aN fun σ6 hF6 hn6 hS6=>?_
      simp only [wpS,T126k4]
      have hn5:=hF05.n
      refine ret _ _ ⟨_,rfl,?_,?_,hF05.seq hF6.no⟩
      ·rw [hx]
       exact .leaf (x:={ k:=25,fr:=(wdM ws e r.p).fr,to:=lC ws e (bN ws e [41] r.next) }) (fun h=>by have:=jP hR5 hn5 _ h;omega) hS6
      ·rw [hx]
       exact hR5.frm hF6
    rw [if_neg c7] at h hR4
    rw [if_neg c7,aE hS4 rfl]
    simp only [wpS]
    rw [aC]
    by_cases c8:(wdM ws e r.p).k=3
    case neg=>
     rw [if_neg c8] at h
     rw [if_neg (by simpa using c8)]
     simp only [wpS,T126k4]
     exact fall r σ4 hF04 hR4 (ofS h)
    rw [if_pos c8] at h
    rw [if_pos (by simpa using c8),aE hS4 rfl]
    simp only [wpS]
    rw [aD]
    refine WpF.mono (wp_one120 hR4 (lt c8 (by decide)) 26 0 _) ?_
    rintro _ σ5 ⟨b,rfl,hb,hne,hS5,hR5,hF5⟩
    simp only [wpS]
    rw [aD]
    have hF05:=hF04.seq hF5
    have hn4:=hF04.n
    have hO5:OpT σ5 (bZ B σ.n) b 0 (dV ws e 26 0 (wdM ws e r.p).t r).a [] [] none 0:=OpT.start (Y:=bZ B σ.n) (fun h=>by rcases h with h|h;exact hne h;omega) hS5
    refine WpF.mono (bV hR5 [40]) ?_
    rintro _ σ6 ⟨rfl,hR6,hF6⟩
    simp only [wpS]
    rw [aC]
    unfold gA at hR6
    have hO6:=hO5.frm hF6 fun _ _ h=>.inl h
    have hF06:=hF05.seq hF6
    by_cases c9:isM ws e [40] r.next=true
    case neg=>
     rw [if_neg c9] at h hR6
     have hx:=ofS h
     rw [if_neg c9]
     simp only [wpS,T126k3,T126k4]
     refine ret _ _ ⟨b,rfl,?_,?_,hF06⟩
     ·rw [hx];exact hO6.close
     ·rw [hx];exact hR6
    rw [if_pos c9] at h hR6
    obtain ⟨b1,h1,h⟩:=aQ h
    obtain ⟨c1',h2,h⟩:=aQ h
    rw [if_pos c9]
    rw [aE hO6.hs (v:=.slice none 0 0) rfl]
    simp only [wpS]
    rw [aD]
    have g1:=(fK _ _ _ _ (show Pre ws .pat r.next.next from trivial) h1).2.le
    refine WpF.mono (ih n (Nat.le_refl _) .pat _ b1 σ6 rfl trivial h1 hR6) ?_
    rintro _ σ7 ⟨j1,rfl,t1,hR7,hF7⟩
    simp only [wpS]
    refine wp_kidR (l:=[]) (q:=none) (hF06.seq hF7) (hO6.frm hF7 fun _ _ h=>.inl h) (by simp) hR.low ⟨hO6.hs.1,fun h=>absurd rfl h⟩ t1 hR7 fun σ8 rb8 p8 k8 hF8 hR8 hO8=>?_
    refine Wp.loop (fun m st σ'=>m≤n∧st=[]∧∃ (a:Tm) (r':Rs) (rb:Nat) (bl:List Nat) (q:Option Addr) (c:Nat),parse ws e m (.patL a) r'=some c1'∧OpT σ' (bZ B σ.n) b rb a.a a.args bl q c∧Rdr σ' B lo p cap ws e r'∧Frm σ σ' (· =B)∧a.args.length≤r'.p∧1≤r'.p) n
     ⟨Nat.le_refl _,rfl,_,b1.2,rb8,_,p8,k8,h2,hO8,hR8,hF8,by simp only [Rs.next] at g1;show 1≤b1.2.p;omega,by simp only [Rs.next] at g1;omega⟩ ?_
    clear h1 h2 hO8 hR8 hF8 hR7 hF7 t1
    rintro m st σ9 ⟨hm,rfl,a,r',rb,bl,q,c,h2,hO9,hR9,hF9,hl9,hp9⟩
    cases m with
    |zero=>cases h2
    |succ m=>
    rw [parse] at h2
    unfold T126b0
    simp only [wpS]
    rw [aD]
    refine WpF.mono (bV hR9 [44]) ?_
    rintro _ σa ⟨rfl,hRa,hFa⟩
    simp only [wpS]
    rw [aC]
    unfold gA at hRa
    have hOa:=hO9.frm hFa fun _ _ h=>.inl h
    have hF0a:=hF9.seq hFa
    by_cases hm1:isM ws e [44] r'=true
    ·rw [if_pos hm1] at h2 hRa
     rw [if_pos hm1,aK]
     obtain ⟨b2,h3,h2⟩:=aQ h2
     have g2:=(fK _ _ _ _ (show Pre ws .pat r'.next from trivial) h3).2.le
     rw [aE hOa.hs (v:=.slice q a.args.length c) rfl]
     simp only [wpS]
     rw [aD]
     refine WpF.mono (ih m (by omega) .pat _ b2 σa rfl trivial h3 hRa) ?_
     rintro _ σb ⟨j2,rfl,t2,hRb,hFb⟩
     simp only [wpS]
     refine wp_kidR (hF0a.seq hFb) (hOa.frm hFb fun _ _ h=>.inl h) (by have:=hR9.pl;have:=hR9.len;omega) hR.low ⟨hOa.hs.1,fun h=>hOa.row.lt h⟩ t2 hRb fun σc rbc pc kc hFc hRc hOc=>?_
     simp only [wpS,T126k0]
     refine ⟨m,by omega,by omega,trivial,addT a b2.1,b2.2,rbc,_,pc,kc,h2,hOc,hRc,hFc,?_,?_⟩
     ·simp only [Rs.next] at g2
      show (a.args++[b2.1]).length≤b2.2.p
      rw [List.length_append,List.length_singleton]
      omega
     ·simp only [Rs.next] at g2
      omega
    ·rw [if_neg hm1] at h2 hRa
     have hx:=ofS h2
     subst hx
     rw [if_neg hm1]
     simp only [wpS,T126k2]
     rw [aD]
     refine WpF.mono (cD hRa [41]) ?_
     rintro _ σb ⟨rfl,hRb,hFb⟩
     simp only [wpS]
     rw [aE hRb.st rfl]
     simp only [wpS]
     have hOb:=hOa.frm hFb fun _ _ h=>.inl h
     have hF0b:=hF0a.seq hFb
     rw [aC]
     by_cases ca:(bN ws e [41] r').bad=true
     ·rw [if_pos ca] at h
      have hx:=ofS h
      rw [if_neg (by simp [ca])]
      simp only [wpS,T126k1,T126k3,T126k4]
      refine ret _ _ ⟨b,rfl,?_,?_,hF0b⟩
      ·rw [hx];have q:=hOb.close;rw [tr_eta] at q;exact q
      ·rw [hx];exact hRb
     ·rw [if_neg ca] at h
      have hx:=ofS h
      rw [if_pos (by simpa using ca),aD]
      refine WpF.mono (kD hRb (Nat.le_trans hp9 (bG [41] r').1.le)) ?_
      rintro _ _ ⟨rfl,rfl⟩
      simp only [wpS,dC]
      refine wp_setTo hOb _ fun σc hFc hOc=>?_
      simp only [wpS,T126k1,T126k3,T126k4]
      have hlow:=hOc.low
      refine ret _ _ ⟨b,rfl,?_,?_,hF0b.trans hFc (fun _ _ h=>h) fun j hj h=>by omega⟩
      ·rw [hx];exact hOc.close
      ·rw [hx];exact hRb.frmS hFc (fun h=>hlow.1 h.symm) fun j hj=>by have:=hR.low;omega
   rw [aC]
   by_cases d1:(wdM ws e r.p).k=4
   ·rw [if_pos (by simpa using d1),aE hS3 rfl]
    simp only [wpS,cA]
    exact s5 _ (by rw [decide_eq_true_eq];exact ⟨fun h=>⟨d1,h⟩,fun h=>h.2⟩)
   ·rw [if_neg (by simpa using d1)]
    simp only [wpS]
    exact s5 false ⟨fun h=>(Bool.noConfusion h),fun h=>absurd h.1 d1⟩
  rw [aC]
  by_cases d1:(wdM ws e r.p).k=4
  ·rw [if_pos (by simpa using d1),aE hS3 rfl]
   simp only [wpS,cA]
   exact s6 _ (by rw [decide_eq_true_eq];exact ⟨fun h=>⟨d1,h⟩,fun h=>h.2⟩)
  ·rw [if_neg (by simpa using d1)]
   simp only [wpS]
   exact s6 false ⟨fun h=>(Bool.noConfusion h),fun h=>absurd h.1 d1⟩
 rw [aC]
 by_cases d1:(wdM ws e r.p).k=2
 ·rw [if_pos (by simpa using d1),aE hS3 rfl]
  simp only [wpS,cA]
  exact s7 _ (by rw [decide_eq_true_eq];exact ⟨fun h=>⟨d1,h⟩,fun h=>h.2⟩)
 ·rw [if_neg (by simpa using d1)]
  simp only [wpS]
  exact s7 false ⟨fun h=>(Bool.noConfusion h),fun h=>absurd h.1 d1⟩
end
end Go.Pg
namespace Go.Pg
open Go.Proofs Go.Utf8 Go.Lib
set_option linter.unusedSimpArgs false
structure KR (σ:aB) (Y:Nat→Prop) (rb:Nat) (l:List Tm) (bl:List Nat) (p:Option Addr) (c:Nat):Prop where
 row:SlE σ rb p c 1 (bl.map bU)
 hr:p≠none→¬ Y rb
 hl:bl.length=l.length
 hk:∀ i (h:i<bl.length) (h':i<l.length),TmB σ (fun j=>Y j∨p≠none∧j=rb) bl[i] l[i]
section
variable {σ σ':aB} {B lo:Nat} {p:Option Addr} {cap:Nat} {ws:List Wd} {e:Nat} {r:Rs} {x:Tm × Rs} {n:Nat}
theorem KR.none {Y:Nat→Prop}:KR σ Y 0 [] [] none 0:=⟨.inl ⟨rfl,rfl,rfl⟩,fun h=>absurd rfl h,rfl,fun _ h=>absurd h (Nat.not_lt_zero _)⟩
theorem KR.frm {Y S:Nat→Prop} {rb:Nat} {l:List Tm} {bl:List Nat} {q:Option Addr} {c:Nat} (h:KR σ Y rb l bl q c) (f:Frm σ σ' S) (hS:∀ j,j<σ.n→S j→Y j):KR σ' Y rb l bl q c:=
 ⟨h.row.frm f fun hp h1=>h.hr hp (hS _ (h.row.lt hp) h1),h.hr,h.hl,fun i h1 h2=>(h.hk i h1 h2).step f (fun j hj h3=>.inl (hS j hj h3)) fun _ _ h3=>h3⟩
theorem iK {rb j m m':Nat} {l:List Tm} {bl:List Nat} {q:Option Addr} {c:Nat} {t:Tm} {g:Option Addr→Nat→Nat→Pg} {Q:cJ} (h:KR σ (bZ B m) rb l bl q c) (hll:l.length≤100000) (hlo:lo≤m) (hm:m≤m') (hm2:q≠none→rb<m') (ht:TmB σ (bZ B m') j t) (hR:Rdr σ B lo p cap ws e r) (hmn:m≤σ.n)
  (k:∀ σ' rb' p' c',Frm σ σ' (fun i=>m≤i∧i≠B)→Rdr σ' B lo p cap ws e r→KR σ' (bZ B m) rb' (l++[t]) (bl++[j]) (some p') c'→Wp aF ovD (g (some p') (l.length+1) c') σ' Q):
  Wp aF ovD (.act (rJ 1 1 [bU j]) fun v=>aM v fun p1 n1 c1=>.act (apS 1 8 q l.length c p1 n1 c1) fun w=>aM w g) σ Q:=by
 have hB:=hR.st.1
 have hrB:q≠none→m≤rb∧rb≠B:=fun hq=>by
  have:=h.hr hq
  simp only [bZ,not_or] at this
  exact ⟨by omega,this.1⟩
 refine jQ (len:=l.length) h.row (by rw [List.length_map,h.hl,Nat.mul_one]) (by decide) (by decide) rfl (by intro y hy;simp at hy;subst hy;rfl) (by omega) (by omega) fun σ1 rb' off s c' hF1 hrb hR1=>?_
 have hF:Frm σ σ1 (fun i=>m≤i∧i≠B):=hF1.mono fun j _ hj=>by have:=hrB hj.1;rw [hj.2];exact this
 have hnY:¬ bZ B m rb':=by
  rcases hrb with ⟨hp,rfl⟩|hrb
  ·exact h.hr hp
  ·rintro (h1|h1)<;>omega
 have hYY:∀ i,i<σ.n→(bZ B m i∨some (⟨rb',off,some s⟩:Addr)≠none∧i=rb')→(bZ B m i∨q≠none∧i=rb):=by
  rintro i hi (h1|⟨_,h1⟩)
  ·exact .inl h1
  ·subst h1
   rcases hrb with ⟨hp,rfl⟩|hrb
   ·exact .inr ⟨hp,rfl⟩
   ·omega
 refine k σ1 rb' ⟨rb',off,some s⟩ c' hF (hR.frmS hF (fun h=>h.2 rfl) fun j hj=>Nat.le_trans hlo hj.1) ⟨.inr ⟨off,s,rfl,by simpa using hR1⟩,fun _=>hnY,by simp [h.hl],?_⟩
 intro i h1 h2
 have hS:∀ j,j<σ.n→(fun j=>q≠none∧j=rb) j→(bZ B m j∨q≠none∧j=rb):=fun _ _ h=>.inr h
 by_cases hi:i<bl.length
 ·have hi2:i<l.length:=by rw [←h.hl];exact hi
  rw [List.getElem_append_left hi,List.getElem_append_left hi2]
  exact (h.hk i hi hi2).step hF1 hS hYY
 ·have hi1:i=bl.length:=by simp at h1;omega
  subst hi1
  have e1:(bl++[j])[bl.length]'h1=j:=by simp
  have e2:(l++[t])[bl.length]'h2=t:=by simp [h.hl]
  rw [e1,e2]
  refine ht.step hF1 ?_ ?_
  ·rintro i _ ⟨h3,h4⟩
   exact .inr (by rw [h4];exact hm2 h3)
  ·rintro i hi h3
   rcases hYY i hi h3 with (h3|h3)|⟨h3,h4⟩
   ·exact .inl h3
   ·exact .inr (by omega)
   ·exact .inr (by rw [h4];exact hm2 h3)
theorem KR.close {b m rb:Nat} {y:Nd} {l:List Tm} {bl:List Nat} {q:Option Addr} {c k:Nat} (h:KR σ (bZ B m) rb l bl q c) (hk:k≤m) (hb:¬ bZ B k b) (hs:St σ b (ndc y q l.length c)):TmB σ (bZ B k) b (.mk y l):=by
 have lw:∀ j,j<σ.n→bZ B k j→bZ B m j:=fun j _ hj=>hj.elim .inl fun hj=>.inr (by omega)
 refine .mk bl hb hs ?_ h.hl fun i h1 h2=>(h.hk i h1 h2).step (Frm.refl σ NoB) (fun _ _ h=>h.elim) fun j hj h=>.inl (lw j hj h)
 rcases h.row with ⟨rfl,_,h0⟩|⟨off,s,rfl,hR⟩
 ·have:bl=[]:=by simpa using h0
  rw [this]
  exact aT.nil
 ·exact sS hR fun h1=>h.hr (by simp) (lw _ hR.lt h1)
theorem fP {σ0:aB} {A i:Nat} {v:Value} {cs:List Value} {K:Pg} {Q:cJ} (hA:σ0.n≤A) (hAB:A≠B) (hlo:lo≤σ0.n) (hF0:Frm σ0 σ (· =B)) (hR:Rdr σ B lo p cap ws e r) (hS:St σ A cs) (hi:i<cs.length) (hv:one v=true)
  (k:∀ σ',Frm σ0 σ' (· =B)→Frm σ σ' (· =A)→Rdr σ' B lo p cap ws e r→St σ' A (cs.set i v)→Wp aF ovD K σ' Q):
  Wp aF ovD (.act (stC (aadd ⟨A,0,some 0⟩ i) [v]) fun w=>cG w fun l=>aA l K) σ Q:=by
 refine bP hS hi hv fun σ1 hF1 hn1 hS1=>?_
 exact k σ1 (hF0.trans hF1 (fun _ _ h=>h) fun j hj h=>by omega) hF1 (hR.frmS hF1 (fun h=>hAB h.symm) fun j hj=>by omega) hS1
def nd7 (k:Int) (nm pm:List UInt8) (fr to:Int):List Value:=[.int .i64 k,.int .i64 0,.string (mkB nm),.string (mkB pm),.slice none 0 0,.int .i64 fr,.int .i64 to]
theorem fT (k:Int) (nm pm:List UInt8) (fr to:Int):(nd7 k nm pm fr to).length=7:=rfl
theorem lastTo_at {l:List Tm} (h:l.length - 1<l.length):lastTo l=l[l.length - 1].a.to:=by
 unfold lastTo
 rw [List.getLast?_eq_getElem?,List.getElem?_eq_getElem h]
theorem wp_longE {A rb:Nat} {l:List Tm} {bl:List Nat} {q:Option Addr} {c:Nat} (hA:σ.n≤A) (hAB:A≠B) (hlo:lo≤σ.n) {r':Rs} (hF:Frm σ σ' (· =B)) (hR:Rdr σ' B lo p cap ws e r') (en:Bool) (k:Int) (nm pm:List UInt8) {fr:Int} (hfr:fr=(wdM ws e r.p).fr)
  (hS:St σ' A (nd7 k nm pm fr 0)) (hK:KR σ' (bZ B (A+1)) rb l bl q c) (hen:en=true→1≤r'.p) (hl:l.length≤100000)
  (hx:(mM ws e (parse ws e n) r).bind (fun x=>if x.2.2.bad=true∨x.2.1=[] then some (sX,x.2.2.fell) else some (.mk { x.1 with fr:=(wdM ws e r.p).fr } x.2.1,x.2.2))=some x)
  (hg:mM ws e (parse ws e n) r=some ({ k:=k,nm:=nm,pm:=pm,to:=if en=true then lC ws e r' else lastTo l },l,r')):
  Wp aF ovD (T124k12 (some ⟨B,0,some 0⟩) ⟨A,0,some 0⟩ .normal [.bool en,.slice q l.length c]) σ' fun _ vs σ'=>∃ v,vs=[v]∧RQ B lo p cap ws e σ x v σ':=by
 rw [hg] at hx
 simp only [Option.bind_some] at hx
 simp only [wpS,T124k12]
 rw [aE hR.st rfl]
 simp only [wpS]
 have next:∀ b:Bool,(b=true↔r'.bad=true∨l=[])→Wp aF ovD (T124k11 (some ⟨B,0,some 0⟩) q l.length ⟨A,0,some 0⟩ en c .normal [.bool b]) σ' fun _ vs σ'=>∃ v,vs=[v]∧RQ B lo p cap ws e σ x v σ':=by
  intro b hb
  simp only [wpS,T124k11]
  rw [aC]
  by_cases hc:r'.bad=true∨l=[]
  ·rw [if_pos hc] at hx
   have hx:=ofS hx
   subst hx
   rw [if_pos (hb.2 hc)]
   exact wp_fell hF hR fun σ5 b hq=>⟨_,rfl,hq⟩
  rw [if_neg hc] at hx
  have hx:=ofS hx
  subst hx
  rw [if_neg fun h=>hc (hb.1 h)]
  rw [not_or] at hc
  have hll:1≤l.length:=List.length_pos_iff.2 hc.2
  have hi:l.length - 1<l.length:=by omega
  have hib:l.length - 1<bl.length:=by rw [hK.hl];exact hi
  rcases hK.row with ⟨_,_,h0⟩|⟨off,s,rfl,hrow⟩
  ·have:bl=[]:=by simpa using h0
   rw [this] at hib
   exact absurd hib (Nat.not_lt_zero _)
  have e1:aO (((l.length:Nat):Int) - 1)=((l.length - 1:Nat):Int):=by rw [aS (by omega)];omega
  simp only [wpS,e1]
  rw [aV]
  refine ⟨by simp only [Bool.and_eq_true,decide_eq_true_eq];omega,?_⟩
  have hv:(bl.map bU)[l.length - 1]?=some (bU bl[l.length - 1]):=by simp [hib]
  rw [Int.toNat_natCast,lJ hrow hv]
  simp only [wpS,dC]
  have htl:=hK.hk _ hib hi
  obtain ⟨pa,ca,sa⟩:=htl.st
  rw [aE sa (v:=.int .i64 l[l.length - 1].a.to) rfl,←lastTo_at hi]
  simp only [wpS]
  refine fP hA hAB hlo hF hR hS (by rw [fT];decide) rfl fun σ2 hF2 hFA hR2 hS2=>?_
  have hK2:=hK.frm hFA fun j _ hj=>.inr (by omega)
  rw [aK,aC]
  have last:∀ (σ3:aB) (to:Int),Frm σ σ3 (· =B)→Rdr σ3 B lo p cap ws e r'→St σ3 A (nd7 k nm pm fr to)→KR σ3 (bZ B (A+1)) rb l bl (some ⟨rb,off,some s⟩) c→to=(if en=true then lC ws e r' else lastTo l)→
    Wp aF ovD (T124k10 ⟨A,0,some 0⟩ (some ⟨rb,off,some s⟩) l.length c .normal []) σ3 fun _ vs σ'=>∃ v,vs=[v]∧RQ B lo p cap ws e σ (.mk { ({ k:=k,nm:=nm,pm:=pm,to:=if en=true then lC ws e r' else lastTo l }:Nd) with fr:=(wdM ws e r.p).fr } l,r') v σ':=by
   rintro σ3 to hF3 hR3 hS3 hK3 rfl
   simp only [wpS,T124k10]
   rw [aP hS3 7 rfl]
   unfold nd7
   simp only [wpS]
   refine aN fun σ4 hF4 hn4 hS4=>?_
   simp only [wpS]
   have hn3:=hF3.n
   have hB3:=hR3.st.1
   subst hfr
   refine ⟨_,rfl,_,rfl,KR.close (hK3.frm hF4 fun _ _ h=>h.elim) (by omega) ?_ hS4,hR3.frm hF4,hF3.seq hF4.no⟩
   rintro (h1|h1)<;>omega
  by_cases he:en=true
  ·rw [if_pos he,aD]
   refine WpF.mono (kD hR2 (hen he)) ?_
   rintro _ _ ⟨rfl,rfl⟩
   simp only [wpS]
   refine fP hA hAB hlo hF2 hR2 hS2 (by rw [List.length_set,fT];decide) rfl fun σ3 hF3 hFA3 hR3 hS3=>?_
   simp only [wpS]
   exact last σ3 _ hF3 hR3 hS3 (hK2.frm hFA3 fun j _ hj=>.inr (by omega)) (by rw [if_pos he])
  ·rw [if_neg he]
   simp only [wpS]
   exact last σ2 _ hF2 hR2 hS2 hK2 (by rw [if_neg he])
 rw [aC]
 by_cases hb:r'.bad=true
 ·rw [if_neg (by simp [hb])]
  simp only [wpS]
  exact next true ⟨fun _=>.inl hb,fun _=>rfl⟩
 ·rw [if_pos (by simpa using hb)]
  simp only [wpS]
  refine next _ ?_
  rw [beq_iff_eq]
  constructor
  ·intro h
   exact .inr (List.eq_nil_of_length_eq_zero (by omega))
  ·rintro (h|h)
   ·exact absurd h hb
   ·rw [h];try rfl
end
end Go.Pg
namespace Go.Pg
open Go.Proofs Go.Utf8 Go.Lib
set_option linter.unusedSimpArgs false
section
variable {σ σ':aB} {B lo:Nat} {p:Option Addr} {cap:Nat} {ws:List Wd} {e:Nat} {r:Rs} {x:Tm × Rs} {n:Nat}
theorem wp_long (ih:∀ m,m≤n→RIH B lo p cap ws e m) (h:parse ws e (n+1) .long r=some x) (hR:Rdr σ B lo p cap ws e r):WpF aF ovD 124 [bU B] σ (RQ B lo p cap ws e σ x):=by
 refine WpF.of (T124_eq _) rfl ?_
 rw [T124,aD]
 refine WpF.mono (dS hR) ?_
 rintro _ σ1 ⟨rfl,hF1⟩
 unfold wc
 simp only [wpS]
 refine aN fun σ2 hF2 hn2 hS2=>?_
 refine bD hS2 rfl rfl fun σ3 hF3 hn3 hS3=>?_
 have hB:=hR.st.1
 have hn1:=hF1.n
 have hF03:Frm σ σ3 NoB:=(hF1.seq hF2).fresh hF3 fun j hj h=>by omega
 have hR3:=hR.frm hF03
 generalize hAA:σ1.n=A at hS3
 have hA:σ.n≤A:=by omega
 have hAB:A≠B:=by omega
 have hlo:=hR.low
 have hA3:σ3.n=A+1:=by omega
 generalize hfr:(((wdM ws e r.p).fr:Nat):Int)=fr at hS3
 have hS3':St σ3 A (nd7 0 [] [] fr 0):=hS3
 clear hS3 hS2 hF2 hF3 hn2 hn3 hF1 hn1
 rw [parse] at h
 have fin:=fun {rb:Nat} {l:List Tm} {bl:List Nat} {q:Option Addr} {c:Nat} {r':Rs} {σ':aB} (hF:Frm σ σ' (· =B)) (hR':Rdr σ' B lo p cap ws e r') (en:Bool) (k:Int) (nm pm:List UInt8) (hS:St σ' A (nd7 k nm pm fr 0)) (hK:KR σ' (bZ B (A+1)) rb l bl q c) (hen:en=true→1≤r'.p) (hl:l.length≤100000) hg=>wp_longE (x:=x) hA hAB hlo hF hR' en k nm pm hfr.symm hS hK hen hl h hg
 clear hfr
 unfold mM at fin
 simp only [wpS]
 rw [aD]
 refine WpF.mono (bV hR3 kFun) ?_
 rintro _ σ4 ⟨rfl,hR4,hF4⟩
 simp only [wpS]
 rw [aC]
 unfold gA at hR4
 have hF04:=hF03.no.seq hF4
 have hS4:=hF4.st hS3' hAB
 have hn4:=hF4.n
 by_cases c1:isM ws e kFun r=true
 ·rw [if_pos c1] at fin hR4
  rw [if_pos c1,aD]
  refine WpF.mono (fW hR4 (by decide)) ?_
  rintro _ σ5 ⟨rfl,hR5,hF5⟩
  simp only [wpS]
  refine fP hA hAB hlo (hF04.seq hF5) hR5 (hF5.st hS4 hAB) (by rw [fT];decide) rfl fun σ6 hF6 hFA6 hR6 hS6=>?_
  refine fP hA hAB hlo hF6 hR6 hS6 (by rw [List.length_set,fT];decide) rfl fun σ7 hF7 hFA7 hR7 hS7=>?_
  rw [aD]
  refine WpF.mono (cD hR7 [45,62]) ?_
  rintro _ σ8 ⟨rfl,hR8,hF8⟩
  simp only [wpS]
  rw [aD]
  obtain ⟨a,h1⟩:∃ a,parse ws e n .expr (bN ws e [45,62] (bI ws e 2 r.next).2)=some a:=by
   rw [mM,if_pos c1] at h
   cases hh:parse ws e n .expr (bN ws e [45,62] (bI ws e 2 r.next).2) with
   |none=>rw [hh] at h;cases h
   |some a=>exact ⟨a,rfl⟩
  have hn8:A+1≤σ8.n:=by have:=hF5.n;have:=hFA6.n;have:=hFA7.n;have:=hF8.n;omega
  refine WpF.mono (ih n (Nat.le_refl _) .expr _ a σ8 rfl trivial h1 hR8) ?_
  rintro _ σ9 ⟨j1,rfl,t1,hR9,hF9⟩
  simp only [wpS]
  have hn9:=hF9.n
  refine iK (l:=[]) (q:=none) (m:=A+1) (KR.none (Y:=bZ B (A+1))) (by simp) (by omega) hn8 (fun h=>absurd rfl h) t1 hR9 (by omega) fun σa rba pa ca hFa hRa hKa=>?_
  simp only [wpS,T124k9]
  have hF0a:=((hF7.seq hF8).seq hF9).trans hFa (fun _ _ h=>h) fun j hj h=>by omega
  have hSa:=hFa.st (hF9.st (hF8.st hS7 hAB) hAB) (by omega)
  exact fin hF0a hRa false 6 [] _ hSa hKa (fun h=>by cases h) (by simp) (by rw [h1];rfl)
 rw [if_neg c1] at fin hR4
 rw [if_neg c1,aD]
 refine WpF.mono (bV hR4 kLet) ?_
 rintro _ σ5 ⟨rfl,hR5,hF5⟩
 simp only [wpS]
 rw [aC]
 unfold gA at hR5
 have hF05:=hF04.seq hF5
 have hS5:=hF5.st hS4 hAB
 have hn5:=hF5.n
 by_cases c2:isM ws e kLet r=true
 ·rw [if_pos c2] at fin hR5
  rw [if_pos c2]
  refine fP hA hAB hlo hF05 hR5 hS5 (by rw [fT];decide) rfl fun σ6 hF6 hFA6 hR6 hS6=>?_
  have hS6':St σ6 A (nd7 8 [] [] fr 0):=hS6
  have hn6:=hFA6.n
  rw [aD]
  refine WpF.mono (bV hR6 kRec) ?_
  rintro _ σ7 ⟨rfl,hR7,hF7⟩
  simp only [wpS]
  unfold gA at hR7
  have hn7:=hF7.n
  have body:∀ (k:Int) (nm pm:List UInt8) (r':Rs) (σ':aB),Frm σ σ' (· =B)→Rdr σ' B lo p cap ws e r'→St σ' A (nd7 k nm pm fr 0)→A+1≤σ'.n→
    (if isM ws e kRec r.next=true then some ((9:Int),(bI ws e 2 r.next.next).1,(bI ws e 2 (bI ws e 2 r.next.next).2).1,(bI ws e 2 (bI ws e 2 r.next.next).2).2) else some (8,(bI ws e 2 r.next).1,[],(bI ws e 2 r.next).2))=some (k,nm,pm,r')→
    Wp aF ovD (T124k0 (some ⟨B,0,some 0⟩) .normal []) σ' fun e_1 vs σ'=>Wp aF ovD (T124k8 e_1 vs) σ' fun e_1 vs σ'=>Wp aF ovD (T124k9 e_1 vs) σ' fun e_1 vs σ'=>Wp aF ovD (T124k12 (some ⟨B,0,some 0⟩) ⟨A,0,some 0⟩ e_1 vs) σ' fun _ vs σ'=>∃ v,vs=[v]∧RQ B lo p cap ws e σ x v σ':=by
   intro k nm pm r' σ' hF' hR' hS' hn' hz
   rw [mM,if_neg c1,if_pos c2,hz] at h
   simp only [Option.bind_some] at h
   rw [hz] at fin
   simp only [Option.bind_some] at fin
   obtain ⟨y,h1,_⟩:=aQ h
   obtain ⟨a,h2,h1⟩:=aQ h1
   obtain ⟨b,h3,h1⟩:=aQ h1
   have hy:=ofS h1
   simp only [wpS,T124k0]
   rw [aD]
   refine WpF.mono (cD hR' [61]) ?_
   rintro _ σ8 ⟨rfl,hR8,hF8⟩
   simp only [wpS]
   rw [aD]
   have hn8:=hF8.n
   refine WpF.mono (ih n (Nat.le_refl _) .expr _ a σ8 rfl trivial h2 hR8) ?_
   rintro _ σ9 ⟨j1,rfl,t1,hR9,hF9⟩
   simp only [wpS]
   have hn9:=hF9.n
   refine iK (l:=[]) (q:=none) (m:=A+1) (KR.none (Y:=bZ B (A+1))) (by simp) (by omega) (m':=σ8.n) (by omega) (fun h=>absurd rfl h) t1 hR9 (by omega) fun σa rba pa ca hFa hRa hKa=>?_
   have hna:=hFa.n
   have hFa':Frm σ9 σa (· =B)→True:=fun _=>trivial
   rw [aD]
   refine WpF.mono (cD hRa kIn) ?_
   rintro _ σb ⟨rfl,hRb,hFb⟩
   simp only [wpS]
   rw [aD]
   have hnb:=hFb.n
   have hKb:=hKa.frm hFb fun _ _ h=>.inl h
   refine WpF.mono (ih n (Nat.le_refl _) .expr _ b σb rfl trivial h3 hRb) ?_
   rintro _ σc ⟨j2,rfl,t2,hRc,hFc⟩
   simp only [wpS]
   have hnc:=hFc.n
   refine iK (l:=[]++[a.1]) (m:=A+1) (hKb.frm hFc fun _ _ h=>.inl h) (by simp) (by omega) (m':=σb.n) (by omega) (fun h=>hKb.row.lt h) t2 hRc (by omega) fun σd rbd pd cd hFd hRd hKd=>?_
   simp only [wpS,T124k8,T124k9]
   have lowA:∀ {τ:aB},∀ j,j<σ.n→(A+1≤j∧j≠B)→j=B:=fun j hj h=>by omega
   have hF0d:=((((((hF'.seq hF8).seq hF9).trans hFa (fun _ _ h=>h) (lowA (τ:=σ))).seq hFb).seq hFc)).trans hFd (fun _ _ h=>h) (lowA (τ:=σ))
   have hSd:=hFd.st (hFc.st (hFb.st (hFa.st (hF9.st (hF8.st hS' hAB) hAB) (by omega)) hAB) hAB) (by omega)
   exact fin hF0d hRd false k nm pm hSd hKd (fun h=>by cases h) (by simp) (by rw [h2,Option.bind_some,h3];rfl)
  rw [aC]
  by_cases c3:isM ws e kRec r.next=true
  ·rw [if_pos c3] at hR7
   rw [if_pos c3]
   refine fP hA hAB hlo (hF6.seq hF7) hR7 (hF7.st hS6' hAB) (by rw [fT];decide) rfl fun σ8 hF8 hFA8 hR8 hS8=>?_
   have hn8:=hFA8.n
   simp only [wpS,T124k1]
   rw [aD]
   refine WpF.mono (fW hR8 (by decide)) ?_
   rintro _ σ9 ⟨rfl,hR9,hF9⟩
   simp only [wpS]
   refine fP hA hAB hlo (hF8.seq hF9) hR9 (hF9.st hS8 hAB) (by rw [List.length_set,fT];decide) rfl fun σa hFa hFAa hRa hSa=>?_
   have hSa':St σa A (nd7 9 (bI ws e 2 r.next.next).1 [] fr 0):=hSa
   rw [aE hSa' rfl]
   simp only [wpS]
   rw [aC,if_pos (by rfl),aD]
   refine WpF.mono (fW hRa (by decide)) ?_
   rintro _ σb ⟨rfl,hRb,hFb⟩
   simp only [wpS]
   refine fP hA hAB hlo (hFa.seq hFb) hRb (hFb.st hSa' hAB) (by rw [fT];decide) rfl fun σc hFc hFAc hRc hSc=>?_
   simp only [wpS]
   have hn9:=hF9.n
   have hna:=hFAa.n
   have hnb:=hFb.n
   have hnc:=hFAc.n
   exact body 9 _ _ _ σc hFc hRc hSc (by omega) (if_pos c3)
  ·rw [if_neg c3] at hR7
   rw [if_neg c3]
   simp only [wpS,T124k1]
   rw [aD]
   refine WpF.mono (fW hR7 (by decide)) ?_
   rintro _ σ9 ⟨rfl,hR9,hF9⟩
   simp only [wpS]
   refine fP hA hAB hlo ((hF6.seq hF7).seq hF9) hR9 (hF9.st (hF7.st hS6' hAB) hAB) (by rw [fT];decide) rfl fun σa hFa hFAa hRa hSa=>?_
   have hSa':St σa A (nd7 8 (bI ws e 2 r.next).1 [] fr 0):=hSa
   rw [aE hSa' rfl]
   simp only [wpS]
   rw [aC,if_neg (by decide)]
   simp only [wpS]
   have hn9:=hF9.n
   have hna:=hFAa.n
   exact body 8 _ [] _ σa hFa hRa hSa' (by omega) (if_neg c3)
 rw [if_neg c2] at fin hR5
 rw [if_neg c2,aD]
 refine WpF.mono (bV hR5 kIf) ?_
 rintro _ σ6 ⟨rfl,hR6,hF6⟩
 simp only [wpS]
 rw [aC]
 unfold gA at hR6
 have hF06:=hF05.seq hF6
 have hS6:=hF6.st hS5 hAB
 have hn6:=hF6.n
 have lowA:∀ j,j<σ.n→(A+1≤j∧j≠B)→j=B:=fun j hj h=>by omega
 by_cases c3:isM ws e kIf r=true
 ·rw [if_pos c3] at fin hR6
  rw [mM,if_neg c1,if_neg c2,if_pos c3] at h
  obtain ⟨y,h1,_⟩:=aQ h
  obtain ⟨a,h2,h1⟩:=aQ h1
  obtain ⟨b,h3,h1⟩:=aQ h1
  obtain ⟨c,h4,h1⟩:=aQ h1
  rw [if_pos c3]
  refine fP hA hAB hlo hF06 hR6 hS6 (by rw [fT];decide) rfl fun σ7 hF7 hFA7 hR7 hS7=>?_
  have hn7:=hFA7.n
  rw [aD]
  refine WpF.mono (ih n (Nat.le_refl _) .expr _ a σ7 rfl trivial h2 hR7) ?_
  rintro _ σ8 ⟨j1,rfl,t1,hR8,hF8⟩
  simp only [wpS]
  have hn8:=hF8.n
  refine iK (l:=[]) (q:=none) (m:=A+1) (KR.none (Y:=bZ B (A+1))) (by simp) (by omega) (m':=σ7.n) (by omega) (fun h=>absurd rfl h) t1 hR8 (by omega) fun σ9 rb9 p9 c9 hF9 hR9 hK9=>?_
  have hn9:=hF9.n
  rw [aD]
  refine WpF.mono (cD hR9 kThen) ?_
  rintro _ σa ⟨rfl,hRa,hFa⟩
  simp only [wpS]
  have hna:=hFa.n
  rw [aD]
  refine WpF.mono (ih n (Nat.le_refl _) .expr _ b σa rfl trivial h3 hRa) ?_
  rintro _ σb ⟨j2,rfl,t2,hRb,hFb⟩
  simp only [wpS]
  have hnb:=hFb.n
  have hKa:=hK9.frm hFa fun _ _ h=>.inl h
  refine iK (l:=[]++[a.1]) (m:=A+1) (hKa.frm hFb fun _ _ h=>.inl h) (by simp) (by omega) (m':=σa.n) (by omega) (fun h=>hKa.row.lt h) t2 hRb (by omega) fun σc rbc pc cc hFc hRc hKc=>?_
  have hnc:=hFc.n
  rw [aD]
  refine WpF.mono (cD hRc kElse) ?_
  rintro _ σd ⟨rfl,hRd,hFd⟩
  simp only [wpS]
  have hnd:=hFd.n
  rw [aD]
  refine WpF.mono (ih n (Nat.le_refl _) .expr _ c σd rfl trivial h4 hRd) ?_
  rintro _ σe ⟨j3,rfl,t3,hRe,hFe⟩
  simp only [wpS]
  have hne:=hFe.n
  have hKd:=hKc.frm hFd fun _ _ h=>.inl h
  refine iK (l:=[]++[a.1]++[b.1]) (m:=A+1) (hKd.frm hFe fun _ _ h=>.inl h) (by simp) (by omega) (m':=σd.n) (by omega) (fun h=>hKd.row.lt h) t3 hRe (by omega) fun σf rbf pf cf hFf hRf hKf=>?_
  simp only [wpS,T124k7,T124k8,T124k9]
  have hF0f:=((((((((hF7.seq hF8).trans hF9 (fun _ _ h=>h) lowA).seq hFa).seq hFb).trans hFc (fun _ _ h=>h) lowA).seq hFd).seq hFe)).trans hFf (fun _ _ h=>h) lowA
  have hSf:=hFf.st (hFe.st (hFd.st (hFc.st (hFb.st (hFa.st (hF9.st (hF8.st hS7 hAB) (by omega)) hAB) hAB) (by omega)) hAB) hAB) (by omega)
  exact fin hF0f hRf false 10 [] [] hSf hKf (fun h=>by cases h) (by simp) (by rw [h2,Option.bind_some,h3,Option.bind_some,h4];rfl)
 rw [if_neg c3] at fin hR6
 rw [if_neg c3,aD]
 refine WpF.mono (bV hR6 iQ) ?_
 rintro _ σ7 ⟨rfl,hR7,hF7⟩
 simp only [wpS]
 rw [aC]
 unfold gA at hR7
 have hF07:=hF06.seq hF7
 have hS7:=hF7.st hS6 hAB
 have hn7:=hF7.n
 by_cases c4:isM ws e iQ r=true
 ·rw [if_pos c4] at fin hR7
  rw [mM,if_neg c1,if_neg c2,if_neg c3,if_pos c4] at h
  obtain ⟨y,h1,_⟩:=aQ h
  obtain ⟨a,h2,h1⟩:=aQ h1
  obtain ⟨b,h3,h1⟩:=aQ h1
  rw [if_pos c4]
  refine fP hA hAB hlo hF07 hR7 hS7 (by rw [fT];decide) rfl fun σ8 hF8 hFA8 hR8 hS8=>?_
  have hn8:=hFA8.n
  rw [aD]
  have g0:=(fK _ _ _ _ (show Pre ws .expr r.next from trivial) h2).2.le
  refine WpF.mono (ih n (Nat.le_refl _) .expr _ a σ8 rfl trivial h2 hR8) ?_
  rintro _ σ9 ⟨j1,rfl,t1,hR9,hF9⟩
  simp only [wpS]
  have hn9:=hF9.n
  refine iK (l:=[]) (q:=none) (m:=A+1) (KR.none (Y:=bZ B (A+1))) (by simp) (by omega) (m':=σ8.n) (by omega) (fun h=>absurd rfl h) t1 hR9 (by omega) fun σa rba pa ca hFa hRa hKa=>?_
  have hna:=hFa.n
  rw [aD]
  refine WpF.mono (cD hRa iN) ?_
  rintro _ σb ⟨rfl,hRb,hFb⟩
  simp only [wpS]
  have hnb:=hFb.n
  have hF0b:=(((hF8.seq hF9).trans hFa (fun _ _ h=>h) lowA).seq hFb)
  have hSb:=hFb.st (hFa.st (hF9.st hS8 hAB) (by omega)) hAB
  have hKb:=hKa.frm hFb fun _ _ h=>.inl h
  have gw:=(bG (ws:=ws) (e:=e) iN a.2).1.le
  have h30:=h3
  refine Wp.loop (fun m st σ'=>m≤n∧∃ (l:List Tm) (more:Bool) (r':Rs) (rb:Nat) (bl:List Nat) (q:Addr) (c:Nat),st=[.bool more,.slice (some q) l.length c]∧parse ws e m (.armL l more) r'=some b∧KR σ' (bZ B (A+1)) rb l bl (some q) c∧Rdr σ' B lo p cap ws e r'∧Frm σ σ' (· =B)∧St σ' A (nd7 11 [] [] fr 0)∧A+1≤σ'.n∧1≤r'.p∧l.length≤r'.p+2∧(r'.bad=false→l.length≤r'.p)) n
   ⟨Nat.le_refl _,_,true,_,rba,_,pa,ca,rfl,h3,hKb,hRb,hF0b,hSb,by omega,by simp only [Rs.next] at g0;omega,by simp,fun _=>by simp only [Rs.next] at g0;simp;omega⟩ ?_
  clear h3 hKb hRb hF0b hSb hFb hRa hKa hFa hR9 hF9 t1
  rintro m st σc ⟨hm,l,more,r',rb,bl,q,c,rfl,h3,hKc,hRc,hFc,hSc,hnc,hpc,hlc,hlb⟩
  cases m with
  |zero=>cases h3
  |succ m=>
  rw [parse] at h3
  have hpl:=hRc.pl
  have hwl:=hRc.len
  unfold T124b0
  simp only [wpS]
  have done:¬ (more=true∧r'.bad=false)→Wp aF ovD (T124k4 (some ⟨B,0,some 0⟩) (.exit 1) [.bool more,.slice (some q) l.length c]) σc fun e_1 vs σ'=>Wp aF ovD (T124k6 e_1 vs) σ' fun e_1 vs σ'=>Wp aF ovD (T124k7 e_1 vs) σ' fun e_1 vs σ'=>Wp aF ovD (T124k8 e_1 vs) σ' fun e_1 vs σ'=>Wp aF ovD (T124k9 e_1 vs) σ' fun e_1 vs σ'=>Wp aF ovD (T124k12 (some ⟨B,0,some 0⟩) ⟨A,0,some 0⟩ e_1 vs) σ' fun _ vs σ'=>∃ v,vs=[v]∧RQ B lo p cap ws e σ x v σ':=by
   intro hc
   rw [if_neg hc] at h3
   have hx:=ofS h3
   subst hx
   simp only [wpS,T124k4]
   rw [aD]
   refine WpF.mono (cD hRc qU) ?_
   rintro _ σd ⟨rfl,hRd,hFd⟩
   simp only [wpS,T124k6,T124k7,T124k8,T124k9]
   have ge:=(bG (ws:=ws) (e:=e) qU r').1.le
   exact fin (hFc.seq hFd) hRd true 11 [] [] (hFd.st hSc hAB) (hKc.frm hFd fun _ _ h=>.inl h) (fun _=>by omega) (by omega) (by rw [h2,Option.bind_some,h30];rfl)
  rw [aC]
  by_cases d1:more=true
  case neg=>
   rw [if_neg (by simpa using d1)]
   simp only [wpS,T124k3]
   rw [aC,if_neg (by simp)]
   simp only [wpS]
   exact done fun h=>d1 h.1
  rw [if_pos (by simpa using d1),aE hRc.st rfl]
  simp only [wpS,T124k3]
  rw [aC]
  by_cases d2:r'.bad=true
  ·rw [if_neg (by simp [d2])]
   simp only [wpS]
   exact done fun h=>by rw [d2] at h;exact absurd h.2 (by simp)
  have d2':r'.bad=false:=by simpa using d2
  rw [if_pos ⟨d1,d2'⟩] at h3
  obtain ⟨a2,h4,h3⟩:=aQ h3
  obtain ⟨b2,h5,h3⟩:=aQ h3
  rw [if_pos (by simp [d2']),aK,aD]
  refine WpF.mono (ih m (by omega) .pat _ a2 σc rfl trivial h4 hRc) ?_
  rintro _ σd ⟨j2,rfl,t2,hRd,hFd⟩
  simp only [wpS]
  have hnd:=hFd.n
  refine iK (m:=A+1) (hKc.frm hFd fun _ _ h=>.inl h) (by omega) (by omega) (m':=σc.n) (by omega) (fun h=>hKc.row.lt h) t2 hRd (by omega) fun σe rbe pe ce hFe hRe hKe=>?_
  have hne:=hFe.n
  rw [aD]
  refine WpF.mono (cD hRe [45,62]) ?_
  rintro _ σf ⟨rfl,hRf,hFf⟩
  simp only [wpS]
  have hnf:=hFf.n
  rw [aD]
  refine WpF.mono (ih m (by omega) .expr _ b2 σf rfl trivial h5 hRf) ?_
  rintro _ σg ⟨j3,rfl,t3,hRg,hFg⟩
  simp only [wpS]
  have hng:=hFg.n
  have hKf:=hKe.frm hFf fun _ _ h=>.inl h
  rw [show l.length+1=(l++[a2.1]).length by simp]
  refine iK (m:=A+1) (hKf.frm hFg fun _ _ h=>.inl h) (by simp;omega) (by omega) (m':=σf.n) (by omega) (fun h=>hKf.row.lt h) t3 hRg (by omega) fun σh rbh ph ch hFh hRh hKh=>?_
  simp only [wpS,T124k2]
  rw [aD]
  refine WpF.mono (bV hRh [124]) ?_
  rintro _ σi ⟨rfl,hRi,hFi⟩
  simp only [wpS]
  have hnh:=hFh.n
  have hni:=hFi.n
  have g1:=(fK _ _ _ _ (show Pre ws .pat r' from trivial) h4).1 rfl
  have g2:=bG (ws:=ws) (e:=e) [45,62] a2.2
  have g3:=(fK _ _ _ _ (show Pre ws .expr (bN ws e [45,62] a2.2) from trivial) h5).2
  have g4:b2.2.p≤(gA ws e [124] b2.2).p∧(gA ws e [124] b2.2).bad=b2.2.bad:=by
   unfold gA
   split
   ·exact ⟨Nat.le_succ _,rfl⟩
   ·exact ⟨Nat.le_refl _,rfl⟩
  have q1:=g1.1.le
  have q2:=g2.1.le
  have q3:=g3.le
  have lb:=hlb d2'
  have hF0i:=(((((hFc.seq hFd).trans hFe (fun _ _ h=>h) lowA).seq hFf).seq hFg).trans hFh (fun _ _ h=>h) lowA).seq hFi
  have hSi:=hFi.st (hFh.st (hFg.st (hFf.st (hFe.st (hFd.st hSc hAB) (by omega)) hAB) hAB) (by omega)) hAB
  have hlen2:(l++[a2.1]++[b2.1]).length=l.length+2:=by simp
  refine ⟨m,by omega,by omega,l++[a2.1]++[b2.1],isM ws e [124] b2.2,gA ws e [124] b2.2,rbh,_,ph,ch,?_,h3,hKh.frm hFi fun _ _ h=>.inl h,hRi,hF0i,hSi,by omega,by omega,by omega,?_⟩
  ·rw [hlen2]
   simp
  ·intro hb
   rw [g4.2] at hb
   have hb2:(bN ws e [45,62] a2.2).bad=false:=by
    cases hx:(bN ws e [45,62] a2.2).bad with
    |false=>rfl
    |true=>rw [g3.bad hx] at hb;cases hb
   have hb3:=dO hb2
   rcases g1.2 with hg|hg
   ·rw [hb3.1] at hg;cases hg
   ·have:=hb3.2
    omega
 rw [if_neg c4] at fin hR7
 rw [if_neg c4,aD]
 refine WpF.mono (bV hR7 kTry) ?_
 rintro _ σ8 ⟨rfl,hR8,hF8⟩
 simp only [wpS]
 rw [aC]
 unfold gA at hR8
 have hF08:=hF07.seq hF8
 have hS8:=hF8.st hS7 hAB
 have hn8:=hF8.n
 by_cases c5:isM ws e kTry r=true
 ·rw [if_pos c5] at fin hR8
  rw [mM,if_neg c1,if_neg c2,if_neg c3,if_neg c4,if_pos c5] at h
  obtain ⟨y,h1,_⟩:=aQ h
  obtain ⟨a,h2,h1⟩:=aQ h1
  obtain ⟨b,h3,h1⟩:=aQ h1
  rw [if_pos c5]
  refine fP hA hAB hlo hF08 hR8 hS8 (by rw [fT];decide) rfl fun σ9 hF9 hFA9 hR9 hS9=>?_
  have hn9:=hFA9.n
  rw [aD]
  refine WpF.mono (ih n (Nat.le_refl _) .expr _ a σ9 rfl trivial h2 hR9) ?_
  rintro _ σa ⟨j1,rfl,t1,hRa,hFa⟩
  simp only [wpS]
  have hna:=hFa.n
  refine iK (l:=[]) (q:=none) (m:=A+1) (KR.none (Y:=bZ B (A+1))) (by simp) (by omega) (m':=σ9.n) (by omega) (fun h=>absurd rfl h) t1 hRa (by omega) fun σb rbb pb cb hFb hRb hKb=>?_
  have hnb:=hFb.n
  rw [aD]
  refine WpF.mono (cD hRb iN) ?_
  rintro _ σc ⟨rfl,hRc,hFc⟩
  simp only [wpS]
  have hnc:=hFc.n
  rw [aD]
  refine WpF.mono (fW hRc (by decide)) ?_
  rintro _ σd ⟨rfl,hRd,hFd⟩
  simp only [wpS]
  have hnd:=hFd.n
  have hF0d:=(((hF9.seq hFa).trans hFb (fun _ _ h=>h) lowA).seq hFc).seq hFd
  have hSd:=hFd.st (hFc.st (hFb.st (hFa.st hS9 hAB) (by omega)) hAB) hAB
  have hKd:=(hKb.frm hFc fun _ _ h=>.inl h).frm hFd fun _ _ h=>.inl h
  refine fP hA hAB hlo hF0d hRd hSd (by rw [List.length_set,fT];decide) rfl fun σe hFe hFAe hRe hSe=>?_
  have hKe:=hKd.frm hFAe fun j _ hj=>.inr (by omega)
  have hne:=hFAe.n
  rw [aD]
  refine WpF.mono (cD hRe [45,62]) ?_
  rintro _ σf ⟨rfl,hRf,hFf⟩
  simp only [wpS]
  have hnf:=hFf.n
  rw [aD]
  refine WpF.mono (ih n (Nat.le_refl _) .expr _ b σf rfl trivial h3 hRf) ?_
  rintro _ σg ⟨j2,rfl,t2,hRg,hFg⟩
  simp only [wpS]
  have hng:=hFg.n
  have hKf:=hKe.frm hFf fun _ _ h=>.inl h
  refine iK (l:=[]++[a.1]) (m:=A+1) (hKf.frm hFg fun _ _ h=>.inl h) (by simp) (by omega) (m':=σf.n) (by omega) (fun h=>hKf.row.lt h) t2 hRg (by omega) fun σh rbh ph ch hFh hRh hKh=>?_
  have hnh:=hFh.n
  rw [aD]
  refine WpF.mono (cD hRh qU) ?_
  rintro _ σi ⟨rfl,hRi,hFi⟩
  simp only [wpS,T124k5,T124k6,T124k7,T124k8,T124k9]
  have hF0i:=(((hFe.seq hFf).seq hFg).trans hFh (fun _ _ h=>h) lowA).seq hFi
  have hSi:=hFi.st (hFh.st (hFg.st (hFf.st hSe hAB) hAB) (by omega)) hAB
  have q0:1≤(bN ws e qU b.2).p:=by
   have q1:=(fK _ _ _ _ (show Pre ws .expr r.next from trivial) h2).2.le
   have q2:=(bG (ws:=ws) (e:=e) iN a.2).1.le
   have q3:=(cE (ws:=ws) (e:=e) (k:=2) (by decide) (bN ws e iN a.2)).1.le
   have q4:=(bG (ws:=ws) (e:=e) [45,62] (bI ws e 2 (bN ws e iN a.2)).2).1.le
   have q5:=(fK _ _ _ _ (show Pre ws .expr (bN ws e [45,62] (bI ws e 2 (bN ws e iN a.2)).2) from trivial) h3).2.le
   have q6:=(bG (ws:=ws) (e:=e) qU b.2).1.le
   simp only [Rs.next] at q1
   omega
  exact fin hF0i hRi true 20 [] _ hSi (hKh.frm hFi fun _ _ h=>.inl h) (fun _=>q0) (by simp) (by rw [h2,Option.bind_some,h3];rfl)
 rw [if_neg c5] at fin hR8
 rw [if_neg c5]
 simp only [wpS,T124k5,T124k6,T124k7,T124k8,T124k9]
 exact fin (l:=[]) (q:=none) (c:=0) hF08 hR8 false 0 [] [] hS8 KR.none (fun h=>by cases h) (by simp) rfl
end
end Go.Pg
