/- TSo, V, LexP, LexQ, LexR, Blk -/
import Derived.Test.YtkbefekajgfldaaGreatDoorProg
import Derived.KernelRfl
import Derived.Test.YtkbefekajgfldaaGreatDoorRows
import Derived.Test.YtkbefekajgfldaaGreatDoorP3
set_option maxHeartbeats 1000000
namespace Go.Pg
open Go.Proofs
set_option linter.unusedVariables false
set_option maxRecDepth 100000
noncomputable abbrev aG:Program:=Tryz.prog
abbrev rn (l:List Value):Pg:=.ret .normal l
abbrev rr (l:List Value):Pg:=.ret .ret l
abbrev re (k:Nat) (l:List Value):Pg:=.ret (.exit k) l
abbrev nI (i:Int):Value:=.int .i64 i
abbrev cI (l:List Value) (f:Int→List Value→Pg):Pg:=aM l fun v r=>asInt .i64 v fun i=>f i r
abbrev cS (l:List Value) (f:ByteArray→List Value→Pg):Pg:=aM l fun v r=>jP v fun i=>f i r
abbrev cB (l:List Value) (f:Bool→List Value→Pg):Pg:=aM l fun v r=>eR v fun i=>f i r
abbrev cL (l:List Value) (f:Option Addr→Nat→Nat→List Value→Pg):Pg:=aM l fun v r=>aN v fun p n c=>f p n c r
abbrev lI (a:Addr) (f:Int→Pg):Pg:=.act (ld1 a) fun v=>asInt .i64 v f
abbrev lS (a:Addr) (f:ByteArray→Pg):Pg:=.act (ld1 a) fun v=>jP v f
abbrev lB (a:Addr) (f:Bool→Pg):Pg:=.act (ld1 a) fun v=>eR v f
abbrev lL (a:Addr) (f:Option Addr→Nat→Nat→Pg):Pg:=.act (ld1 a) fun v=>aN v f
abbrev lA (n:Nat) (a:Addr) (f:List Value→Pg):Pg:=.act (ldN n a) fun v=>asAgg v f
abbrev nw (l:List Value) (f:Addr→Pg):Pg:=.act (newC l) fun v=>aK v fun p=>aF p f
abbrev sC (a:Addr) (l:List Value) (p:Pg):Pg:=.act (stC a l) fun v=>cE v fun l=>aA l p
abbrev bL (k n:Nat) (l:List Value) (f:Option Addr→Nat→Nat→Pg):Pg:=.act (wW k n l) fun v=>aN v f
abbrev qI (g:FuncId) (l:List Value) (f:Int→Pg):Pg:=.call g l fun v=>asInt .i64 v f
abbrev qB (g:FuncId) (l:List Value) (f:Bool→Pg):Pg:=.call g l fun v=>eR v f
abbrev qS (g:FuncId) (l:List Value) (f:ByteArray→Pg):Pg:=.call g l fun v=>jP v f
abbrev qL (g:FuncId) (l:List Value) (f:Option Addr→Nat→Nat→Pg):Pg:=.call g l fun v=>aN v f
abbrev qT (g:FuncId) (l:List Value) (f:List Value→Pg):Pg:=.call g l fun v=>cE v f
abbrev qA (g:FuncId) (l:List Value) (f:List Value→Pg):Pg:=.call g l fun v=>asAgg v f
abbrev ix (i:Int) (n:Nat) (p:Pg):Pg:=grd (decide (0≤i)&&decide (i<((n:Nat):Int))) p
abbrev TK:=Ex→List Value→Pg
abbrev TB:=List Value→Pg
noncomputable def T5k0 (A:Int):TK:=
 fun a b=>sw a .normal (cI b fun a b=>aA b (rn [(nI (aT (A+1))),nI a])) (.fail)
noncomputable def T5b0 (A:Nat) (B:Option Addr):TB:=
 fun a=>cI a fun a b=>cI b fun b c=>aA c (bif (decide (a<(A:Int))) then (.join (aF B fun c=>ix a A (lI (aadd c ((Int.toNat a)*1)) fun a=>qI 18 [(nI (aT (b+a)))] fun a=>rn [nI a])) (T5k0 a)) else (re 0 [nI a,nI b]))
noncomputable def T5k1:TK:=
 fun a b=>sw a .normal (cB b fun a b=>aA b (rr [.bool a])) (.fail)
noncomputable def T5k2 (A:Nat) (B:Option Addr) (C:Nat):TK:=
 fun a b=>sw a (.exit 0) (cI b fun _ a=>cI a fun a b=>aA b (qS 19 [(nI (A:Int))] fun b=>grd (Nat.ble (79+b.size) 9223372036854775807) (grd (Nat.ble (((bs [108,101,116,32,114,101,99,32,102,32,110,32,61,32,105,102,32,110,32,60,32,49,32,116,104,101,110,32,48,32,101,108,115,101,32,40,108,101,116,32,120,32,61,32,114,101,97,100,32,105,110,32,120,32,43,32,102,32,40,110,32,45,32,49,41,41,32,105,110,32,112,114,105,110,116,32,40,102,32])++b).size+1) 9223372036854775807) (qT 10 [(.string (((bs [108,101,116,32,114,101,99,32,102,32,110,32,61,32,105,102,32,110,32,60,32,49,32,116,104,101,110,32,48,32,101,108,115,101,32,40,108,101,116,32,120,32,61,32,114,101,97,100,32,105,110,32,120,32,43,32,102,32,40,110,32,45,32,49,41,41,32,105,110,32,112,114,105,110,116,32,40,102,32])++b)++(bs [41])))] fun b=>aM b fun b c=>asAgg b fun b=>cL b fun b d f g=>cL g fun g h i j=>aA j (cB c fun c j=>aA j (nw [.slice none 0 0,.slice none 0 0] fun j=>sC j [.slice b d f,.slice g h i] (bif (!c) then (rr [.bool false]) else (lA 2 j fun b=>cL b fun b c d f=>cL f fun f g h i=>aA i (qT 12 [(.agg #[.slice b c d,.slice f g h]),.slice B A C] fun b=>aM b fun b c=>aK b fun b=>cI c fun c d=>aA d (bif ((c !=0)||(Option.isNone b)) then (rr [.bool false]) else (qI 13 [.pointer b,nI 100000] fun _=>qL 14 [.pointer b] fun c d _=>.join (qI 16 [.pointer b] fun f=>bif (f==1)==true then (bif ((d:Int)==1)==true then (aF c fun c=>grd (decide (0<(d:Int))) (lI (aadd c 0) fun c=>bif (c==a)==true then (qI 20 [.pointer b] fun a=>rn [(.bool (a==(A:Int)))]) else (rn [.bool false]))) else (rn [.bool false])) else (rn [.bool false])) (T5k1)))))))))))) (.fail)
noncomputable def T5k3 (A:Nat) (B:Option Addr) (C:Nat):TK:=
 fun a b=>sw a .normal (cB b fun a b=>aA b (bif a then (rr [.bool true]) else (.loop [nI 0,nI 0] (T5b0 A B) (T5k2 A B C)))) (.fail)
noncomputable def T5 (A:Option Addr) (B C:Nat):Pg:=
 qB 9 [] fun a=>bif (!a) then (rr [.bool false]) else (.join (bif (decide ((B:Int)<1))==false then (bif (decide ((B:Int)>15))==false then (qB 11 [.slice A B C] fun a=>rn [(.bool (!a))]) else (rn [.bool true])) else (rn [.bool true])) (T5k3 B A C))
theorem T5_eq (A:Option Addr) (B C:Nat):aH aG false 5 [.slice A B C]=T5 A B C:=by kernel_rfl
noncomputable def T9k0:TK:=
 fun a b=>sw a .normal (cB b fun a b=>aA b (rr [.bool a])) (.fail)
noncomputable def T9:Pg:=
 .call 28 [(.string (bs [112,114,105,110,116,32,40,49,32,43,32,50,41])),.slice none 0 0] fun a=>aK a fun a=>bif (Option.isNone a) then (rr [.bool false]) else (qT 24 [.pointer a] fun b=>aM b fun b c=>asAgg b fun b=>cI b fun b d=>cI d fun d f=>cS f fun f g=>cL g fun g h i j=>cI j fun j k=>aM k fun k l=>aK k fun k=>cI l fun l m=>aA m (cB c fun c m=>aA m (nw [nI 0,nI 0,(.string (bs [])),.slice none 0 0,nI 0,.pointer none,nI 0] fun m=>sC m [nI b,nI d,.string f,.slice g h i,nI j,.pointer k,nI l] (qL 14 [.pointer a] fun b d _=>.join (qI 16 [.pointer a] fun a=>bif ((a==1)&&c)==true then (lI (aadd m 0) fun a=>bif (a==3)==true then (bif ((d:Int)==1)==true then (aF b fun a=>grd (decide (0<(d:Int))) (lI (aadd a 0) fun a=>rn [(.bool (a==3))])) else (rn [.bool false])) else (rn [.bool false])) else (rn [.bool false])) (T9k0)))))
theorem T9_eq:aH aG false 9 []=T9:=by kernel_rfl
noncomputable def T10k0 (A:Int):TK:=
 fun a b=>sw a .normal (aA b (rn [(nI (aT (A+1)))])) (.fail)
noncomputable def T10b0 (A B:Addr):TB:=
 fun a=>cI a fun a b=>aA b (lL (aadd A 0) fun _ b _=>bif (decide (a<(b:Int))) then (.join (lL (aadd A 0) fun b c _=>aF b fun b=>ix a c (lA 7 (aadd b ((Int.toNat a)*7)) fun a=>cI a fun a b=>cI b fun b c=>cS c fun c d=>cS d fun d f=>cL f fun f g h i=>cI i fun i j=>cI j fun j k=>aA k (nw [nI 0,nI 0,(.string (bs [])),(.string (bs [])),.slice none 0 0,nI 0,nI 0] fun k=>sC k [nI a,nI b,.string c,.string d,.slice f g h,nI i,nI j] (.act (ld1 (aadd B 0)) fun a=>aN a fun b c d=>.act (ld1 (aadd k 0)) fun f=>asInt .i64 f fun g=>.act (ld1 (aadd k 1)) fun h=>asInt .i64 h fun i=>.act (ld1 (aadd k 2)) fun j=>jP j fun l=>.act (ld1 (aadd k 3)) fun m=>jP m fun n=>.get fun o=>bL 1 0 [] fun p q r=>.get fun s=>grd (chks [((ld1 (aadd k 3)),m),((ld1 (aadd k 2)),j),((ld1 (aadd k 1)),h),((ld1 (aadd k 0)),f),((ld1 (aadd B 0)),a)] s) (.act (ld1 (aadd k 4)) fun s=>grd (past (ld1 (aadd k 4)) s [o]) (aN s fun s t u=>.get fun v=>.act (apS 1 8 p q r s t u) fun p=>aN p fun p q r=>.get fun s=>grd (chks [((ld1 (aadd k 3)),m),((ld1 (aadd k 2)),j),((ld1 (aadd k 1)),h),((ld1 (aadd k 0)),f),((ld1 (aadd B 0)),a)] s) (.act (ld1 (aadd k 5)) fun f=>grd (past (ld1 (aadd k 5)) f [v,o]) (asInt .i64 f fun f=>.act (ld1 (aadd k 6)) fun h=>grd (past (ld1 (aadd k 6)) h [v,o]) (asInt .i64 h fun h=>bL 7 1 [nI g,nI i,.string l,.string n,.slice p q r,nI f,nI h] fun f g h=>.get fun i=>grd (chks [((ld1 (aadd B 0)),a)] i) (.act (apS 7 88 b c d f g h) fun a=>aN a fun a b c=>sC (aadd B 0) [.slice a b c] (rn []))))))))))) (T10k0 a)) else (re 0 [nI a]))
noncomputable def T10k1 (A:Int):TK:=
 fun a b=>sw a .normal (aA b (rn [(nI (aT (A+1)))])) (.fail)
noncomputable def T10b1 (A:Addr) (B:Int) (C:Addr):TB:=
 fun a=>cI a fun a b=>aA b (lL (aadd A 1) fun b c _=>aF b fun b=>ix B c (lL (aadd (aadd b ((Int.toNat B)*2)) 1) fun _ b _=>bif (decide (a<(b:Int))) then (.join (.act (ld1 (aadd C 1)) fun b=>aN b fun c d f=>.act (ld1 (aadd A 1)) fun g=>aN g fun h i _=>aF h fun h=>ix B i (.act (ld1 (aadd (aadd h ((Int.toNat B)*2)) 1)) fun i=>aN i fun j k _=>aF j fun j=>ix a k (.act (ld1 (aadd (aadd j ((Int.toNat a)*2)) 0)) fun k=>jP k fun l=>.get fun m=>bL 1 0 [] fun n o p=>.get fun q=>grd (chks [((ld1 (aadd (aadd j ((Int.toNat a)*2)) 0)),k),((ld1 (aadd (aadd h ((Int.toNat B)*2)) 1)),i),((ld1 (aadd A 1)),g),((ld1 (aadd C 1)),b)] q) (.act (ld1 (aadd A 1)) fun q=>grd (past (ld1 (aadd A 1)) q [m]) (aN q fun q r _=>aF q fun q=>ix B r (.act (ld1 (aadd (aadd q ((Int.toNat B)*2)) 1)) fun r=>grd (past (ld1 (aadd (aadd q ((Int.toNat B)*2)) 1)) r [m]) (aN r fun q r _=>aF q fun q=>ix a r (.act (ld1 (aadd (aadd q ((Int.toNat a)*2)) 1)) fun r=>grd (past (ld1 (aadd (aadd q ((Int.toNat a)*2)) 1)) r [m]) (aN r fun m q r=>.act (apS 1 16 n o p m q r) fun m=>aN m fun m n o=>.get fun p=>grd (chks [((ld1 (aadd (aadd j ((Int.toNat a)*2)) 0)),k),((ld1 (aadd (aadd h ((Int.toNat B)*2)) 1)),i),((ld1 (aadd A 1)),g),((ld1 (aadd C 1)),b)] p) (bL 2 1 [.string l,.slice m n o] fun a g h=>.get fun i=>grd (chks [((ld1 (aadd C 1)),b)] i) (.act (apS 2 40 c d f a g h) fun a=>aN a fun a b c=>sC (aadd C 1) [.slice a b c] (rn [])))))))))))) (T10k1 a)) else (re 4 [nI a])))
noncomputable def T10k2 (A B:Addr):TK:=
 fun a b=>sw a (.exit 4) (cI b fun _ a=>aA a (lL (aadd A 1) fun a b c=>lA 2 B fun d=>cS d fun d f=>cL f fun f g h i=>aA i (bL 2 1 [.string d,.slice f g h] fun d f g=>.act (apS 2 40 a b c d f g) fun a=>aN a fun a b c=>sC (aadd A 1) [.slice a b c] (rn [])))) (.fail)
noncomputable def T10k3 (A:Int):TK:=
 fun a b=>sw a .normal (aA b (rn [(nI (aT (A+1)))])) (.fail)
noncomputable def T10b2 (A B:Addr):TB:=
 fun a=>cI a fun a b=>aA b (lL (aadd A 1) fun _ b _=>bif (decide (a<(b:Int))) then (.join (lL (aadd A 1) fun b c _=>aF b fun b=>ix a c (lS (aadd (aadd b ((Int.toNat a)*2)) 0) fun b=>nw [(.string (bs [])),.slice none 0 0] fun c=>sC c [.string b,.slice none 0 0] (.loop [nI 0] (T10b1 A a c) (T10k2 B c)))) (T10k3 a)) else (re 2 [nI a]))
noncomputable def T10k4 (A B:Addr) (C:Int):TK:=
 fun a b=>sw a (.exit 2) (cI b fun _ a=>aA a (lA 2 A fun a=>cL a fun a b c d=>cL d fun d f g h=>aA h (sC B [.slice a b c,.slice d f g] (.act (ldN 2 B) fun a=>rr [(.tuple #[a,(.bool (C==0))])])))) (.fail)
noncomputable def T10k5 (A B C:Addr) (D:Int):TK:=
 fun a b=>sw a (.exit 0) (cI b fun _ a=>aA a (.loop [nI 0] (T10b2 A B) (T10k4 B C D))) (.fail)
noncomputable def T10 (A:ByteArray):Pg:=
 nw [.slice none 0 0,.slice none 0 0] fun a=>bif (decide (((A.size:Nat):Int)>1500)) then (sC a [.slice none 0 0,.slice none 0 0] (.act (ldN 2 a) fun a=>rr [(.tuple #[a,.bool false])])) else (qT 29 [.string A] fun b=>aM b fun b c=>asAgg b fun b=>cL b fun b d f g=>cL g fun g h i j=>aA j (cI c fun c j=>cI j fun _ j=>aA j (nw [.slice none 0 0,.slice none 0 0] fun j=>sC j [.slice b d f,.slice g h i] (nw [.slice none 0 0,.slice none 0 0] fun b=>sC b [.slice none 0 0,.slice none 0 0] (.loop [nI 0] (T10b0 j b) (T10k5 j b a c))))))
theorem T10_eq (A:ByteArray):aH aG false 10 [.string A]=T10 A:=by kernel_rfl
noncomputable def T11k0 (A:Int):TK:=
 fun a b=>sw a .ret (cB b fun a b=>aA b (rr [nI A,.bool a])) (sw a .normal (cB b fun a b=>aA b (rn [(nI (aT (A+1))),.bool a])) (.fail))
noncomputable def T11b0 (A:Nat) (B:Option Addr):TB:=
 fun a=>cI a fun a b=>cB b fun b c=>aA c (bif (decide (a<(A:Int))) then (.join (aF B fun c=>ix a A (lI (aadd c ((Int.toNat a)*1)) fun c=>.get fun d=>qI 18 [nI c] fun c=>aF B fun f=>ix a A (.act (ld1 (aadd f ((Int.toNat a)*1))) fun g=>grd (past (ld1 (aadd f ((Int.toNat a)*1))) g [d]) (asInt .i64 g fun a=>bif (c !=a) then (rr [.bool false]) else (rn [.bool b]))))) (T11k0 a)) else (re 0 [nI a,.bool b]))
noncomputable def T11k1 (A:Nat):TK:=
 fun a b=>sw a (.exit 0) (cI b fun _ a=>cB a fun _ a=>aA a (rr [(.bool (decide ((A:Int)≤20)))])) (sw a .ret (cI b fun _ a=>cB a fun a b=>aA b (rr [.bool a])) (.fail))
noncomputable def T11 (A:Option Addr) (B C:Nat):Pg:=
 .loop [nI 0,.bool false] (T11b0 B A) (T11k1 B)
theorem T11_eq (A:Option Addr) (B C:Nat):aH aG false 11 [.slice A B C]=T11 A B C:=by kernel_rfl
noncomputable def T12k0 (A:Addr) (B:Option Addr) (C D:Nat):TK:=
 fun a b=>sw a .normal (cB b fun a b=>aA b (bif a then (rr [(.tuple #[.pointer none,nI 1])]) else (.act (ldN 2 A) fun a=>asAgg a fun b=>cL b fun b c d f=>cL f fun f g h i=>aA i (qL 34 [.slice B C D] fun i j k=>.get fun l=>grd (chks [((ldN 2 A),a)] l) (nw [.slice b c d,.slice f g h,.slice i j k,nI 0,.slice none 0 0,.slice none 0 0,.slice none 0 0,nI 0,nI 0,nI 0,nI 0,.bool false,nI 0,nI 0,(.string (bs [])),.slice none 0 0,nI 0,.pointer none,nI 0,nI 0,.pointer none,.pointer none,.pointer none] fun a=>rr [(.tuple #[(.pointer (some a)),nI 0])]))))) (.fail)
noncomputable def T12 (A:Option Addr) (B C:Nat) (D:Option Addr) (E F:Nat) (G:Option Addr) (H I:Nat):Pg:=
 nw [.slice A B C,.slice D E F] fun a=>.join (lA 2 a fun a=>cL a fun a b c d=>cL d fun d f g h=>aA h (qB 32 [(.agg #[.slice a b c,.slice d f g])] fun a=>bif (!a)==false then (bif (decide ((H:Int)>200))==false then (qB 33 [.slice G H I,(.func (.func 30) #[] #[])] fun a=>rn [.bool a]) else (rn [.bool true])) else (rn [.bool true]))) (T12k0 a G H I)
theorem T12_eq (A:Option Addr) (B C:Nat) (D:Option Addr) (E F:Nat) (G:Option Addr) (H I:Nat):aH aG false 12 [(.agg #[.slice A B C,.slice D E F]),.slice G H I]=T12 A B C D E F G H I:=by kernel_rfl
noncomputable def T13k0:TK:=
 fun a b=>sw a .normal (cI b fun a b=>aA b (rn [nI a])) (.fail)
noncomputable def T13k1 (A:Int):TK:=
 fun a b=>sw a .normal (cB b fun a b=>aA b (bif a then (.join (rn [(nI (aT (A+1)))]) (T13k0)) else (re 0 [nI A]))) (.fail)
noncomputable def T13b0 (A:Int) (B:Option Addr):TB:=
 fun a=>cI a fun a b=>aA b (.join (bif (decide (a<A))==true then (qB 27 [.pointer B] fun a=>rn [.bool a]) else (rn [.bool false])) (T13k1 a))
noncomputable def T13k2:TK:=
 fun a b=>sw a (.exit 0) (cI b fun a b=>aA b (rr [nI a])) (.fail)
noncomputable def T13 (A:Option Addr) (B:Int):Pg:=
 .loop [nI 0] (T13b0 B A) (T13k2)
theorem T13_eq (A:Option Addr) (B:Int):aH aG false 13 [(.pointer A),(.int .i64 B)]=T13 A B:=by kernel_rfl
noncomputable def T14 (A:Option Addr):Pg:=
 aF A fun a=>lL (aadd a 4) fun a b c=>qL 34 [.slice a b c] fun a b c=>rr [.slice a b c]
theorem T14_eq (A:Option Addr):aH aG false 14 [(.pointer A)]=T14 A:=by kernel_rfl
noncomputable def T16 (A:Option Addr):Pg:=
 aF A fun a=>lI (aadd a 9) fun a=>rr [nI a]
theorem T16_eq (A:Option Addr):aH aG false 16 [(.pointer A)]=T16 A:=by kernel_rfl
noncomputable def T18 (A:Int):Pg:=
 rr [(nI (shrI .i64 (shlI .i64 A 1) 1))]
theorem T18_eq (A:Int):aH aG false 18 [(.int .i64 A)]=T18 A:=by kernel_rfl
noncomputable def T19 (A:Int):Pg:=
 bL 1 2 [(.int .u8 (wu8 (48+(wu8 (aT (Int.tdiv A 10)))))),(.int .u8 (wu8 (48+(wu8 (Int.tmod A 10)))))] fun a b c=>.act (cH (.slice a b c)) fun a=>jP a fun a=>rr [.string a]
theorem T19_eq (A:Int):aH aG false 19 [(.int .i64 A)]=T19 A:=by kernel_rfl
noncomputable def T20 (A:Option Addr):Pg:=
 aF A fun a=>lI (aadd a 3) fun a=>rr [nI a]
theorem T20_eq (A:Option Addr):aH aG false 20 [(.pointer A)]=T20 A:=by kernel_rfl
noncomputable def T24 (A:Option Addr):Pg:=
 nw [nI 0,nI 0,(.string (bs [])),.slice none 0 0,nI 0,.pointer none,nI 0] fun a=>aF A fun b=>lI (aadd b 9) fun b=>bif (b !=1) then (sC a [nI 0,nI 0,(.string (bs [])),.slice none 0 0,nI 0,.pointer none,nI 0] (.act (ldN 7 a) fun a=>rr [(.tuple #[a,.bool false])])) else (aF A fun b=>lA 7 (aadd b 12) fun b=>cI b fun b c=>cI c fun c d=>cS d fun d f=>cL f fun f g h i=>cI i fun i j=>aM j fun j k=>aK j fun j=>cI k fun k l=>aA l (sC a [nI b,nI c,.string d,.slice f g h,nI i,.pointer j,nI k] (.act (ldN 7 a) fun a=>rr [(.tuple #[a,.bool true])])))
theorem T24_eq (A:Option Addr):aH aG false 24 [(.pointer A)]=T24 A:=by kernel_rfl
noncomputable def T27k0:TK:=
 fun a b=>sw a .normal (aA b (rr [.bool true])) (.fail)
noncomputable def T27k1 (A:Option Addr):TK:=
 fun a b=>sw a .normal (aA b (aF A fun a=>lB (aadd a 11) fun a=>.join (bif a then (aF A fun a=>lA 7 (aadd a 12) fun a=>cI a fun a b=>cI b fun b c=>cS c fun c d=>cL d fun d f g h=>cI h fun h i=>aM i fun i j=>aK i fun i=>cI j fun j k=>aA k (qT 39 [.pointer A,(.agg #[nI a,nI b,.string c,.slice d f g,nI h,.pointer i,nI j])] fun a=>aA a (rn []))) else (qT 40 [.pointer A] fun a=>aA a (rn []))) (T27k0))) (.fail)
noncomputable def T27 (A:Option Addr):Pg:=
 aF A fun a=>lI (aadd a 9) fun a=>bif (a !=0) then (rr [.bool false]) else (aF A fun a=>lI (aadd a 7) fun a=>aF A fun b=>sC (aadd b 7) [(nI (aT (a+1)))] (qB 37 [.pointer A] fun a=>.join (bif a then (aF A fun a=>lI (aadd a 8) fun a=>aF A fun b=>sC (aadd b 8) [(nI (aT (a+1)))] (rn [])) else (rn [])) (T27k1 A)))
theorem T27_eq (A:Option Addr):aH aG false 27 [(.pointer A)]=T27 A:=by kernel_rfl
noncomputable def T28 (A:ByteArray) (B:Option Addr) (C D:Nat):Pg:=
 qT 10 [.string A] fun a=>aM a fun a b=>asAgg a fun a=>cL a fun a c d f=>cL f fun f g h i=>aA i (cB b fun b i=>aA i (nw [.slice none 0 0,.slice none 0 0] fun i=>sC i [.slice a c d,.slice f g h] (bif (!b) then (rr [.pointer none]) else (lA 2 i fun a=>cL a fun a b c d=>cL d fun d f g h=>aA h (qT 12 [(.agg #[.slice a b c,.slice d f g]),.slice B C D] fun a=>aM a fun a b=>aK a fun a=>cI b fun b c=>aA c (bif ((b !=0)||(Option.isNone a)) then (rr [.pointer none]) else (qI 13 [.pointer a,nI 20000] fun _=>rr [.pointer a])))))))
theorem T28_eq (A:ByteArray) (B:Option Addr) (C D:Nat):aH aG false 28 [.string A,.slice B C D]=T28 A B C D:=by kernel_rfl
noncomputable def T29k0 (A B:Addr) (C D:Option Addr) (E F:Nat):TK:=
 fun a b=>sw a .normal (cB b fun a b=>aA b (bif a then (qA 44 [(.pointer (some A))] fun a=>cI a fun _ a=>cS a fun _ a=>cI a fun a b=>cI b fun _ b=>aA b (sC B [.slice none 0 0,.slice none 0 0] (.act (ldN 2 B) fun b=>rr [(.tuple #[b,nI 3,nI a])]))) else (nw [.slice none 0 0,.slice none 0 0,(nI (-1))] fun a=>qI 45 [(.pointer (some a)),.pointer C,nI 1] fun _=>lI (aadd a 2) fun b=>bif (decide (b≥0)) then (.act (ld1 (aadd a 2)) fun b=>asInt .i64 b fun c=>sC B [.slice none 0 0,.slice none 0 0] (.get fun d=>grd (chks [((ld1 (aadd a 2)),b)] d) (.act (ldN 2 B) fun a=>rr [(.tuple #[a,nI 2,nI c])]))) else (sC (aadd (aadd a 0) 1) [.slice D E F] (lA 2 (aadd a 0) fun b=>cL b fun b c d f=>cL f fun f g h i=>aA i (qB 46 [(.agg #[.slice b c d,.slice f g h])] fun b=>bif (!b) then (sC B [.slice none 0 0,.slice none 0 0] (.act (ldN 2 B) fun a=>rr [(.tuple #[a,nI 3,nI 0])])) else (lA 2 (aadd a 0) fun a=>cL a fun a b c d=>cL d fun d f g h=>aA h (sC B [.slice a b c,.slice d f g] (.act (ldN 2 B) fun a=>rr [(.tuple #[a,nI 0,nI 0])]))))))))) (.fail)
noncomputable def T29 (A:ByteArray):Pg:=
 nw [.slice none 0 0,.slice none 0 0] fun a=>qT 41 [.string A] fun b=>cL b fun b c d f=>cI f fun f g=>cI g fun g h=>aA h (bif (f !=0) then (sC a [.slice none 0 0,.slice none 0 0] (.act (ldN 2 a) fun a=>rr [(.tuple #[a,nI f,nI g])])) else (nw [.slice b c d,nI 0,(nI ((A.size:Nat):Int)),.bool false] fun b=>qL 42 [(.pointer (some b))] fun d f g=>.call 43 [(.pointer (some b))] fun h=>aK h fun h=>.join (lB (aadd b 3) fun a=>bif a==false then (lI (aadd b 1) fun a=>rn [(.bool (decide (a<(c:Int))))]) else (rn [.bool true])) (T29k0 b a h d f g)))
theorem T29_eq (A:ByteArray):aH aG false 29 [.string A]=T29 A:=by kernel_rfl
noncomputable def T30 (A:Int):Pg:=
 qI 31 [nI A] fun a=>rr [(.bool (a !=A))]
theorem T30_eq (A:Int):aH aG false 30 [(.int .i64 A)]=T30 A:=by kernel_rfl
noncomputable def T31 (A:Int):Pg:=
 rr [(nI (shrI .i64 (shlI .i64 A 1) 1))]
theorem T31_eq (A:Int):aH aG false 31 [(.int .i64 A)]=T31 A:=by kernel_rfl
noncomputable def T32k0 (A:Bool):TK:=
 fun a b=>sw a .normal (cB b fun a b=>aA b (bif a then (rr [.bool false]) else (rn [.bool A]))) (.fail)
noncomputable def T32k1 (A:Int):TK:=
 fun a b=>sw a .ret (cB b fun a b=>aA b (rr [nI A,.bool a])) (sw a .normal (cB b fun a b=>aA b (rn [(nI (aT (A+1))),.bool a])) (.fail))
noncomputable def T32b0 (A:Nat) (B:Option Addr) (C:Addr):TB:=
 fun a=>cI a fun a b=>cB b fun b c=>aA c (bif (decide (a<(A:Int))) then (.join (aF B fun c=>ix a A (lA 7 (aadd c ((Int.toNat a)*7)) fun c=>cI c fun c d=>cI d fun d f=>cS f fun f g=>cS g fun g h=>cL h fun h i j k=>cI k fun k l=>cI l fun l m=>aA m (nw [nI 0,nI 0,(.string (bs [])),(.string (bs [])),.slice none 0 0,nI 0,nI 0] fun m=>sC m [nI c,nI d,.string f,.string g,.slice h i j,nI k,nI l] (.join (lI (aadd m 0) fun b=>qB 49 [nI b] fun b=>bif b==true then (lA 2 C fun b=>cL b fun b c d f=>cL f fun f g h i=>aA i (qL 51 [(.agg #[.slice b c d,.slice f g h]),nI a] fun a b c=>qB 50 [.slice a b c] fun a=>rn [.bool a])) else (rn [.bool false])) (T32k0 b))))) (T32k1 a)) else (re 0 [nI a,.bool b]))
noncomputable def T32k2:TK:=
 fun a b=>sw a (.exit 0) (cI b fun _ a=>cB a fun _ a=>aA a (rr [.bool true])) (sw a .ret (cI b fun _ a=>cB a fun a b=>aA b (rr [.bool a])) (.fail))
noncomputable def T32k3 (A:Addr):TK:=
 fun a b=>sw a .normal (cB b fun a b=>aA b (bif a then (rr [.bool false]) else (lL (aadd A 0) fun a b _=>.loop [nI 0,.bool false] (T32b0 b a A) (T32k2)))) (.fail)
noncomputable def T32k4 (A:Addr):TK:=
 fun a b=>sw a .normal (cB b fun a b=>aA b (bif a then (rr [.bool false]) else (lA 2 A fun a=>cL a fun a b c d=>cL d fun d f g h=>aA h (nw [.slice a b c,.slice d f g,nI 0] fun a=>.join (qB 48 [(.pointer (some a)),.bool false,nI 0] fun b=>bif (!b)==false then (lI (aadd a 2) fun a=>lL (aadd A 0) fun _ b _=>rn [(.bool (a !=(b:Int)))]) else (rn [.bool true])) (T32k3 A))))) (.fail)
noncomputable def T32 (A:Option Addr) (B C:Nat) (D:Option Addr) (E F:Nat):Pg:=
 nw [.slice A B C,.slice D E F] fun a=>.join (lL (aadd a 0) fun _ b _=>bif (decide ((b:Int)<1))==false then (lL (aadd a 0) fun _ b _=>bif (decide ((b:Int)>1000))==false then (lL (aadd a 1) fun a b c=>qB 47 [.slice a b c] fun a=>rn [(.bool (!a))]) else (rn [.bool true])) else (rn [.bool true])) (T32k4 a)
theorem T32_eq (A:Option Addr) (B C:Nat) (D:Option Addr) (E F:Nat):aH aG false 32 [(.agg #[.slice A B C,.slice D E F])]=T32 A B C D E F:=by kernel_rfl
noncomputable def T33 (A:Option Addr) (B C:Nat) (D:Value):Pg:=
 qI 52 [.slice A B C,D] fun a=>rr [(.bool (decide (a≥0)))]
theorem T33_eq (A:Option Addr) (B C:Nat) (D:Value):aH aG false 33 [.slice A B C,D]=T33 A B C D:=by kernel_rfl
noncomputable def T34 (A:Option Addr) (B C:Nat):Pg:=
 bif (Option.isNone A) then (rr [.slice none 0 0]) else (bL 1 0 [] fun a b c=>.act (apS 1 8 a b c A B C) fun a=>aN a fun a b c=>rr [.slice a b c])
theorem T34_eq (A:Option Addr) (B C:Nat):aH aG false 34 [.slice A B C]=T34 A B C:=by kernel_rfl
noncomputable def T36 (A:Option Addr) (B C:Nat):Pg:=
 bif (Option.isNone A) then (rr [.slice none 0 0]) else (bL 7 0 [] fun a b c=>.act (apS 7 80 a b c A B C) fun a=>aN a fun a b c=>rr [.slice a b c])
theorem T36_eq (A:Option Addr) (B C:Nat):aH aG false 36 [.slice A B C]=T36 A B C:=by kernel_rfl
noncomputable def T37k0:TK:=
 fun a b=>sw a .normal (cB b fun a b=>aA b (rr [.bool a])) (.fail)
noncomputable def T37 (A:Option Addr):Pg:=
 .join (aF A fun a=>lI (aadd a 9) fun a=>bif (a==0)==true then (aF A fun a=>lB (aadd a 11) fun a=>bif (!a)==true then (aF A fun a=>lL (aadd (aadd a 0) 0) fun a b _=>aF A fun c=>lI (aadd c 19) fun c=>aF a fun a=>ix c b (lI (aadd (aadd a ((Int.toNat c)*7)) 0) fun a=>qB 55 [nI a] fun a=>rn [.bool a])) else (rn [.bool false])) else (rn [.bool false])) (T37k0)
theorem T37_eq (A:Option Addr):aH aG false 37 [(.pointer A)]=T37 A:=by kernel_rfl
noncomputable def T39k0 (A:Addr) (B:Nat) (C D:Option Addr) (E:Nat) (F:Option Addr):TK:=
 fun a b=>sw a .ret (aA b (rr [(.tuple #[])])) (sw a .normal (aA b (lL (aadd A 4) fun _ a _=>bif (decide ((B:Int)<(a:Int))) then (aF C fun a=>lI (aadd a 0) fun a=>aF C fun b=>.act (ld1 (aadd b 1)) fun b=>aK b fun b=>aF C fun c=>.act (ld1 (aadd c 3)) fun c=>aK c fun c=>aF C fun d=>.act (ld1 (aadd d 4)) fun d=>aK d fun d=>nw [nI a,.pointer b,.slice D B E,.pointer c,.pointer d] fun a=>aF F fun b=>sC (aadd b 21) [(.pointer (some a))] (lL (aadd A 4) fun a b _=>aF a fun a=>grd (decide ((B:Int)<(b:Int))) (lI (aadd a (B*1)) fun a=>aF C fun b=>.act (ld1 (aadd b 1)) fun b=>aK b fun b=>qT 57 [.pointer F,nI a,.pointer b] fun a=>aA a (rr [(.tuple #[])])))) else (aF C fun a=>lI (aadd a 0) fun a=>lA 7 A fun b=>cI b fun b c=>cI c fun c d=>cS d fun d f=>cS f fun f g=>cL g fun g h i j=>cI j fun j k=>cI k fun k l=>aA l (qT 60 [.pointer F,nI a,(.agg #[nI b,nI c,.string d,.string f,.slice g h i,nI j,nI k]),.slice D B E] fun a=>aA a (rr [(.tuple #[])]))))) (.fail))
noncomputable def T39 (A:Option Addr) (B C:Int) (D:ByteArray) (E:Option Addr) (F G:Nat) (H:Int) (I:Option Addr) (J:Int):Pg:=
 nw [nI B,nI C,.string D,.slice E F G,nI H,.pointer I,nI J] fun a=>aF A fun b=>.act (ld1 (aadd b 21)) fun b=>aK b fun b=>bif (Option.isNone b) then (.act (ldN 7 a) fun b=>asAgg b fun c=>cI c fun c d=>cI d fun d f=>cS f fun f g=>cL g fun g h i j=>cI j fun j k=>aM k fun k l=>aK k fun k=>cI l fun l m=>aA m (aF A fun m=>sC (aadd m 9) [nI 1] (.get fun m=>grd (chks [((ldN 7 a),b)] m) (aF A fun a=>sC (aadd a 12) [nI c,nI d,.string f,.slice g h i,nI j,.pointer k,nI l] (rr [(.tuple #[])]))))) else (aF b fun c=>.act (ld1 (aadd c 4)) fun c=>aK c fun c=>aF A fun d=>sC (aadd d 21) [.pointer c] (aF b fun c=>lI (aadd c 0) fun c=>bif (decide (c<0)) then (aF b fun b=>.act (ld1 (aadd b 3)) fun b=>aK b fun b=>aF A fun c=>sC (aadd c 22) [.pointer b] (lA 7 a fun a=>cI a fun a b=>cI b fun b c=>cS c fun c d=>cL d fun d f g h=>cI h fun h i=>aM i fun i j=>aK i fun i=>cI j fun j k=>aA k (qT 56 [.pointer A,(.agg #[nI a,nI b,.string c,.slice d f g,nI h,.pointer i,nI j])] fun a=>aA a (rr [(.tuple #[])])))) else (.get fun c=>aF b fun d=>lL (aadd d 2) fun d f g=>.act (ldN 7 a) fun h=>asAgg h fun i=>cI i fun i j=>cI j fun j k=>cS k fun k l=>cL l fun l m n o=>cI o fun o p=>aM p fun p q=>aK p fun p=>cI q fun q r=>aA r (.get fun r=>grd (qv c.n r []) (bL 7 1 [nI i,nI j,.string k,.slice l m n,nI o,.pointer p,nI q] fun c i j=>.get fun k=>qL 36 [.slice d f g] fun d f g=>.get fun l=>grd (chks [((ldN 7 a),h)] l) (.get fun h=>grd (ye [(r.n,(k.get r.n))] h) (.act (apS 7 80 d f g c i j) fun c=>aN c fun c d f=>aF A fun g=>.act (ld1 (aadd (aadd g 0) 0)) fun h=>aN h fun i j _=>aF b fun k=>.act (ld1 (aadd k 0)) fun l=>asInt .i64 l fun m=>aF i fun i=>ix m j (.act (ldN 7 (aadd i ((Int.toNat m)*7))) fun j=>asAgg j fun n=>cI n fun n o=>cI o fun o p=>cS p fun p q=>cS q fun q r=>cL r fun r s t u=>cI u fun u v=>cI v fun v w=>aA w (nw [nI 0,nI 0,(.string (bs [])),(.string (bs [])),.slice none 0 0,nI 0,nI 0] fun w=>.get fun x=>grd (chks [((ldN 7 (aadd i ((Int.toNat m)*7))),j),((ld1 (aadd k 0)),l),((ld1 (aadd (aadd g 0) 0)),h)] x) (sC w [nI n,nI o,.string p,.string q,.slice r s t,nI u,nI v] (lI (aadd w 0) fun g=>.join (bif (g==8) then (.act (ld1 (aadd w 4)) fun c=>aN c fun d f _=>aF d fun d=>grd (decide (1<(f:Int))) (.act (ld1 (aadd d 1)) fun f=>asInt .i64 f fun g=>lS (aadd w 2) fun h=>lA 7 a fun a=>cI a fun a i=>cI i fun i j=>cS j fun j k=>cL k fun k l m n=>cI n fun n o=>aM o fun o p=>aK o fun o=>cI p fun p q=>aA q (aF b fun b=>.act (ld1 (aadd b 1)) fun b=>aK b fun b=>nw [.string h,nI a,nI i,.string j,.slice k l m,nI n,.pointer o,nI p,.pointer b] fun a=>.get fun b=>grd (chks [((ld1 (aadd d 1)),f),((ld1 (aadd w 4)),c)] b) (qT 57 [.pointer A,nI g,(.pointer (some a))] fun a=>aA a (rr []))))) else (bif (g==10) then (lA 7 w fun c=>cI c fun c d=>cI d fun d f=>cS f fun f g=>cS g fun g h=>cL h fun h i j k=>cI k fun k l=>cI l fun l m=>aA m (lA 7 a fun a=>cI a fun a m=>cI m fun m n=>cS n fun n o=>cL o fun o p q r=>cI r fun r s=>aM s fun s t=>aK s fun s=>cI t fun t u=>aA u (qT 58 [.pointer A,(.agg #[nI c,nI d,.string f,.string g,.slice h i j,nI k,nI l]),.pointer b,(.agg #[nI a,nI m,.string n,.slice o p q,nI r,.pointer s,nI t])] fun a=>aA a (rr [])))) else (bif (g==11) then (lA 7 w fun c=>cI c fun c d=>cI d fun d f=>cS f fun f g=>cS g fun g h=>cL h fun h i j k=>cI k fun k l=>cI l fun l m=>aA m (lA 7 a fun a=>cI a fun a m=>cI m fun m n=>cS n fun n o=>cL o fun o p q r=>cI r fun r s=>aM s fun s t=>aK s fun s=>cI t fun t u=>aA u (qT 59 [.pointer A,(.agg #[nI c,nI d,.string f,.string g,.slice h i j,nI k,nI l]),.pointer b,(.agg #[nI a,nI m,.string n,.slice o p q,nI r,.pointer s,nI t])] fun a=>aA a (rr [])))) else (bif (g==12) then (lL (aadd w 4) fun a c _=>aF a fun a=>grd (decide (1<(c:Int))) (lI (aadd a 1) fun a=>aF b fun b=>.act (ld1 (aadd b 1)) fun b=>aK b fun b=>qT 57 [.pointer A,nI a,.pointer b] fun a=>aA a (rr []))) else (bif (g==20) then (lA 7 a fun a=>cI a fun a b=>cI b fun b c=>cS c fun c d=>cL d fun d f g h=>cI h fun h i=>aM i fun i j=>aK i fun i=>cI j fun j k=>aA k (qT 56 [.pointer A,(.agg #[nI a,nI b,.string c,.slice d f g,nI h,.pointer i,nI j])] fun a=>aA a (rr []))) else (rn [])))))) (T39k0 w d b c f A))))))))))))
theorem T39_eq (A:Option Addr) (B C:Int) (D:ByteArray) (E:Option Addr) (F G:Nat) (H:Int) (I:Option Addr) (J:Int):aH aG false 39 [(.pointer A),(.agg #[(.int .i64 B),(.int .i64 C),.string D,.slice E F G,(.int .i64 H),(.pointer I),(.int .i64 J)])]=T39 A B C D E F G H I J:=by kernel_rfl
noncomputable def T40k0:TK:=
 fun a b=>sw a .normal (aA b (rn [])) (sw a .ret (aA b (rr [])) (.fail))
noncomputable def T40k1:TK:=
 fun a b=>sw a .normal (aA b (rn [])) (sw a .ret (aA b (rr [])) (.fail))
noncomputable def T40k2:TK:=
 fun a b=>sw a .normal (aA b (rn [])) (sw a .ret (aA b (rr [])) (.fail))
noncomputable def T40k3:TK:=
 fun a b=>sw a .ret (aA b (rr [])) (sw a .normal (aA b (rn [])) (.fail))
noncomputable def T40k4:TK:=
 fun a b=>sw a .normal (aA b (rn [])) (sw a .ret (aA b (rr [])) (.fail))
noncomputable def T40k5:TK:=
 fun a b=>sw a .normal (aA b (rn [])) (sw a .ret (aA b (rr [])) (.fail))
noncomputable def T40k6:TK:=
 fun a b=>sw a .normal (aA b (rn [])) (sw a .ret (aA b (rr [])) (.fail))
noncomputable def T40k7:TK:=
 fun a b=>sw a .normal (aA b (rr [(.tuple #[])])) (sw a .ret (aA b (rr [(.tuple #[])])) (.fail))
noncomputable def T40 (A:Option Addr):Pg:=
 aF A fun a=>.act (ld1 (aadd (aadd a 0) 0)) fun b=>aN b fun c d _=>aF A fun f=>.act (ld1 (aadd f 19)) fun g=>asInt .i64 g fun h=>aF c fun c=>ix h d (.act (ldN 7 (aadd c ((Int.toNat h)*7))) fun d=>asAgg d fun i=>cI i fun i j=>cI j fun j k=>cS k fun k l=>cS l fun l m=>cL m fun m n o p=>cI p fun p q=>cI q fun q r=>aA r (nw [nI 0,nI 0,(.string (bs [])),(.string (bs [])),.slice none 0 0,nI 0,nI 0] fun r=>.get fun s=>grd (chks [((ldN 7 (aadd c ((Int.toNat h)*7))),d),((ld1 (aadd f 19)),g),((ld1 (aadd (aadd a 0) 0)),b)] s) (sC r [nI i,nI j,.string k,.string l,.slice m n o,nI p,nI q] (lI (aadd r 0) fun a=>.join (.join (bif (a==1) then (lI (aadd r 1) fun a=>qA 61 [nI a] fun a=>cI a fun a b=>cI b fun b c=>cS c fun c d=>cL d fun d f g h=>cI h fun h i=>aM i fun i j=>aK i fun i=>cI j fun j k=>aA k (qT 39 [.pointer A,(.agg #[nI a,nI b,.string c,.slice d f g,nI h,.pointer i,nI j])] fun a=>aA a (rn []))) else (.join (bif (a==2) then (lI (aadd r 1) fun a=>qT 39 [.pointer A,(.agg #[nI 2,nI a,(.string (bs [])),.slice none 0 0,nI 0,.pointer none,nI 0])] fun a=>aA a (rn [])) else (.join (bif (a==3) then (qA 62 [] fun a=>cI a fun a b=>cI b fun b c=>cS c fun c d=>cL d fun d f g h=>cI h fun h i=>aM i fun i j=>aK i fun i=>cI j fun j k=>aA k (qT 39 [.pointer A,(.agg #[nI a,nI b,.string c,.slice d f g,nI h,.pointer i,nI j])] fun a=>aA a (rn []))) else (.join (bif (a==4) then (.get fun a=>aF A fun b=>.act (ld1 (aadd b 20)) fun b=>aK b fun b=>lS (aadd r 2) fun c=>.get fun d=>grd (qv a.n d []) (nw [nI 0,nI 0,(.string (bs [])),.slice none 0 0,nI 0,.pointer none,nI 0] fun a=>.get fun f=>qT 63 [.pointer b,.string c] fun b=>aM b fun b c=>asAgg b fun b=>cI b fun b g=>cI g fun g h=>cS h fun h i=>cL i fun i j k l=>cI l fun l m=>aM m fun m n=>aK m fun m=>cI n fun n o=>aA o (cB c fun c o=>aA o (.get fun o=>grd (ye [(d.n,(f.get d.n))] o) (sC a [nI b,nI g,.string h,.slice i j k,nI l,.pointer m,nI n] (bif (!c) then (qT 64 [.pointer A] fun a=>aA a (rr [])) else (lA 7 a fun a=>cI a fun a b=>cI b fun b c=>cS c fun c d=>cL d fun d f g h=>cI h fun h i=>aM i fun i j=>aK i fun i=>cI j fun j k=>aA k (qT 39 [.pointer A,(.agg #[nI a,nI b,.string c,.slice d f g,nI h,.pointer i,nI j])] fun a=>aA a (rn []))))))))) else (.join (bif (a==6) then (aF A fun a=>lI (aadd a 19) fun a=>aF A fun b=>.act (ld1 (aadd b 20)) fun b=>aK b fun b=>qT 39 [.pointer A,(.agg #[nI 5,nI 0,(.string (bs [])),.slice none 0 0,nI a,.pointer b,nI 0])] fun a=>aA a (rn [])) else (.join (bif (a==9) then (aF A fun a=>.act (ld1 (aadd a 19)) fun b=>asInt .i64 b fun c=>aF A fun d=>.act (ld1 (aadd d 20)) fun f=>aK f fun g=>nw [nI 0,nI 0,(.string (bs [])),.slice none 0 0,nI 0,.pointer none,nI 0] fun h=>.get fun i=>grd (chks [((ld1 (aadd d 20)),f),((ld1 (aadd a 19)),b)] i) (sC h [nI 5,nI 0,(.string (bs [])),.slice none 0 0,nI c,.pointer g,nI 0] (.act (ld1 (aadd r 4)) fun a=>aN a fun b c _=>aF b fun b=>grd (decide (1<(c:Int))) (.act (ld1 (aadd b 1)) fun c=>asInt .i64 c fun d=>lS (aadd r 2) fun f=>lA 7 h fun g=>cI g fun g h=>cI h fun h i=>cS i fun i j=>cL j fun j k l m=>cI m fun m n=>aM n fun n o=>aK n fun n=>cI o fun o p=>aA p (aF A fun p=>.act (ld1 (aadd p 20)) fun p=>aK p fun p=>nw [.string f,nI g,nI h,.string i,.slice j k l,nI m,.pointer n,nI o,.pointer p] fun f=>.get fun g=>grd (chks [((ld1 (aadd b 1)),c),((ld1 (aadd r 4)),a)] g) (qT 57 [.pointer A,nI d,(.pointer (some f))] fun a=>aA a (rn []))))))) else (.join (bif (a==18) then (qT 65 [.pointer A] fun a=>aA a (rn [])) else (lL (aadd r 4) fun _ a _=>bif ((a:Int)==0) then (lS (aadd r 2) fun a=>qT 39 [.pointer A,(.agg #[nI 4,nI 0,.string a,.slice none 0 0,nI 0,.pointer none,nI 0])] fun a=>aA a (rr [])) else (aF A fun a=>lI (aadd a 19) fun a=>aF A fun b=>.act (ld1 (aadd b 20)) fun b=>aK b fun b=>aF A fun c=>.act (ld1 (aadd c 22)) fun c=>aK c fun c=>aF A fun d=>.act (ld1 (aadd d 21)) fun d=>aK d fun d=>nw [nI a,.pointer b,.slice none 0 0,.pointer c,.pointer d] fun a=>aF A fun b=>sC (aadd b 21) [(.pointer (some a))] (lL (aadd r 4) fun a b _=>aF a fun a=>grd (decide (0<(b:Int))) (lI (aadd a 0) fun a=>aF A fun b=>.act (ld1 (aadd b 20)) fun b=>aK b fun b=>qT 57 [.pointer A,nI a,.pointer b] fun a=>aA a (rn [])))))) (T40k0))) (T40k1))) (T40k2))) (T40k3))) (T40k4))) (T40k5))) (T40k6)) (T40k7)))))
theorem T40_eq (A:Option Addr):aH aG false 40 [(.pointer A)]=T40 A:=by kernel_rfl
noncomputable def T41k0 (A:ByteArray) (B:Int) (C:Option Addr) (D E:Nat) (F G:Int) (H:Option Addr) (I J:Nat):TK:=
 fun a b=>sw a .normal (cB b fun a b=>aA b (bif a then (qI 68 [.string A,nI B] fun a=>bif (decide (a<0)) then (rr [.slice C D E,nI B,nI 3,.slice none 0 0,nI B]) else (rn [.slice C D E,nI F,nI G,.slice H I J,nI a])) else (qT 69 [.string A,nI B] fun a=>aM a fun a b=>asAgg a fun a=>cI a fun a c=>cS c fun c d=>cI d fun d f=>cI f fun f g=>aA g (cB b fun b g=>aA g (nw [nI 0,(.string (bs [])),nI 0,nI 0] fun g=>sC g [nI a,.string c,nI d,nI f] (bif (!b) then (rr [.slice C D E,nI B,nI 3,.slice none 0 0,nI B]) else (bif ((D:Int)==2000) then (rr [.slice C D E,nI B,nI 2,.slice none 0 0,nI B]) else (lA 4 g fun a=>cI a fun a b=>cS b fun b c=>cI c fun c d=>cI d fun d f=>aA f (bL 4 1 [nI a,.string b,nI c,nI d] fun a b c=>.act (apS 4 40 C D E a b c) fun a=>aN a fun a b c=>lI (aadd g 3) fun d=>rn [.slice a b c,nI F,nI G,.slice H I J,nI d]))))))))) (.fail)
noncomputable def T41k1:TK:=
 fun a b=>sw a .ret (cL b fun a b c d=>cI d fun d f=>cI f fun f g=>cL g fun g h i j=>cI j fun j k=>aA k (rr [.slice a b c,nI d,nI f,.slice g h i,nI j])) (sw a .normal (cL b fun a b c d=>cI d fun d f=>cI f fun f g=>cL g fun g h i j=>cI j fun j k=>aA k (rn [.slice a b c,nI d,nI f,.slice g h i,nI j])) (.fail))
noncomputable def T41b0 (A:ByteArray):TB:=
 fun a=>cL a fun a b c d=>cI d fun d f=>cI f fun f g=>cL g fun g h i j=>cI j fun j k=>aA k (bif (decide (j<((A.size:Nat):Int))) then (.join (grd (((decide (0≤j))&&(decide (j≤((A.size:Nat):Int))))&&(decide (((A.size:Nat):Int)≤((A.size:Nat):Int)))) (qT 66 [(.string (A.extract (Int.toNat j) A.size))] fun k=>aM k fun k l=>asInt .i32 k fun k=>cI l fun l m=>aA m (qI 67 [.int .i32 k] fun m=>bif (m==3) then (rn [.slice a b c,nI d,nI f,.slice g h i,(nI (aT (j+l)))]) else (.join (bif (k==40)==true then (bif (decide ((aT (j+1))<((A.size:Nat):Int)))==true then (grd ((decide (0≤(aT (j+1))))&&(decide ((aT (j+1))<((A.size:Nat):Int)))) (rn [(.bool ((cM A (Int.toNat (aT (j+1))))==42))])) else (rn [.bool false])) else (rn [.bool false])) (T41k0 A j a b c d f g h i))))) (T41k1)) else (re 0 [.slice a b c,nI d,nI f,.slice g h i,nI j]))
noncomputable def T41k2:TK:=
 fun a b=>sw a (.exit 0) (cL b fun a b c d=>cI d fun _ d=>cI d fun _ d=>cL d fun _ _ _ d=>cI d fun _ d=>aA d (rr [(.tuple #[.slice a b c,nI 0,nI 0])])) (sw a .ret (cL b fun _ _ _ a=>cI a fun a b=>cI b fun b c=>cL c fun c d f g=>cI g fun _ g=>aA g (rr [(.tuple #[.slice c d f,nI b,nI a])])) (.fail))
noncomputable def T41 (A:ByteArray):Pg:=
 bif (decide (((A.size:Nat):Int)>4000)) then (rr [(.tuple #[.slice none 0 0,nI 2,nI 0])]) else (.loop [.slice none 0 0,nI 0,nI 0,.slice none 0 0,nI 0] (T41b0 A) (T41k2))
theorem T41_eq (A:ByteArray):aH aG false 41 [.string A]=T41 A:=by kernel_rfl
noncomputable def T42k0:TK:=
 fun a b=>sw a .normal (aA b (rn [])) (.fail)
noncomputable def T42b0 (A:Option Addr) (B:Addr):TB:=
 fun a=>aA a (qB 70 [.pointer A,(.string (bs [44]))] fun a=>bif a then (.join (.act (ld1 (aadd B 1)) fun a=>aN a fun b c d=>qS 71 [.pointer A,nI 2] fun f=>.get fun g=>grd (chks [((ld1 (aadd B 1)),a)] g) (bL 1 1 [.string f] fun f g h=>.get fun i=>grd (chks [((ld1 (aadd B 1)),a)] i) (.act (apS 1 16 b c d f g h) fun a=>aN a fun a b c=>sC (aadd B 1) [.slice a b c] (rn [])))) (T42k0)) else (re 4 []))
noncomputable def T42k1:TK:=
 fun a b=>sw a (.exit 4) (aA b (rn [])) (.fail)
noncomputable def T42k2 (A B:Addr):TK:=
 fun a b=>sw a .normal (aA b (lL (aadd A 1) fun a b c=>lA 2 B fun d=>cS d fun d f=>cL f fun f g h i=>aA i (bL 2 1 [.string d,.slice f g h] fun d f g=>.act (apS 2 40 a b c d f g) fun a=>aN a fun a b c=>sC (aadd A 1) [.slice a b c] (rn [])))) (.fail)
noncomputable def T42k3 (A:Option Addr):TK:=
 fun a b=>sw a .normal (aA b (qB 70 [.pointer A,(.string (bs [124]))] fun a=>rn [.bool a])) (.fail)
noncomputable def T42k4 (A:Option Addr) (B:Addr) (C:Bool):TK:=
 fun a b=>sw a .normal (cB b fun a b=>aA b (bif a then (.join (qS 71 [.pointer A,nI 3] fun a=>nw [(.string (bs [])),.slice none 0 0] fun b=>sC b [.string a,.slice none 0 0] (qB 70 [.pointer A,(.string (bs [111,102]))] fun a=>.join (bif a then (.act (ld1 (aadd b 1)) fun a=>aN a fun c d f=>qS 71 [.pointer A,nI 2] fun g=>.get fun h=>grd (chks [((ld1 (aadd b 1)),a)] h) (bL 1 1 [.string g] fun g h i=>.get fun j=>grd (chks [((ld1 (aadd b 1)),a)] j) (.act (apS 1 16 c d f g h i) fun a=>aN a fun a c d=>sC (aadd b 1) [.slice a c d] (.loop [] (T42b0 A b) (T42k1))))) else (rn [])) (T42k2 B b))) (T42k3 A)) else (re 2 [.bool C]))) (.fail)
noncomputable def T42b1 (A:Option Addr) (B:Addr):TB:=
 fun a=>cB a fun a b=>aA b (.join (bif a==true then (aF A fun a=>lB (aadd a 3) fun a=>rn [(.bool (!a))]) else (rn [.bool false])) (T42k4 A B a))
noncomputable def T42k5 (A:Option Addr) (B:Addr) (C:Option Addr) (D E:Nat):TK:=
 fun a b=>sw a (.exit 2) (cB b fun _ a=>aA a (qT 72 [.pointer A,(.string (bs [105,110]))] fun a=>aA a (lA 2 B fun a=>cS a fun a b=>cL b fun b c d f=>aA f (bL 2 1 [.string a,.slice b c d] fun a b c=>.act (apS 2 40 C D E a b c) fun a=>aN a fun a b c=>rn [.slice a b c])))) (.fail)
noncomputable def T42k6:TK:=
 fun a b=>sw a .normal (cL b fun a b c d=>aA d (rn [.slice a b c])) (.fail)
noncomputable def T42b2 (A:Option Addr):TB:=
 fun a=>cL a fun a b c d=>aA d (qB 70 [.pointer A,(.string (bs [116,121,112,101]))] fun d=>bif d then (.join (qS 71 [.pointer A,nI 2] fun d=>nw [(.string (bs [])),.slice none 0 0] fun f=>sC f [.string d,.slice none 0 0] (qT 72 [.pointer A,(.string (bs [61]))] fun d=>aA d (.loop [.bool true] (T42b1 A f) (T42k5 A f a b c)))) (T42k6)) else (re 0 [.slice a b c]))
noncomputable def T42k7:TK:=
 fun a b=>sw a (.exit 0) (cL b fun a b c d=>aA d (rr [.slice a b c])) (.fail)
noncomputable def T42 (A:Option Addr):Pg:=
 .loop [.slice none 0 0] (T42b2 A) (T42k7)
theorem T42_eq (A:Option Addr):aH aG false 42 [(.pointer A)]=T42 A:=by kernel_rfl
noncomputable def T43 (A:Option Addr):Pg:=
 .call 73 [.pointer A] fun a=>aK a fun a=>qB 70 [.pointer A,(.string (bs [59]))] fun b=>bif b then (.call 43 [.pointer A] fun b=>aK b fun b=>.call 74 [nI 12,(.string (bs [])),.pointer a,.pointer b] fun a=>aK a fun a=>rr [.pointer a]) else (rr [.pointer a])
theorem T43_eq (A:Option Addr):aH aG false 43 [(.pointer A)]=T43 A:=by kernel_rfl
noncomputable def T44 (A:Option Addr):Pg:=
 nw [nI 0,(.string (bs [])),nI 0,nI 0] fun a=>aF A fun b=>lI (aadd b 1) fun b=>aF A fun c=>lL (aadd c 0) fun _ c _=>bif (decide (b<(c:Int))) then (aF A fun b=>lL (aadd b 0) fun b c _=>aF A fun d=>lI (aadd d 1) fun d=>aF b fun b=>ix d c (lA 4 (aadd b ((Int.toNat d)*4)) fun b=>cI b fun b c=>cS c fun c d=>cI d fun d f=>cI f fun f g=>aA g (sC a [nI b,.string c,nI d,nI f] (.act (ldN 4 a) fun a=>rr [a])))) else (aF A fun b=>lI (aadd b 2) fun b=>aF A fun c=>lI (aadd c 2) fun c=>sC a [nI 0,(.string (bs [])),nI b,nI c] (.act (ldN 4 a) fun a=>rr [a]))
theorem T44_eq (A:Option Addr):aH aG false 44 [(.pointer A)]=T44 A:=by kernel_rfl
noncomputable def T45k0 (A:Int):TK:=
 fun a b=>sw a .normal (cL b fun a b c d=>aA d (rn [(nI (aT (A+1))),.slice a b c])) (.fail)
noncomputable def T45b0 (A B:Option Addr) (C:Int):TB:=
 fun a=>cI a fun a b=>cL b fun b c d f=>aA f (aF A fun f=>lL (aadd f 7) fun _ f _=>bif (decide (a<(f:Int))) then (.join (aF A fun f=>lL (aadd f 7) fun f g _=>aF f fun f=>ix a g (.act (ld1 (aadd f ((Int.toNat a)*1))) fun a=>aK a fun a=>qI 45 [.pointer B,.pointer a,(nI (aT (C+1)))] fun a=>bL 1 1 [nI a] fun a f g=>.act (apS 1 8 b c d a f g) fun a=>aN a fun a b c=>rn [.slice a b c])) (T45k0 a)) else (re 0 [nI a,.slice b c d]))
noncomputable def T45k1 (A:Option Addr) (B:Nat):TK:=
 fun a b=>sw a (.exit 0) (cI b fun _ a=>cL a fun a b c d=>aA d (aF A fun d=>lL (aadd (aadd d 0) 0) fun d f _=>aF d fun d=>grd (decide ((B:Int)<(f:Int))) (sC (aadd (aadd d (B*7)) 4) [.slice a b c] (rr [(nI (B:Int))])))) (.fail)
noncomputable def T45k2 (A B:Option Addr) (C:Int) (D:Nat):TK:=
 fun a b=>sw a .normal (aA b (aF A fun a=>.act (ld1 (aadd (aadd a 0) 0)) fun b=>aN b fun c d f=>aF B fun g=>lA 7 (aadd g 0) fun g=>cI g fun g h=>cI h fun h i=>cS i fun i j=>cS j fun j k=>cL k fun k l m n=>cI n fun n o=>cI o fun o p=>aA p (bL 7 1 [nI g,nI h,.string i,.string j,.slice k l m,nI n,nI o] fun g h i=>.get fun j=>grd (chks [((ld1 (aadd (aadd a 0) 0)),b)] j) (.act (apS 7 88 c d f g h i) fun a=>aN a fun a b c=>aF A fun d=>sC (aadd (aadd d 0) 0) [.slice a b c] (.loop [nI 0,.slice none 0 0] (T45b0 B A C) (T45k1 A D)))))) (.fail)
noncomputable def T45 (A B:Option Addr) (C:Int):Pg:=
 aF A fun a=>lL (aadd (aadd a 0) 0) fun _ a _=>aF A fun b=>lI (aadd b 2) fun b=>.join (bif ((decide (b<0))&&((decide ((a:Int)≥1000))||(decide (C>60)))) then (aF B fun a=>lI (aadd (aadd a 0) 5) fun a=>aF A fun b=>sC (aadd b 2) [nI a] (rn [])) else (rn [])) (T45k2 A B C a)
theorem T45_eq (A B:Option Addr) (C:Int):aH aG false 45 [(.pointer A),(.pointer B),(.int .i64 C)]=T45 A B C:=by kernel_rfl
noncomputable def T46k0:TK:=
 fun a b=>sw a .normal (cB b fun a b=>aA b (rr [.bool a])) (.fail)
noncomputable def T46 (A:Option Addr) (B C:Nat) (D:Option Addr) (E F:Nat):Pg:=
 nw [.slice A B C,.slice D E F] fun a=>.join (lL (aadd a 0) fun _ b _=>bif (decide ((b:Int)≥1))==true then (lL (aadd a 0) fun _ b _=>bif (decide ((b:Int)≤1000))==true then (lA 2 a fun b=>cL b fun b c d f=>cL f fun f g h i=>aA i (qB 75 [(.agg #[.slice b c d,.slice f g h])] fun b=>bif b==true then (lA 2 a fun b=>cL b fun b c d f=>cL f fun f g h i=>aA i (.get fun i=>qI 76 [(.agg #[.slice b c d,.slice f g h]),nI 0,.bool false,nI 1] fun b=>.act (ld1 (aadd a 0)) fun c=>grd (past (ld1 (aadd a 0)) c [i]) (aN c fun _ a _=>rn [(.bool (b==(a:Int)))]))) else (rn [.bool false]))) else (rn [.bool false])) else (rn [.bool false])) (T46k0)
theorem T46_eq (A:Option Addr) (B C:Nat) (D:Option Addr) (E F:Nat):aH aG false 46 [(.agg #[.slice A B C,.slice D E F])]=T46 A B C D E F:=by kernel_rfl
noncomputable def T47k0 (A:Option Addr) (B C:Nat) (D:Option Addr) (E F:Nat) (G:Addr) (H:Bool):TK:=
 fun a b=>sw a .normal (cB b fun a b=>aA b (bif a then (rr [.slice A B C,.slice D E F,.bool false]) else (lS (aadd G 0) fun a=>bL 1 1 [.string a] fun a b c=>.act (apS 1 16 D E F a b c) fun a=>aN a fun a b c=>lL (aadd G 1) fun d f g=>.act (apS 1 16 A B C d f g) fun d=>aN d fun d f g=>rn [.slice d f g,.slice a b c,.bool H]))) (.fail)
noncomputable def T47k1 (A:Int):TK:=
 fun a b=>sw a .ret (cL b fun a b c d=>cL d fun d f g h=>cB h fun h i=>aA i (rr [nI A,.slice a b c,.slice d f g,.bool h])) (sw a .normal (cL b fun a b c d=>cL d fun d f g h=>cB h fun h i=>aA i (rn [(nI (aT (A+1))),.slice a b c,.slice d f g,.bool h])) (.fail))
noncomputable def T47b0 (A:Nat) (B:Option Addr):TB:=
 fun a=>cI a fun a b=>cL b fun b c d f=>cL f fun f g h i=>cB i fun i j=>aA j (bif (decide (a<(A:Int))) then (.join (aF B fun j=>ix a A (lA 2 (aadd j ((Int.toNat a)*2)) fun a=>cS a fun a j=>cL j fun j k l m=>aA m (nw [(.string (bs [])),.slice none 0 0] fun m=>sC m [.string a,.slice j k l] (.join (lS (aadd m 0) fun a=>qB 79 [.string a] fun a=>bif (!a)==false then (lL (aadd m 1) fun _ a _=>rn [(.bool (decide ((a:Int)>3)))]) else (rn [.bool true])) (T47k0 b c d f g h m i))))) (T47k1 a)) else (re 2 [nI a,.slice b c d,.slice f g h,.bool i]))
noncomputable def T47k2:TK:=
 fun a b=>sw a (.exit 2) (cI b fun _ a=>cL a fun a b c d=>cL d fun d f g h=>cB h fun h i=>aA i (rn [.slice a b c,.slice d f g,.bool h])) (sw a .ret (cI b fun _ a=>cL a fun a b c d=>cL d fun d f g h=>cB h fun h i=>aA i (rr [.slice a b c,.slice d f g,.bool h])) (.fail))
noncomputable def T47k3 (A:Option Addr) (B C:Nat) (D:Option Addr) (E F:Nat) (G H:Addr) (I:Bool):TK:=
 fun a b=>sw a .normal (cB b fun a b=>aA b (bif a then (rr [.slice A B C,.slice D E F,.bool false]) else (lL G fun a b c=>lS (aadd H 0) fun d=>bL 1 1 [.string d] fun d f g=>.act (apS 1 16 a b c d f g) fun a=>aN a fun a b c=>sC G [.slice a b c] (lL (aadd H 1) fun a b _=>.loop [nI 0,.slice A B C,.slice D E F,.bool I] (T47b0 b a) (T47k2))))) (.fail)
noncomputable def T47k4 (A:Int):TK:=
 fun a b=>sw a .ret (cL b fun a b c d=>cL d fun d f g h=>cB h fun h i=>aA i (rr [nI A,.slice a b c,.slice d f g,.bool h])) (sw a .normal (cL b fun a b c d=>cL d fun d f g h=>cB h fun h i=>aA i (rn [(nI (aT (A+1))),.slice a b c,.slice d f g,.bool h])) (.fail))
noncomputable def T47b1 (A:Nat) (B:Option Addr) (C:Addr):TB:=
 fun a=>cI a fun a b=>cL b fun b c d f=>cL f fun f g h i=>cB i fun i j=>aA j (bif (decide (a<(A:Int))) then (.join (aF B fun j=>ix a A (lA 2 (aadd j ((Int.toNat a)*2)) fun a=>cS a fun a j=>cL j fun j k l m=>aA m (nw [(.string (bs [])),.slice none 0 0] fun m=>sC m [.string a,.slice j k l] (.join (lS (aadd m 0) fun a=>qB 77 [.string a] fun a=>bif (!a)==false then (lS (aadd m 0) fun a=>qB 78 [.string a] fun a=>bif a==false then (lL (aadd m 1) fun _ a _=>bif (decide ((a:Int)<1))==false then (lL (aadd m 1) fun _ a _=>rn [(.bool (decide ((a:Int)>20)))]) else (rn [.bool true])) else (rn [.bool true])) else (rn [.bool true])) (T47k3 b c d f g h C m i))))) (T47k4 a)) else (re 0 [nI a,.slice b c d,.slice f g h,.bool i]))
noncomputable def T47k5:TK:=
 fun a b=>sw a .normal (cB b fun a b=>aA b (rr [.bool a])) (.fail)
noncomputable def T47k6 (A:Addr) (B:Nat):TK:=
 fun a b=>sw a (.exit 0) (cI b fun _ a=>cL a fun a b c d=>cL d fun d f g h=>cB h fun _ h=>aA h (nw [.nilFunc] fun h=>sC h [(.func (.func 80) #[] #[(.pointer (some A))])] (.join (bif (decide ((B:Int)≤20))==true then (lL A fun i j k=>qB 50 [.slice i j k] fun i=>bif (!i)==true then (qB 50 [.slice d f g] fun d=>bif (!d)==true then (qB 83 [.slice a b c,(.func (.func 82) #[] #[(.pointer (some h))])] fun a=>rn [(.bool (!a))]) else (rn [.bool false])) else (rn [.bool false])) else (rn [.bool false])) (T47k5)))) (sw a .ret (cI b fun _ a=>cL a fun _ _ _ a=>cL a fun _ _ _ a=>cB a fun a b=>aA b (rr [.bool a])) (.fail))
noncomputable def T47 (A:Option Addr) (B C:Nat):Pg:=
 nw [.slice none 0 0] fun a=>.loop [nI 0,.slice none 0 0,.slice none 0 0,.bool false] (T47b1 B A a) (T47k6 a B)
theorem T47_eq (A:Option Addr) (B C:Nat):aH aG false 47 [.slice A B C]=T47 A B C:=by kernel_rfl
noncomputable def T48k0 (A:Bool):TK:=
 fun a b=>sw a .normal (cB b fun a b=>aA b (bif a then (rr [.bool false]) else (rn [.bool A]))) (.fail)
noncomputable def T48k1 (A:Int):TK:=
 fun a b=>sw a .ret (cB b fun a b=>aA b (rr [nI A,.bool a])) (sw a .normal (cB b fun a b=>aA b (rn [(nI (aT (A+1))),.bool a])) (.fail))
noncomputable def T48b0 (A:Nat) (B C:Option Addr) (D:Bool) (E:Addr) (F:Int):TB:=
 fun a=>cI a fun a b=>cB b fun b c=>aA c (bif (decide (a<(A:Int))) then (.join (aF B fun c=>ix a A (lI (aadd c ((Int.toNat a)*1)) fun c=>.join (aF C fun b=>lI (aadd b 2) fun b=>bif (c !=b)==false then (bif D==false then (lI (aadd E 0) fun b=>bif (b==11)==true then (qB 85 [nI a] fun a=>qB 48 [.pointer C,.bool a,(nI (aT (F+1)))] fun a=>rn [(.bool (!a))]) else (qB 48 [.pointer C,.bool false,(nI (aT (F+1)))] fun a=>rn [(.bool (!a))])) else (qB 48 [.pointer C,.bool true,(nI (aT (F+1)))] fun a=>rn [(.bool (!a))])) else (rn [.bool true])) (T48k0 b))) (T48k1 a)) else (re 0 [nI a,.bool b]))
noncomputable def T48k2:TK:=
 fun a b=>sw a (.exit 0) (cI b fun _ a=>cB a fun _ a=>aA a (rr [.bool true])) (sw a .ret (cI b fun _ a=>cB a fun a b=>aA b (rr [.bool a])) (.fail))
noncomputable def T48k3 (A:Option Addr) (B:Addr) (C:Bool) (D:Int):TK:=
 fun a b=>sw a .normal (cB b fun a b=>aA b (bif a then (rr [.bool false]) else (aF A fun a=>lI (aadd a 2) fun a=>aF A fun b=>sC (aadd b 2) [(nI (aT (a+1)))] (lL (aadd B 4) fun a b _=>.loop [nI 0,.bool false] (T48b0 b a A C B D) (T48k2))))) (.fail)
noncomputable def T48 (A:Option Addr) (B:Bool) (C:Int):Pg:=
 aF A fun a=>lI (aadd a 2) fun a=>aF A fun b=>lL (aadd (aadd b 0) 0) fun _ b _=>bif ((decide (a≥(b:Int)))||(decide (C≥60))) then (rr [.bool false]) else (aF A fun b=>lL (aadd (aadd b 0) 0) fun b c _=>aF b fun b=>ix a c (lA 7 (aadd b ((Int.toNat a)*7)) fun a=>cI a fun a b=>cI b fun b c=>cS c fun c d=>cS d fun d f=>cL f fun f g h i=>cI i fun i j=>cI j fun j k=>aA k (nw [nI 0,nI 0,(.string (bs [])),(.string (bs [])),.slice none 0 0,nI 0,nI 0] fun k=>sC k [nI a,nI b,.string c,.string d,.slice f g h,nI i,nI j] (.join (lI (aadd k 0) fun a=>qB 49 [nI a] fun a=>bif (!(a==B))==false then (aF A fun a=>lA 2 (aadd a 0) fun a=>cL a fun a b c d=>cL d fun d f g h=>aA h (lA 7 k fun h=>cI h fun h i=>cI i fun i j=>cS j fun j k=>cS k fun k l=>cL l fun l m n o=>cI o fun o p=>cI p fun p q=>aA q (qB 84 [(.agg #[.slice a b c,.slice d f g]),(.agg #[nI h,nI i,.string j,.string k,.slice l m n,nI o,nI p])] fun a=>rn [(.bool (!a))]))) else (rn [.bool true])) (T48k3 A k B C)))))
theorem T48_eq (A:Option Addr) (B:Bool) (C:Int):aH aG false 48 [(.pointer A),.bool B,(.int .i64 C)]=T48 A B C:=by kernel_rfl
noncomputable def T49 (A:Int):Pg:=
 rr [(.bool ((decide (A≥21))&&(decide (A≤26))))]
theorem T49_eq (A:Int):aH aG false 49 [(.int .i64 A)]=T49 A:=by kernel_rfl
noncomputable def T50k0 (A:Int):TK:=
 fun a b=>sw a .ret (cB b fun a b=>aA b (rr [nI A,.bool a])) (sw a .normal (cB b fun a b=>aA b (rn [(nI (aT (A+1))),.bool a])) (.fail))
noncomputable def T50b0 (A:Nat) (B:Option Addr) (C:Option Nat):TB:=
 fun a=>cI a fun a b=>cB b fun b c=>aA c (bif (decide (a<(A:Int))) then (.join (aF B fun c=>ix a A (lS (aadd c ((Int.toNat a)*1)) fun a=>.act (lkp .string (.bool false) C (.string a) false) fun c=>eR c fun c=>bif c then (rr [.bool true]) else (.act (mup .string C (.string a) (.bool true)) fun a=>cE a fun a=>aA a (rn [.bool b])))) (T50k0 a)) else (re 0 [nI a,.bool b]))
noncomputable def T50k1:TK:=
 fun a b=>sw a (.exit 0) (cI b fun _ a=>cB a fun _ a=>aA a (rr [.bool false])) (sw a .ret (cI b fun _ a=>cB a fun a b=>aA b (rr [.bool a])) (.fail))
noncomputable def T50 (A:Option Addr) (B C:Nat):Pg:=
 .act eU fun a=>vi a fun a=>.loop [nI 0,.bool false] (T50b0 B A a) (T50k1)
theorem T50_eq (A:Option Addr) (B C:Nat):aH aG false 50 [.slice A B C]=T50 A B C:=by kernel_rfl
noncomputable def T51k0 (A:Int):TK:=
 fun a b=>sw a .normal (cL b fun a b c d=>aA d (rn [(nI (aT (A+1))),.slice a b c])) (.fail)
noncomputable def T51b0 (A:Nat) (B:Option Addr) (C:Addr):TB:=
 fun a=>cI a fun a b=>cL b fun b c d f=>aA f (bif (decide (a<(A:Int))) then (.join (aF B fun f=>ix a A (lI (aadd f ((Int.toNat a)*1)) fun a=>lA 2 C fun f=>cL f fun f g h i=>cL i fun i j k l=>aA l (qL 51 [(.agg #[.slice f g h,.slice i j k]),nI a] fun a f g=>.act (apS 1 16 b c d a f g) fun a=>aN a fun a b c=>rn [.slice a b c]))) (T51k0 a)) else (re 0 [nI a,.slice b c d]))
noncomputable def T51k1:TK:=
 fun a b=>sw a (.exit 0) (cI b fun _ a=>cL a fun a b c d=>aA d (rn [.slice a b c])) (.fail)
noncomputable def T51k2:TK:=
 fun a b=>sw a .normal (cL b fun a b c d=>aA d (rr [.slice a b c])) (.fail)
noncomputable def T51 (A:Option Addr) (B C:Nat) (D:Option Addr) (E F:Nat) (G:Int):Pg:=
 nw [.slice A B C,.slice D E F] fun a=>lL (aadd a 0) fun b c _=>aF b fun b=>ix G c (lA 7 (aadd b ((Int.toNat G)*7)) fun b=>cI b fun b c=>cI c fun c d=>cS d fun d f=>cS f fun f g=>cL g fun g h i j=>cI j fun j k=>cI k fun k l=>aA l (nw [nI 0,nI 0,(.string (bs [])),(.string (bs [])),.slice none 0 0,nI 0,nI 0] fun l=>sC l [nI b,nI c,.string d,.string f,.slice g h i,nI j,nI k] (lI (aadd l 0) fun b=>bif (b==22) then (lS (aadd l 2) fun a=>bL 1 1 [.string a] fun a b c=>rr [.slice a b c]) else (lI (aadd l 0) fun b=>.join (bif (b==26) then (lL (aadd l 4) fun b c _=>.loop [nI 0,.slice none 0 0] (T51b0 c b a) (T51k1)) else (rn [.slice none 0 0])) (T51k2)))))
theorem T51_eq (A:Option Addr) (B C:Nat) (D:Option Addr) (E F:Nat) (G:Int):aH aG false 51 [(.agg #[.slice A B C,.slice D E F]),(.int .i64 G)]=T51 A B C D E F G:=by kernel_rfl
noncomputable def T52k0 (A:Int):TK:=
 fun a b=>sw a .ret (cI b fun a b=>aA b (rr [nI A,nI a])) (sw a .normal (cI b fun a b=>aA b (rn [(nI (aT (A+1))),nI a])) (.fail))
noncomputable def T52b0 (A:Nat) (B:Option Addr) (C:Value):TB:=
 fun a=>cI a fun a b=>cI b fun b c=>aA c (bif (decide (a<(A:Int))) then (.join (aF B fun c=>ix a A (lI (aadd c ((Int.toNat a)*1)) fun c=>nV C fun d f g=>.call d (f++[nI c]++g) fun c=>eR c fun c=>bif c then (rr [nI a]) else (rn [nI b]))) (T52k0 a)) else (re 0 [nI a,nI b]))
noncomputable def T52k1:TK:=
 fun a b=>sw a (.exit 0) (cI b fun _ a=>cI a fun _ a=>aA a (rr [(nI (-1))])) (sw a .ret (cI b fun _ a=>cI a fun a b=>aA b (rr [nI a])) (.fail))
noncomputable def T52 (A:Option Addr) (B C:Nat) (D:Value):Pg:=
 .loop [nI 0,nI 0] (T52b0 B A D) (T52k1)
theorem T52_eq (A:Option Addr) (B C:Nat) (D:Value):aH aG false 52 [.slice A B C,D]=T52 A B C D:=by kernel_rfl
noncomputable def T55k0:TK:=
 fun a b=>sw a .normal (cB b fun a b=>aA b (rn [.bool a])) (.fail)
noncomputable def T55k1:TK:=
 fun a b=>sw a .normal (cB b fun a b=>aA b (rn [.bool a])) (.fail)
noncomputable def T55k2:TK:=
 fun a b=>sw a .normal (cB b fun a b=>aA b (rn [.bool a])) (.fail)
noncomputable def T55k3:TK:=
 fun a b=>sw a .normal (cB b fun a b=>aA b (rn [.bool a])) (.fail)
noncomputable def T55k4:TK:=
 fun a b=>sw a .normal (cB b fun a b=>aA b (rn [.bool a])) (.fail)
noncomputable def T55k5:TK:=
 fun a b=>sw a .normal (cB b fun a b=>aA b (rn [.bool a])) (.fail)
noncomputable def T55k6:TK:=
 fun a b=>sw a .normal (cB b fun a b=>aA b (rn [.bool a])) (.fail)
noncomputable def T55k7:TK:=
 fun a b=>sw a .normal (cB b fun a b=>aA b (rn [.bool a])) (.fail)
noncomputable def T55k8:TK:=
 fun a b=>sw a .normal (cB b fun a b=>aA b (bif a then (rr [.bool true]) else (rn [.bool false]))) (.fail)
noncomputable def T55k9:TK:=
 fun a b=>sw a .ret (cB b fun a b=>aA b (rr [.bool a])) (sw a .normal (cB b fun _ a=>aA a (rr [.bool false])) (.fail))
noncomputable def T55 (A:Int):Pg:=
 .join (.join (bif (A==7) then (rn [(.bool (A==7))]) else (.join (bif (A==8) then (rn [(.bool (A==8))]) else (.join (bif (A==9) then (rn [(.bool (A==9))]) else (.join (bif (A==10) then (rn [(.bool (A==10))]) else (.join (bif (A==11) then (rn [(.bool (A==11))]) else (.join (bif (A==13) then (rn [(.bool (A==13))]) else (.join (bif (A==17) then (rn [(.bool (A==17))]) else (.join (bif (A==18) then (rn [(.bool (A==18))]) else (.join (bif (A==19) then (rn [(.bool (A==19))]) else (rn [(.bool (A==20))])) (T55k0))) (T55k1))) (T55k2))) (T55k3))) (T55k4))) (T55k5))) (T55k6))) (T55k7))) (T55k8)) (T55k9)
theorem T55_eq (A:Int):aH aG false 55 [(.int .i64 A)]=T55 A:=by kernel_rfl
noncomputable def T56 (A:Option Addr) (B C:Int) (D:ByteArray) (E:Option Addr) (F G:Nat) (H:Int) (I:Option Addr) (J:Int):Pg:=
 nw [nI B,nI C,.string D,.slice E F G,nI H,.pointer I,nI J] fun a=>lA 7 a fun a=>cI a fun a b=>cI b fun b c=>cS c fun c d=>cL d fun d f g h=>cI h fun h i=>aM i fun i j=>aK i fun i=>cI j fun j k=>aA k (aF A fun k=>sC (aadd k 12) [nI a,nI b,.string c,.slice d f g,nI h,.pointer i,nI j] (aF A fun a=>sC (aadd a 11) [.bool true] (rr [(.tuple #[])])))
theorem T56_eq (A:Option Addr) (B C:Int) (D:ByteArray) (E:Option Addr) (F G:Nat) (H:Int) (I:Option Addr) (J:Int):aH aG false 56 [(.pointer A),(.agg #[(.int .i64 B),(.int .i64 C),.string D,.slice E F G,(.int .i64 H),(.pointer I),(.int .i64 J)])]=T56 A B C D E F G H I J:=by kernel_rfl
noncomputable def T57 (A:Option Addr) (B:Int) (C:Option Addr):Pg:=
 aF A fun a=>sC (aadd a 19) [nI B] (aF A fun a=>sC (aadd a 20) [.pointer C] (aF A fun a=>sC (aadd a 11) [.bool false] (rr [(.tuple #[])])))
theorem T57_eq (A:Option Addr) (B:Int) (C:Option Addr):aH aG false 57 [(.pointer A),(.int .i64 B),(.pointer C)]=T57 A B C:=by kernel_rfl
noncomputable def T58k0:TK:=
 fun a b=>sw a .normal (aA b (rn [])) (.fail)
noncomputable def T58k1:TK:=
 fun a b=>sw a .normal (aA b (rn [])) (.fail)
noncomputable def T58k2:TK:=
 fun a b=>sw a .normal (aA b (rr [(.tuple #[])])) (.fail)
noncomputable def T58 (A:Option Addr) (B C:Int) (D E:ByteArray) (F:Option Addr) (G H:Nat) (I J:Int) (K:Option Addr) (L M:Int) (N:ByteArray) (O:Option Addr) (Q R:Nat) (S:Int) (U:Option Addr) (V:Int):Pg:=
 nw [nI B,nI C,.string D,.string E,.slice F G H,nI I,nI J] fun a=>nw [nI L,nI M,.string N,.slice O Q R,nI S,.pointer U,nI V] fun b=>.join (lI (aadd b 0) fun c=>.join (bif (c !=2) then (qT 64 [.pointer A] fun a=>aA a (rn [])) else (lI (aadd b 1) fun b=>.join (bif (b==1) then (lL (aadd a 4) fun a b _=>aF a fun a=>grd (decide (1<(b:Int))) (lI (aadd a 1) fun a=>aF K fun b=>.act (ld1 (aadd b 1)) fun b=>aK b fun b=>qT 57 [.pointer A,nI a,.pointer b] fun a=>aA a (rn []))) else (lL (aadd a 4) fun a b _=>aF a fun a=>grd (decide (2<(b:Int))) (lI (aadd a 2) fun a=>aF K fun b=>.act (ld1 (aadd b 1)) fun b=>aK b fun b=>qT 57 [.pointer A,nI a,.pointer b] fun a=>aA a (rn [])))) (T58k0))) (T58k1)) (T58k2)
theorem T58_eq (A:Option Addr) (B C:Int) (D E:ByteArray) (F:Option Addr) (G H:Nat) (I J:Int) (K:Option Addr) (L M:Int) (N:ByteArray) (O:Option Addr) (Q R:Nat) (S:Int) (U:Option Addr) (V:Int):aH aG false 58 [(.pointer A),(.agg #[(.int .i64 B),(.int .i64 C),.string D,.string E,.slice F G H,(.int .i64 I),(.int .i64 J)]),(.pointer K),(.agg #[(.int .i64 L),(.int .i64 M),.string N,.slice O Q R,(.int .i64 S),(.pointer U),(.int .i64 V)])]=T58 A B C D E F G H I J K L M N O Q R S U V:=by kernel_rfl
noncomputable def T59k0 (A:Int):TK:=
 fun a b=>sw a .ret (aA b (rr [nI A])) (sw a .normal (aA b (rn [(nI (aT (A+2)))])) (.fail))
noncomputable def T59b0 (A B:Addr) (C D:Option Addr):TB:=
 fun a=>cI a fun a b=>aA b (lL (aadd A 4) fun _ b _=>bif (decide (a<(b:Int))) then (.join (lL (aadd A 4) fun b c _=>aF b fun b=>ix a c (lI (aadd b ((Int.toNat a)*1)) fun b=>lA 7 B fun c=>cI c fun c d=>cI d fun d f=>cS f fun f g=>cL g fun g h i j=>cI j fun j k=>aM k fun k l=>aK k fun k=>cI l fun l m=>aA m (aF C fun m=>.act (ld1 (aadd m 1)) fun m=>aK m fun m=>qT 87 [.pointer D,nI b,(.agg #[nI c,nI d,.string f,.slice g h i,nI j,.pointer k,nI l]),.pointer m] fun b=>aM b fun b c=>aK b fun b=>cB c fun c d=>aA d (bif c then (lL (aadd A 4) fun c d _=>aF c fun c=>grd ((decide (0≤(aT (a+1))))&&(decide ((aT (a+1))<(d:Int)))) (lI (aadd c ((Int.toNat (aT (a+1)))*1)) fun a=>qT 57 [.pointer D,nI a,.pointer b] fun a=>aA a (rr []))) else (rn []))))) (T59k0 a)) else (re 0 [nI a]))
noncomputable def T59k1 (A:Option Addr):TK:=
 fun a b=>sw a (.exit 0) (cI b fun _ a=>aA a (qT 64 [.pointer A] fun a=>aA a (rr [(.tuple #[])]))) (sw a .ret (cI b fun _ a=>aA a (rr [(.tuple #[])])) (.fail))
noncomputable def T59 (A:Option Addr) (B C:Int) (D E:ByteArray) (F:Option Addr) (G H:Nat) (I J:Int) (K:Option Addr) (L M:Int) (N:ByteArray) (O:Option Addr) (Q R:Nat) (S:Int) (U:Option Addr) (V:Int):Pg:=
 nw [nI B,nI C,.string D,.string E,.slice F G H,nI I,nI J] fun a=>nw [nI L,nI M,.string N,.slice O Q R,nI S,.pointer U,nI V] fun b=>.loop [nI 1] (T59b0 a b K A) (T59k1 A)
theorem T59_eq (A:Option Addr) (B C:Int) (D E:ByteArray) (F:Option Addr) (G H:Nat) (I J:Int) (K:Option Addr) (L M:Int) (N:ByteArray) (O:Option Addr) (Q R:Nat) (S:Int) (U:Option Addr) (V:Int):aH aG false 59 [(.pointer A),(.agg #[(.int .i64 B),(.int .i64 C),.string D,.string E,.slice F G H,(.int .i64 I),(.int .i64 J)]),(.pointer K),(.agg #[(.int .i64 L),(.int .i64 M),.string N,.slice O Q R,(.int .i64 S),(.pointer U),(.int .i64 V)])]=T59 A B C D E F G H I J K L M N O Q R S U V:=by kernel_rfl
noncomputable def T60k0 (A:Option Addr) (B:Addr):TK:=
 fun a b=>sw a .normal (cB b fun a b=>aA b (bif a then (qT 64 [.pointer A] fun a=>aA a (rr [])) else (lA 7 B fun a=>cI a fun a b=>cI b fun b c=>cS c fun c d=>cL d fun d f g h=>cI h fun h i=>aM i fun i j=>aK i fun i=>cI j fun j k=>aA k (qT 56 [.pointer A,(.agg #[nI a,nI b,.string c,.slice d f g,nI h,.pointer i,nI j])] fun a=>aA a (rn []))))) (.fail)
noncomputable def T60k1:TK:=
 fun a b=>sw a .normal (aA b (rn [])) (.fail)
noncomputable def T60k2:TK:=
 fun a b=>sw a .ret (aA b (rr [])) (sw a .normal (aA b (rn [])) (.fail))
noncomputable def T60k3:TK:=
 fun a b=>sw a .ret (aA b (rr [])) (sw a .normal (aA b (rn [])) (.fail))
noncomputable def T60k4:TK:=
 fun a b=>sw a .normal (aA b (rn [])) (sw a .ret (aA b (rr [])) (.fail))
noncomputable def T60k5:TK:=
 fun a b=>sw a .normal (aA b (rn [])) (sw a .ret (aA b (rr [])) (.fail))
noncomputable def T60k6:TK:=
 fun a b=>sw a .normal (aA b (rr [(.tuple #[])])) (sw a .ret (aA b (rr [(.tuple #[])])) (.fail))
noncomputable def T60 (A:Option Addr) (B C D:Int) (E F:ByteArray) (G:Option Addr) (H I:Nat) (J K:Int) (L:Option Addr) (M N:Nat):Pg:=
 nw [nI C,nI D,.string E,.string F,.slice G H I,nI J,nI K] fun a=>lI (aadd a 0) fun b=>.join (.join (bif (b==7) then (aF L fun a=>grd (decide (0<(M:Int))) (lA 7 (aadd a 0) fun a=>cI a fun a b=>cI b fun b c=>cS c fun c d=>cL d fun d f g h=>cI h fun h i=>aM i fun i j=>aK i fun i=>cI j fun j k=>aA k (aF L fun k=>grd (decide (1<(M:Int))) (lA 7 (aadd k 7) fun k=>cI k fun k l=>cI l fun l m=>cS m fun m n=>cL n fun n o p q=>cI q fun q r=>aM r fun r s=>aK r fun r=>cI s fun s t=>aA t (qT 88 [.pointer A,nI B,(.agg #[nI a,nI b,.string c,.slice d f g,nI h,.pointer i,nI j]),(.agg #[nI k,nI l,.string m,.slice n o p,nI q,.pointer r,nI s])] fun a=>aA a (rn [])))))) else (.join (bif (b==5) then (lS (aadd a 2) fun a=>qT 56 [.pointer A,(.agg #[nI 4,nI 0,.string a,.slice L M N,nI 0,.pointer none,nI 0])] fun a=>aA a (rn [])) else (.join (bif (b==14) then (.get fun b=>lS (aadd a 2) fun a=>aF L fun c=>grd (decide (0<(M:Int))) (lI (aadd (aadd c 0) 1) fun c=>aF L fun d=>grd (decide (1<(M:Int))) (lI (aadd (aadd d 7) 1) fun d=>.get fun f=>grd (qv b.n f []) (nw [nI 0,nI 0,(.string (bs [])),.slice none 0 0,nI 0,.pointer none,nI 0] fun b=>.get fun g=>qT 89 [.string a,nI c,nI d] fun a=>aM a fun a c=>asAgg a fun a=>cI a fun a d=>cI d fun d h=>cS h fun h i=>cL i fun i j k l=>cI l fun l m=>aM m fun m n=>aK m fun m=>cI n fun n o=>aA o (cB c fun c o=>aA o (.get fun o=>grd (ye [(f.n,(g.get f.n))] o) (sC b [nI a,nI d,.string h,.slice i j k,nI l,.pointer m,nI n] (.join (bif (!c)==false then (aF L fun a=>grd (decide (0<(M:Int))) (lI (aadd (aadd a 0) 0) fun a=>bif (a !=1)==false then (aF L fun a=>grd (decide (1<(M:Int))) (lI (aadd (aadd a 7) 0) fun a=>rn [(.bool (a !=1))])) else (rn [.bool true]))) else (rn [.bool true])) (T60k0 A b))))))))) else (.join (bif (b==17) then (aF L fun a=>grd (decide (0<(M:Int))) (lI (aadd (aadd a 0) 0) fun a=>bif (a !=1) then (qT 64 [.pointer A] fun a=>aA a (rr [])) else (aF A fun a=>.act (ld1 (aadd a 4)) fun b=>aN b fun c d f=>aF L fun g=>grd (decide (0<(M:Int))) (lI (aadd (aadd g 0) 1) fun g=>bL 1 1 [nI g] fun g h i=>.get fun j=>grd (chks [((ld1 (aadd a 4)),b)] j) (.act (apS 1 8 c d f g h i) fun a=>aN a fun a b c=>aF A fun d=>sC (aadd d 4) [.slice a b c] (qA 62 [] fun a=>cI a fun a b=>cI b fun b c=>cS c fun c d=>cL d fun d f g h=>cI h fun h i=>aM i fun i j=>aK i fun i=>cI j fun j k=>aA k (qT 56 [.pointer A,(.agg #[nI a,nI b,.string c,.slice d f g,nI h,.pointer i,nI j])] fun a=>aA a (rn [])))))))) else (.join (bif (b==19) then (aF L fun a=>grd (decide (0<(M:Int))) (lA 7 (aadd a 0) fun a=>cI a fun a b=>cI b fun b c=>cS c fun c d=>cL d fun d f g h=>cI h fun h i=>aM i fun i j=>aK i fun i=>cI j fun j k=>aA k (qT 90 [.pointer A,(.agg #[nI a,nI b,.string c,.slice d f g,nI h,.pointer i,nI j])] fun a=>aA a (rn [])))) else (lA 7 a fun a=>cI a fun a b=>cI b fun b c=>cS c fun c d=>cS d fun d f=>cL f fun f g h i=>cI i fun i j=>cI j fun j k=>aA k (qT 91 [.pointer A,(.agg #[nI a,nI b,.string c,.string d,.slice f g h,nI i,nI j]),.slice L M N] fun a=>aA a (rn [])))) (T60k1))) (T60k2))) (T60k3))) (T60k4))) (T60k5)) (T60k6)
theorem T60_eq (A:Option Addr) (B C D:Int) (E F:ByteArray) (G:Option Addr) (H I:Nat) (J K:Int) (L:Option Addr) (M N:Nat):aH aG false 60 [(.pointer A),(.int .i64 B),(.agg #[(.int .i64 C),(.int .i64 D),.string E,.string F,.slice G H I,(.int .i64 J),(.int .i64 K)]),.slice L M N]=T60 A B C D E F G H I J K L M N:=by kernel_rfl
noncomputable def T61 (A:Int):Pg:=
 nw [nI 0,nI 0,(.string (bs [])),.slice none 0 0,nI 0,.pointer none,nI 0] fun a=>qI 31 [nI A] fun b=>sC a [nI 1,nI b,(.string (bs [])),.slice none 0 0,nI 0,.pointer none,nI 0] (.act (ldN 7 a) fun a=>rr [a])
theorem T61_eq (A:Int):aH aG false 61 [(.int .i64 A)]=T61 A:=by kernel_rfl
noncomputable def T62:Pg:=
 nw [nI 0,nI 0,(.string (bs [])),.slice none 0 0,nI 0,.pointer none,nI 0] fun a=>sC a [nI 3,nI 0,(.string (bs [])),.slice none 0 0,nI 0,.pointer none,nI 0] (.act (ldN 7 a) fun a=>rr [a])
theorem T62_eq:aH aG false 62 []=T62:=by kernel_rfl
noncomputable def T63k0 (A:Option Addr):TK:=
 fun a b=>sw a .ret (cB b fun a b=>aA b (rr [.pointer A,.bool a])) (sw a .normal (cB b fun a b=>aA b (aF A fun b=>.act (ld1 (aadd b 8)) fun b=>aK b fun b=>rn [.pointer b,.bool a])) (.fail))
noncomputable def T63b0 (A:ByteArray) (B:Addr):TB:=
 fun a=>aM a fun a b=>aK a fun a=>cB b fun b c=>aA c (bif (!(Option.isNone a)) then (.join (aF a fun c=>lS (aadd c 0) fun c=>bif (c.toList==A.toList) then (aF a fun a=>lA 7 (aadd a 1) fun a=>cI a fun a b=>cI b fun b c=>cS c fun c d=>cL d fun d f g h=>cI h fun h i=>aM i fun i j=>aK i fun i=>cI j fun j k=>aA k (sC B [nI a,nI b,.string c,.slice d f g,nI h,.pointer i,nI j] (rr [.bool true]))) else (rn [.bool b])) (T63k0 a)) else (re 0 [.pointer a,.bool b]))
noncomputable def T63k1 (A:Addr):TK:=
 fun a b=>sw a (.exit 0) (aM b fun a b=>aK a fun _=>cB b fun _ a=>aA a (sC A [nI 0,nI 0,(.string (bs [])),.slice none 0 0,nI 0,.pointer none,nI 0] (.act (ldN 7 A) fun a=>rr [(.tuple #[a,.bool false])]))) (sw a .ret (aM b fun a b=>aK a fun _=>cB b fun a b=>aA b (.act (ldN 7 A) fun b=>rr [(.tuple #[b,.bool a])])) (.fail))
noncomputable def T63 (A:Option Addr) (B:ByteArray):Pg:=
 nw [nI 0,nI 0,(.string (bs [])),.slice none 0 0,nI 0,.pointer none,nI 0] fun a=>.loop [.pointer A,.bool false] (T63b0 B a) (T63k1 a)
theorem T63_eq (A:Option Addr) (B:ByteArray):aH aG false 63 [(.pointer A),.string B]=T63 A B:=by kernel_rfl
noncomputable def T64 (A:Option Addr):Pg:=
 aF A fun a=>sC (aadd a 9) [nI 2] (rr [(.tuple #[])])
theorem T64_eq (A:Option Addr):aH aG false 64 [(.pointer A)]=T64 A:=by kernel_rfl
noncomputable def T65 (A:Option Addr):Pg:=
 aF A fun a=>lI (aadd a 3) fun a=>aF A fun b=>lL (aadd b 2) fun _ b _=>bif (decide (a≥(b:Int))) then (aF A fun a=>sC (aadd a 9) [nI 3] (rr [(.tuple #[])])) else (aF A fun a=>lI (aadd a 3) fun a=>aF A fun b=>sC (aadd b 3) [(nI (aT (a+1)))] (aF A fun a=>lL (aadd a 2) fun a b _=>aF A fun c=>lI (aadd c 3) fun c=>aF a fun a=>grd ((decide (0≤(aT (c - 1))))&&(decide ((aT (c - 1))<(b:Int)))) (lI (aadd a ((Int.toNat (aT (c - 1)))*1)) fun a=>qA 61 [nI a] fun a=>cI a fun a b=>cI b fun b c=>cS c fun c d=>cL d fun d f g h=>cI h fun h i=>aM i fun i j=>aK i fun i=>cI j fun j k=>aA k (qT 56 [.pointer A,(.agg #[nI a,nI b,.string c,.slice d f g,nI h,.pointer i,nI j])] fun a=>aA a (rr [(.tuple #[])])))))
theorem T65_eq (A:Option Addr):aH aG false 65 [(.pointer A)]=T65 A:=by kernel_rfl
noncomputable def T66k0 (A B C:Int):TK:=
 fun a b=>sw a .normal (aM b fun a b=>asInt .i32 a fun a=>aA b (bif (A==1) then (re 0 [nI A,nI B,.int .i32 a]) else (rn [(nI (aT (A+1))),nI C,.int .i32 a]))) (.fail)
noncomputable def T66k1:TK:=
 fun a b=>sw a (.exit 0) (cI b fun a b=>cI b fun b c=>aM c fun c d=>asInt .i32 c fun c=>aA d (re 0 [nI a,nI b,.int .i32 c])) (sw a .normal (cI b fun a b=>cI b fun b c=>aM c fun c d=>asInt .i32 c fun c=>aA d (rn [nI a,nI b,.int .i32 c])) (.fail))
noncomputable def T66b0 (A:Addr):TB:=
 fun a=>cI a fun a b=>cI b fun b c=>aM c fun c d=>asInt .i32 c fun c=>aA d (.act (nxt (some A)) fun d=>asNx d (fun d f=>.join (.join (bif (a==0) then (rn [.int .i32 f]) else (rn [.int .i32 c])) (T66k0 a d b)) (T66k1)) (re 0 [nI a,nI b,.int .i32 c]))
noncomputable def T66k2:TK:=
 fun a b=>sw a (.exit 0) (cI b fun _ a=>cI a fun a b=>aM b fun b c=>asInt .i32 b fun b=>aA c (rr [(.tuple #[.int .i32 b,nI a])])) (.fail)
noncomputable def T66 (A:ByteArray):Pg:=
 .act (rng A) fun a=>aK a fun a=>aF a fun a=>.loop [nI 0,(nI ((A.size:Nat):Int)),.int .i32 0] (T66b0 a) (T66k2)
theorem T66_eq (A:ByteArray):aH aG false 66 [.string A]=T66 A:=by kernel_rfl
noncomputable def T67k0 (A:Int):TK:=
 fun a b=>sw a .normal (cB b fun a b=>aA b (bif a then (rr [nI 1]) else (bif ((decide (A≥48))&&(decide (A≤57))) then (rr [nI 2]) else (bif ((((A==32)||(A==9))||(A==10))||(A==13)) then (rr [nI 3]) else (rn [nI 0]))))) (.fail)
noncomputable def T67k1 (A:Int):TK:=
 fun a b=>sw a .ret (cI b fun a b=>aA b (rr [nI A,nI a])) (sw a .normal (cI b fun a b=>aA b (rn [(nI (aT (A+1))),nI a])) (.fail))
noncomputable def T67b0 (A:Int):TB:=
 fun a=>cI a fun a b=>cI b fun b c=>aA c (bif (decide (a<13)) then (.join (grd ((decide (0≤a))&&(decide (a<13))) (bif (A==(wi32 (cM (bs [40,41,44,59,61,60,62,43,45,42,124,33,58]) (Int.toNat a)))) then (rr [nI 4]) else (rn [nI b]))) (T67k1 a)) else (re 1 [nI a,nI b]))
noncomputable def T67k2:TK:=
 fun a b=>sw a (.exit 1) (cI b fun _ a=>cI a fun _ a=>aA a (rr [nI 0])) (sw a .ret (cI b fun _ a=>cI a fun a b=>aA b (rr [nI a])) (.fail))
noncomputable def T67k3 (A:Int):TK:=
 fun a b=>sw a .ret (cI b fun a b=>aA b (rr [nI a])) (sw a .normal (cI b fun a b=>aA b (.loop [nI 0,nI a] (T67b0 A) (T67k2))) (.fail))
noncomputable def T67 (A:Int):Pg:=
 .join (.join (bif ((A==95)||(A==39))==false then (qB 92 [.int .i32 A] fun a=>rn [.bool a]) else (rn [.bool true])) (T67k0 A)) (T67k3 A)
theorem T67_eq (A:Int):aH aG false 67 [(.int .i32 A)]=T67 A:=by kernel_rfl
noncomputable def T68k0:TK:=
 fun a b=>sw a .ret (cI b fun a b=>cI b fun b c=>cI c fun c d=>aA d (rr [nI a,nI b,nI c])) (sw a .normal (cI b fun a b=>cI b fun b c=>cI c fun c d=>aA d (rn [nI a,nI b,nI c])) (.fail))
noncomputable def T68k1 (A B C:Int):TK:=
 fun a b=>sw a .normal (cB b fun a b=>aA b (.join (bif a then (bif ((aT (A - 1))==0) then (rr [(nI (aT (B+2))),(nI (aT (B+2))),(nI (aT (A - 1)))]) else (rn [nI C,(nI (aT (B+2))),(nI (aT (A - 1)))])) else (rn [nI C,(nI (aT (B+1))),nI A])) (T68k0))) (.fail)
noncomputable def T68k2:TK:=
 fun a b=>sw a .normal (cI b fun a b=>cI b fun b c=>cI c fun c d=>aA d (rn [nI a,nI b,nI c])) (sw a .ret (cI b fun a b=>cI b fun b c=>cI c fun c d=>aA d (rr [nI a,nI b,nI c])) (.fail))
noncomputable def T68k3 (A B C:Int) (D:ByteArray):TK:=
 fun a b=>sw a .normal (cB b fun a b=>aA b (.join (bif a then (rn [nI A,(nI (aT (B+2))),(nI (aT (C+1)))]) else (.join (bif (decide ((aT (B+1))<((D.size:Nat):Int)))==true then (grd ((decide (0≤B))&&(decide (B<((D.size:Nat):Int)))) (bif ((cM D (Int.toNat B))==42)==true then (grd ((decide (0≤(aT (B+1))))&&(decide ((aT (B+1))<((D.size:Nat):Int)))) (rn [(.bool ((cM D (Int.toNat (aT (B+1))))==41))])) else (rn [.bool false]))) else (rn [.bool false])) (T68k1 C B A))) (T68k2))) (.fail)
noncomputable def T68k4:TK:=
 fun a b=>sw a .normal (cI b fun a b=>cI b fun b c=>cI c fun c d=>aA d (rn [nI a,nI b,nI c])) (sw a .ret (cI b fun a b=>cI b fun b c=>cI c fun c d=>aA d (rr [nI a,nI b,nI c])) (.fail))
noncomputable def T68k5:TK:=
 fun a b=>sw a .normal (cI b fun a b=>cI b fun b c=>cI c fun c d=>aA d (rn [nI a,nI b,nI c])) (sw a .ret (cI b fun a b=>cI b fun b c=>cI c fun c d=>aA d (rr [nI a,nI b,nI c])) (.fail))
noncomputable def T68b0 (A:ByteArray):TB:=
 fun a=>cI a fun a b=>cI b fun b c=>cI c fun c d=>aA d (bif (decide (b<((A.size:Nat):Int))) then (.join (.join (.join (bif (decide ((aT (b+1))<((A.size:Nat):Int)))==true then (grd ((decide (0≤b))&&(decide (b<((A.size:Nat):Int)))) (bif ((cM A (Int.toNat b))==40)==true then (grd ((decide (0≤(aT (b+1))))&&(decide ((aT (b+1))<((A.size:Nat):Int)))) (rn [(.bool ((cM A (Int.toNat (aT (b+1))))==42))])) else (rn [.bool false]))) else (rn [.bool false])) (T68k3 a b c A)) (T68k4)) (T68k5)) else (re 0 [nI a,nI b,nI c]))
noncomputable def T68k6:TK:=
 fun a b=>sw a (.exit 0) (cI b fun _ a=>cI a fun _ a=>cI a fun _ a=>aA a (rr [(nI (-1))])) (sw a .ret (cI b fun a b=>cI b fun _ b=>cI b fun _ b=>aA b (rr [nI a])) (.fail))
noncomputable def T68 (A:ByteArray) (B:Int):Pg:=
 .loop [nI 0,nI B,nI 0] (T68b0 A) (T68k6)
theorem T68_eq (A:ByteArray) (B:Int):aH aG false 68 [.string A,(.int .i64 B)]=T68 A B:=by kernel_rfl
noncomputable def T69k0:TK:=
 fun a b=>sw a .normal (aA b (rn [])) (.fail)
noncomputable def T69k1:TK:=
 fun a b=>sw a .normal (aA b (rn [])) (.fail)
noncomputable def T69k2 (A B:Addr):TK:=
 fun a b=>sw a .normal (aA b (lA 4 A fun a=>cI a fun a b=>cS b fun b c=>cI c fun c d=>cI d fun d f=>aA f (sC B [nI a,.string b,nI c,nI d] (rr [.bool true])))) (.fail)
noncomputable def T69k3 (A:Addr):TK:=
 fun a b=>sw a .ret (aM b fun a b=>asInt .u64 a fun a=>cB b fun b c=>aA c (rr [.int .u64 a,.bool b])) (sw a .normal (aM b fun a b=>asInt .u64 a fun a=>cB b fun b c=>aA c (lI (aadd A 3) fun c=>sC (aadd A 3) [(nI (aT (c+1)))] (rn [.int .u64 a,.bool b]))) (.fail))
noncomputable def T69k4 (A:Int) (B C:Addr) (D:ByteArray) (E:Bool):TK:=
 fun a b=>sw a .normal (cB b fun a b=>aA b (bif a then (.join (bif (decide (A>461168601842738790)) then (lA 4 B fun a=>cI a fun a b=>cS b fun b c=>cI c fun c d=>cI d fun d f=>aA f (sC C [nI a,.string b,nI c,nI d] (rr [.int .u64 A,.bool false]))) else (lI (aadd B 3) fun a=>grd ((decide (0≤a))&&(decide (a<((D.size:Nat):Int)))) (bif (decide ((sD ((sD (A*10))+(sD (wu8 ((cM D (Int.toNat a)) - 48)))))>4611686018427387903)) then (lA 4 B fun b=>cI b fun b c=>cS c fun c d=>cI d fun d f=>cI f fun f g=>aA g (sC C [nI b,.string c,nI d,nI f] (rr [(.int .u64 (sD ((sD (A*10))+(sD (wu8 ((cM D (Int.toNat a)) - 48)))))),.bool false]))) else (rn [(.int .u64 (sD ((sD (A*10))+(sD (wu8 ((cM D (Int.toNat a)) - 48)))))),.bool E])))) (T69k3 B)) else (re 2 [.int .u64 A,.bool E]))) (.fail)
noncomputable def T69b0 (A:Addr) (B:ByteArray) (C:Addr):TB:=
 fun a=>aM a fun a b=>asInt .u64 a fun a=>cB b fun b c=>aA c (.join (lI (aadd A 3) fun a=>bif (decide (a<((B.size:Nat):Int)))==true then (lI (aadd A 3) fun a=>grd ((decide (0≤a))&&(decide (a<((B.size:Nat):Int)))) (bif (decide ((cM B (Int.toNat a))≥48))==true then (lI (aadd A 3) fun a=>grd ((decide (0≤a))&&(decide (a<((B.size:Nat):Int)))) (rn [(.bool (decide ((cM B (Int.toNat a))≤57)))])) else (rn [.bool false]))) else (rn [.bool false])) (T69k4 a A C B b))
noncomputable def T69k5 (A:Addr) (B:Int) (C:ByteArray) (D:Addr):TK:=
 fun a b=>sw a (.exit 2) (aM b fun a b=>asInt .u64 a fun _=>cB b fun _ a=>aA a (lI (aadd A 3) fun a=>grd (((decide (0≤B))&&(decide (B≤a)))&&(decide (a≤((C.size:Nat):Int)))) (sC (aadd A 0) [nI 1] (sC (aadd A 1) [(.string (C.extract (Int.toNat B) (Int.toNat a)))] (lA 4 A fun a=>cI a fun a b=>cS b fun b c=>cI c fun c d=>cI d fun d f=>aA f (sC D [nI a,.string b,nI c,nI d] (rr [.bool true]))))))) (sw a .ret (aM b fun a b=>asInt .u64 a fun _=>cB b fun a b=>aA b (rr [.bool a])) (.fail))
noncomputable def T69k6:TK:=
 fun a b=>sw a .normal (cB b fun a b=>aA b (rr [.bool a])) (.fail)
noncomputable def T69k7 (A:Addr) (B:Int) (C:ByteArray) (D:Addr):TK:=
 fun a b=>sw a .normal (aA b (lI (aadd A 3) fun a=>grd (((decide (0≤B))&&(decide (B≤a)))&&(decide (a≤((C.size:Nat):Int)))) (sC (aadd A 1) [(.string (C.extract (Int.toNat B) (Int.toNat a)))] (.join (lA 4 A fun a=>cI a fun a b=>cS b fun b c=>cI c fun c d=>cI d fun d f=>aA f (lS (aadd A 1) fun f=>bif (!(f.toList==(bs [62]).toList))==true then (.act (ld1 (aadd A 1)) fun f=>jP f fun g=>sC D [nI a,.string b,nI c,nI d] (.get fun a=>grd (chks [((ld1 (aadd A 1)),f)] a) (rn [(.bool (!(g.toList==(bs [58]).toList)))]))) else (sC D [nI a,.string b,nI c,nI d] (rn [.bool false])))) (T69k6))))) (.fail)
noncomputable def T69k8 (A:Addr) (B:Int) (C:ByteArray) (D:Addr):TK:=
 fun a b=>sw a .normal (cB b fun a b=>aA b (.join (bif a then (sC (aadd A 3) [(nI (aT (B+2)))] (rn [])) else (rn [])) (T69k7 A B C D))) (.fail)
noncomputable def T69k9 (A B:Addr):TK:=
 fun a b=>sw a .ret (cB b fun a b=>aA b (.act (ldN 4 A) fun b=>rr [(.tuple #[b,.bool a])])) (sw a .normal (cB b fun _ a=>aA a (lA 4 B fun a=>cI a fun a b=>cS b fun b c=>cI c fun c d=>cI d fun d f=>aA f (sC A [nI a,.string b,nI c,nI d] (.act (ldN 4 A) fun a=>rr [(.tuple #[a,.bool false])])))) (.fail))
noncomputable def T69 (A:ByteArray) (B:Int):Pg:=
 nw [nI 0,(.string (bs [])),nI 0,nI 0] fun a=>grd (((decide (0≤B))&&(decide (B≤((A.size:Nat):Int))))&&(decide (((A.size:Nat):Int)≤((A.size:Nat):Int)))) (qT 66 [(.string (A.extract (Int.toNat B) A.size))] fun b=>aM b fun b c=>asInt .i32 b fun b=>cI c fun c d=>aA d (nw [nI 0,(.string (bs [])),nI 0,nI 0] fun d=>sC d [nI 0,(.string (bs [])),nI B,(nI (aT (B+c)))] (qI 67 [.int .i32 b] fun c=>.join (bif (c==1) then (bif (b==39) then (lA 4 d fun b=>cI b fun b c=>cS c fun c d=>cI d fun d f=>cI f fun f g=>aA g (sC a [nI b,.string c,nI d,nI f] (rr [.bool false]))) else (grd (((decide (0≤B))&&(decide (B≤((A.size:Nat):Int))))&&(decide (((A.size:Nat):Int)≤((A.size:Nat):Int)))) (qI 93 [(.string (A.extract (Int.toNat B) A.size))] fun c=>sC (aadd d 3) [(nI (aT (B+c)))] (lI (aadd d 3) fun c=>grd (((decide (0≤B))&&(decide (B≤c)))&&(decide (c≤((A.size:Nat):Int)))) (sC (aadd d 1) [(.string (A.extract (Int.toNat B) (Int.toNat c)))] (.join (qB 94 [.int .i32 b] fun a=>.join (bif a then (sC (aadd d 0) [nI 3] (rn [])) else (lS (aadd d 1) fun a=>qB 95 [.string a] fun a=>.join (bif a then (sC (aadd d 0) [nI 4] (rn [])) else (sC (aadd d 0) [nI 2] (rn []))) (T69k0))) (T69k1)) (T69k2 d a))))))) else (bif (c==2) then (sC (aadd d 3) [nI B] (.loop [.int .u64 0,.bool false] (T69b0 d A a) (T69k5 d B A a))) else (bif (c==4) then (sC (aadd d 0) [nI 5] (.join (bif (decide ((aT (B+1))<((A.size:Nat):Int)))==true then (grd ((decide (0≤B))&&(decide (B<((A.size:Nat):Int)))) (bif ((cM A (Int.toNat B))==58)==true then (grd ((decide (0≤(aT (B+1))))&&(decide ((aT (B+1))<((A.size:Nat):Int)))) (bif ((cM A (Int.toNat (aT (B+1))))==61)==false then (grd ((decide (0≤B))&&(decide (B<((A.size:Nat):Int)))) (bif ((cM A (Int.toNat B))==45)==true then (grd ((decide (0≤(aT (B+1))))&&(decide ((aT (B+1))<((A.size:Nat):Int)))) (rn [(.bool ((cM A (Int.toNat (aT (B+1))))==62))])) else (rn [.bool false]))) else (rn [.bool true]))) else (grd ((decide (0≤B))&&(decide (B<((A.size:Nat):Int)))) (bif ((cM A (Int.toNat B))==45)==true then (grd ((decide (0≤(aT (B+1))))&&(decide ((aT (B+1))<((A.size:Nat):Int)))) (rn [(.bool ((cM A (Int.toNat (aT (B+1))))==62))])) else (rn [.bool false]))))) else (rn [.bool false])) (T69k8 d B A a))) else (rn [.bool false])))) (T69k9 a d))))
theorem T69_eq (A:ByteArray) (B:Int):aH aG false 69 [.string A,(.int .i64 B)]=T69 A B:=by kernel_rfl
noncomputable def T70 (A:Option Addr) (B:ByteArray):Pg:=
 qB 96 [.pointer A,.string B] fun a=>bif (!a) then (rr [.bool false]) else (aF A fun a=>lI (aadd a 1) fun a=>aF A fun b=>sC (aadd b 1) [(nI (aT (a+1)))] (rr [.bool true]))
theorem T70_eq (A:Option Addr) (B:ByteArray):aH aG false 70 [(.pointer A),.string B]=T70 A B:=by kernel_rfl
noncomputable def T71k0 (A:Option Addr) (B:Addr):TK:=
 fun a b=>sw a .normal (cB b fun a b=>aA b (bif a then (aF A fun a=>sC (aadd a 3) [.bool true] (rr [(.string (bs []))])) else (aF A fun a=>lI (aadd a 1) fun a=>aF A fun b=>sC (aadd b 1) [(nI (aT (a+1)))] (lS (aadd B 1) fun a=>rr [.string a])))) (.fail)
noncomputable def T71 (A:Option Addr) (B:Int):Pg:=
 qA 44 [.pointer A] fun a=>cI a fun a b=>cS b fun b c=>cI c fun c d=>cI d fun d f=>aA f (nw [nI 0,(.string (bs [])),nI 0,nI 0] fun f=>sC f [nI a,.string b,nI c,nI d] (.join (aF A fun a=>lB (aadd a 3) fun a=>bif a==false then (lI (aadd f 0) fun a=>bif (a !=B)==false then (lS (aadd f 1) fun a=>rn [(.bool (a.toList==(bs [95]).toList))]) else (rn [.bool true])) else (rn [.bool true])) (T71k0 A f)))
theorem T71_eq (A:Option Addr) (B:Int):aH aG false 71 [(.pointer A),(.int .i64 B)]=T71 A B:=by kernel_rfl
noncomputable def T72k0:TK:=
 fun a b=>sw a .normal (aA b (rr [(.tuple #[])])) (.fail)
noncomputable def T72 (A:Option Addr) (B:ByteArray):Pg:=
 qB 70 [.pointer A,.string B] fun a=>.join (bif (!a) then (aF A fun a=>sC (aadd a 3) [.bool true] (rn [])) else (rn [])) (T72k0)
theorem T72_eq (A:Option Addr) (B:ByteArray):aH aG false 72 [(.pointer A),.string B]=T72 A B:=by kernel_rfl
noncomputable def T73 (A:Option Addr):Pg:=
 .call 97 [.pointer A] fun a=>aK a fun a=>qB 70 [.pointer A,(.string (bs [58,61]))] fun b=>bif b then (.call 73 [.pointer A] fun b=>aK b fun b=>.call 74 [nI 13,(.string (bs [])),.pointer a,.pointer b] fun a=>aK a fun a=>rr [.pointer a]) else (rr [.pointer a])
theorem T73_eq (A:Option Addr):aH aG false 73 [(.pointer A)]=T73 A:=by kernel_rfl
noncomputable def T74 (A:Int) (B:ByteArray) (C D:Option Addr):Pg:=
 aF C fun a=>.act (ld1 (aadd (aadd a 0) 5)) fun b=>asInt .i64 b fun c=>aF D fun d=>.act (ld1 (aadd (aadd d 0) 6)) fun f=>asInt .i64 f fun g=>bL 1 2 [.pointer C,.pointer D] fun h i j=>.get fun k=>grd (chks [((ld1 (aadd (aadd d 0) 6)),f),((ld1 (aadd (aadd a 0) 5)),b)] k) (nw [nI A,nI 0,.string B,(.string (bs [])),.slice none 0 0,nI c,nI g,.slice h i j] fun a=>rr [(.pointer (some a))])
theorem T74_eq (A:Int) (B:ByteArray) (C D:Option Addr):aH aG false 74 [(.int .i64 A),.string B,(.pointer C),(.pointer D)]=T74 A B C D:=by kernel_rfl
noncomputable def T75k0 (A:Option Addr) (B C:Nat) (D:Addr) (E:Int) (F:Bool):TK:=
 fun a b=>sw a .normal (cB b fun a b=>aA b (bif a then (rr [.slice A B C,.bool false]) else (lL (aadd D 1) fun a b _=>aF a fun a=>ix E b (lS (aadd (aadd a ((Int.toNat E)*2)) 0) fun a=>bL 1 1 [.string a] fun a b c=>.act (apS 1 16 A B C a b c) fun a=>aN a fun a b c=>rn [.slice a b c,.bool F])))) (.fail)
noncomputable def T75k1 (A:Int):TK:=
 fun a b=>sw a .ret (cL b fun a b c d=>cB d fun d f=>aA f (rr [nI A,.slice a b c,.bool d])) (sw a .normal (cL b fun a b c d=>cB d fun d f=>aA f (rn [(nI (aT (A+1))),.slice a b c,.bool d])) (.fail))
noncomputable def T75b0 (A:Addr):TB:=
 fun a=>cI a fun a b=>cL b fun b c d f=>cB f fun f g=>aA g (lL (aadd A 1) fun _ g _=>bif (decide (a<(g:Int))) then (.join (.join (lL (aadd A 1) fun b c _=>aF b fun b=>ix a c (lS (aadd (aadd b ((Int.toNat a)*2)) 0) fun b=>qB 99 [.string b] fun b=>bif (!b)==false then (lL (aadd A 1) fun b c _=>aF b fun b=>ix a c (lL (aadd (aadd b ((Int.toNat a)*2)) 1) fun _ a _=>rn [(.bool (decide ((a:Int)>3)))])) else (rn [.bool true]))) (T75k0 b c d A a f)) (T75k1 a)) else (re 2 [nI a,.slice b c d,.bool f]))
noncomputable def T75k2 (A:Option Addr) (B C:Nat):TK:=
 fun a b=>sw a (.exit 2) (cI b fun _ a=>cL a fun a b c d=>cB d fun d f=>aA f (rn [.slice a b c,.slice A B C,.bool d])) (sw a .ret (cI b fun _ a=>cL a fun a b c d=>cB d fun d f=>aA f (rr [.slice a b c,.slice A B C,.bool d])) (.fail))
noncomputable def T75k3 (A:Option Addr) (B C:Nat) (D:Option Addr) (E F:Nat) (G:Addr) (H:Bool):TK:=
 fun a b=>sw a .normal (cB b fun a b=>aA b (bif a then (rr [.slice A B C,.slice D E F,.bool false]) else (lS (aadd G 0) fun a=>bL 1 1 [.string a] fun a b c=>.act (apS 1 16 D E F a b c) fun a=>aN a fun a b c=>.loop [nI 0,.slice A B C,.bool H] (T75b0 G) (T75k2 a b c)))) (.fail)
noncomputable def T75k4 (A:Int):TK:=
 fun a b=>sw a .ret (cL b fun a b c d=>cL d fun d f g h=>cB h fun h i=>aA i (rr [nI A,.slice a b c,.slice d f g,.bool h])) (sw a .normal (cL b fun a b c d=>cL d fun d f g h=>cB h fun h i=>aA i (rn [(nI (aT (A+1))),.slice a b c,.slice d f g,.bool h])) (.fail))
noncomputable def T75b1 (A:Addr):TB:=
 fun a=>cI a fun a b=>cL b fun b c d f=>cL f fun f g h i=>cB i fun i j=>aA j (lL (aadd A 1) fun _ j _=>bif (decide (a<(j:Int))) then (.join (lL (aadd A 1) fun j k _=>aF j fun j=>ix a k (lA 2 (aadd j ((Int.toNat a)*2)) fun a=>cS a fun a j=>cL j fun j k l m=>aA m (nw [(.string (bs [])),.slice none 0 0] fun m=>sC m [.string a,.slice j k l] (.join (lS (aadd m 0) fun a=>qB 98 [.string a] fun a=>bif (!a)==false then (lS (aadd m 0) fun a=>bif (a.toList==(bs [105,110,116]).toList)==false then (lS (aadd m 0) fun a=>bif (a.toList==(bs [98,111,111,108]).toList)==false then (lS (aadd m 0) fun a=>bif (a.toList==(bs [117,110,105,116]).toList)==false then (lL (aadd m 1) fun _ a _=>bif (decide ((a:Int)<1))==false then (lL (aadd m 1) fun _ a _=>rn [(.bool (decide ((a:Int)>20)))]) else (rn [.bool true])) else (rn [.bool true])) else (rn [.bool true])) else (rn [.bool true])) else (rn [.bool true])) (T75k3 b c d f g h m i))))) (T75k4 a)) else (re 0 [nI a,.slice b c d,.slice f g h,.bool i]))
noncomputable def T75k5 (A:Int):TK:=
 fun a b=>sw a .ret (cB b fun a b=>aA b (rr [nI A,.bool a])) (sw a .normal (cB b fun a b=>aA b (rn [(nI (aT (A+1))),.bool a])) (.fail))
noncomputable def T75b2 (A:Nat) (B C:Option Addr) (D E:Nat):TB:=
 fun a=>cI a fun a b=>cB b fun b c=>aA c (bif (decide (a<(A:Int))) then (.join (aF B fun c=>ix a A (lS (aadd c ((Int.toNat a)*1)) fun a=>qB 101 [.slice C D E,.string a] fun a=>bif (!a) then (rr [.bool false]) else (rn [.bool b]))) (T75k5 a)) else (re 8 [nI a,.bool b]))
noncomputable def T75k6:TK:=
 fun a b=>sw a (.exit 8) (cI b fun _ a=>cB a fun a b=>aA b (rn [.bool a])) (sw a .ret (cI b fun _ a=>cB a fun a b=>aA b (rr [.bool a])) (.fail))
noncomputable def T75k7 (A:Int):TK:=
 fun a b=>sw a .ret (cB b fun a b=>aA b (rr [nI A,.bool a])) (sw a .normal (cB b fun a b=>aA b (rn [(nI (aT (A+1))),.bool a])) (.fail))
noncomputable def T75b3 (A:Addr) (B:Int) (C:Option Addr) (D E:Nat):TB:=
 fun a=>cI a fun a b=>cB b fun b c=>aA c (lL (aadd A 1) fun c d _=>aF c fun c=>ix B d (lL (aadd (aadd c ((Int.toNat B)*2)) 1) fun _ c _=>bif (decide (a<(c:Int))) then (.join (lL (aadd A 1) fun c d _=>aF c fun c=>ix B d (lL (aadd (aadd c ((Int.toNat B)*2)) 1) fun c d _=>aF c fun c=>ix a d (lL (aadd (aadd c ((Int.toNat a)*2)) 1) fun a c _=>.loop [nI 0,.bool b] (T75b2 c a C D E) (T75k6)))) (T75k7 a)) else (re 6 [nI a,.bool b])))
noncomputable def T75k8:TK:=
 fun a b=>sw a (.exit 6) (cI b fun _ a=>cB a fun a b=>aA b (rn [.bool a])) (sw a .ret (cI b fun _ a=>cB a fun a b=>aA b (rr [.bool a])) (.fail))
noncomputable def T75k9 (A:Int):TK:=
 fun a b=>sw a .ret (cB b fun a b=>aA b (rr [nI A,.bool a])) (sw a .normal (cB b fun a b=>aA b (rn [(nI (aT (A+1))),.bool a])) (.fail))
noncomputable def T75b4 (A:Addr) (B:Option Addr) (C D:Nat):TB:=
 fun a=>cI a fun a b=>cB b fun b c=>aA c (lL (aadd A 1) fun _ c _=>bif (decide (a<(c:Int))) then (.join (.loop [nI 0,.bool b] (T75b3 A a B C D) (T75k8)) (T75k9 a)) else (re 4 [nI a,.bool b]))
noncomputable def T75k10:TK:=
 fun a b=>sw a (.exit 4) (cI b fun _ a=>cB a fun _ a=>aA a (rr [.bool true])) (sw a .ret (cI b fun _ a=>cB a fun a b=>aA b (rr [.bool a])) (.fail))
noncomputable def T75k11 (A:Option Addr) (B C:Nat) (D:Bool) (E:Addr):TK:=
 fun a b=>sw a .normal (cB b fun a b=>aA b (bif a then (rr [.bool false]) else (bL 1 3 [(.string (bs [105,110,116])),(.string (bs [98,111,111,108])),(.string (bs [117,110,105,116]))] fun a b c=>.act (apS 1 16 A B C a b c) fun a=>aN a fun a b c=>.loop [nI 0,.bool D] (T75b4 E a b c) (T75k10)))) (.fail)
noncomputable def T75k12 (A:Addr):TK:=
 fun a b=>sw a (.exit 0) (cI b fun _ a=>cL a fun a b c d=>cL d fun d f g h=>cB h fun h i=>aA i (.join (lL (aadd A 1) fun _ h _=>bif (decide ((h:Int)>20))==false then (qB 100 [.slice d f g] fun d=>bif d==false then (qB 100 [.slice a b c] fun a=>rn [.bool a]) else (rn [.bool true])) else (rn [.bool true])) (T75k11 d f g h A))) (sw a .ret (cI b fun _ a=>cL a fun _ _ _ a=>cL a fun _ _ _ a=>cB a fun a b=>aA b (rr [.bool a])) (.fail))
noncomputable def T75 (A:Option Addr) (B C:Nat) (D:Option Addr) (E F:Nat):Pg:=
 nw [.slice A B C,.slice D E F] fun a=>.loop [nI 0,.slice none 0 0,.slice none 0 0,.bool false] (T75b1 a) (T75k12 a)
theorem T75_eq (A:Option Addr) (B C:Nat) (D:Option Addr) (E F:Nat):aH aG false 75 [(.agg #[.slice A B C,.slice D E F])]=T75 A B C D E F:=by kernel_rfl
noncomputable def T76k0:TK:=
 fun a b=>sw a .normal (cB b fun a b=>aA b (bif a then (rr [(nI (-1))]) else (rn [nI 0]))) (.fail)
noncomputable def T76k1 (A:Int):TK:=
 fun a b=>sw a .normal (cI b fun a b=>aA b (bif (decide (a<0)) then (rr [nI a,(nI (-1))]) else (rn [nI a,nI A]))) (.fail)
noncomputable def T76k2 (A:Int):TK:=
 fun a b=>sw a .ret (cI b fun a b=>cI b fun b c=>aA c (rr [nI A,nI a,nI b])) (sw a .normal (cI b fun a b=>cI b fun b c=>aA c (rn [(nI (aT (A+1))),nI a,nI b])) (.fail))
noncomputable def T76b0 (A B:Addr) (C:Bool) (D:Int):TB:=
 fun a=>cI a fun a b=>cI b fun b c=>cI c fun c d=>aA d (lL (aadd A 4) fun _ d _=>bif (decide (a<(d:Int))) then (.join (lL (aadd A 4) fun d f _=>aF d fun d=>ix a f (lI (aadd d ((Int.toNat a)*1)) fun d=>bif (d !=b) then (rr [nI b,(nI (-1))]) else (.join (lA 2 B fun c=>cL c fun c d f g=>cL g fun g h i j=>aA j (bif C==false then (lI (aadd A 0) fun j=>bif (j==11)==true then (qI 76 [(.agg #[.slice c d f,.slice g h i]),nI b,(.bool ((Int.tmod a 2)==1)),(nI (aT (D+1)))] fun a=>rn [nI a]) else (qI 76 [(.agg #[.slice c d f,.slice g h i]),nI b,.bool false,(nI (aT (D+1)))] fun a=>rn [nI a])) else (qI 76 [(.agg #[.slice c d f,.slice g h i]),nI b,.bool true,(nI (aT (D+1)))] fun a=>rn [nI a]))) (T76k1 c)))) (T76k2 a)) else (re 0 [nI a,nI b,nI c]))
noncomputable def T76k3 (A:Int):TK:=
 fun a b=>sw a .ret (cI b fun a b=>aA b (rr [nI A,nI a])) (sw a .normal (cI b fun a b=>aA b (rn [(nI (aT (A+2))),nI a])) (.fail))
noncomputable def T76b1 (A B:Addr):TB:=
 fun a=>cI a fun a b=>cI b fun b c=>aA c (lL (aadd A 4) fun _ c _=>bif (decide (a<(c:Int))) then (.join (lA 2 B fun c=>cL c fun c d f g=>cL g fun g h i j=>aA j (lL (aadd A 4) fun j k _=>aF j fun j=>ix a k (lI (aadd j ((Int.toNat a)*1)) fun a=>qL 104 [(.agg #[.slice c d f,.slice g h i]),nI a] fun a c d=>qB 100 [.slice a c d] fun a=>bif a then (rr [(nI (-1))]) else (rn [nI b])))) (T76k3 a)) else (re 2 [nI a,nI b]))
noncomputable def T76k4:TK:=
 fun a b=>sw a (.exit 2) (cI b fun _ a=>cI a fun a b=>aA b (rn [nI a])) (sw a .ret (cI b fun _ a=>cI a fun a b=>aA b (rr [nI a])) (.fail))
noncomputable def T76k5 (A:Int):TK:=
 fun a b=>sw a .ret (cI b fun a b=>aA b (rr [nI a])) (sw a .normal (cI b fun _ a=>aA a (rr [nI A])) (.fail))
noncomputable def T76k6 (A B:Addr):TK:=
 fun a b=>sw a (.exit 0) (cI b fun _ a=>cI a fun a b=>cI b fun b c=>aA c (lI (aadd A 0) fun c=>.join (bif (c==11) then (.loop [nI 1,nI b] (T76b1 A B) (T76k4)) else (rn [nI b])) (T76k5 a))) (sw a .ret (cI b fun _ a=>cI a fun _ a=>cI a fun a b=>aA b (rr [nI a])) (.fail))
noncomputable def T76k7 (A:Int) (B C:Addr) (D:Bool) (E:Int):TK:=
 fun a b=>sw a .ret (cI b fun a b=>aA b (rr [nI a])) (sw a .normal (cI b fun a b=>aA b (.loop [nI 0,(nI (aT (A+1))),nI a] (T76b0 B C D E) (T76k6 B C))) (.fail))
noncomputable def T76k8 (A B:Addr) (C:Int) (D:Bool) (E:Int):TK:=
 fun a b=>sw a .normal (cB b fun a b=>aA b (.join (bif a then (lA 2 A fun a=>cL a fun a b c d=>cL d fun d f g h=>aA h (lS (aadd B 2) fun h=>qT 103 [(.agg #[.slice a b c,.slice d f g]),.string h] fun a=>cI a fun a b=>cI b fun b c=>cB c fun c d=>aA d (.join (bif (!c)==false then (lL (aadd A 1) fun c d _=>aF c fun c=>ix a d (lL (aadd (aadd c ((Int.toNat a)*2)) 1) fun a c _=>aF a fun a=>ix b c (lL (aadd (aadd a ((Int.toNat b)*2)) 1) fun _ a _=>lL (aadd B 4) fun _ b _=>rn [(.bool ((a:Int) !=(b:Int)))]))) else (rn [.bool true])) (T76k0)))) else (rn [nI 0])) (T76k7 C B A D E))) (.fail)
noncomputable def T76k9 (A B:Addr) (C:Int) (D:Bool) (E:Int):TK:=
 fun a b=>sw a .normal (cB b fun a b=>aA b (bif a then (rr [(nI (-1))]) else (.join (lI (aadd A 0) fun a=>bif (a==5)==false then (lI (aadd A 0) fun a=>rn [(.bool (a==26))]) else (rn [.bool true])) (T76k8 B A C D E)))) (.fail)
noncomputable def T76 (A:Option Addr) (B C:Nat) (D:Option Addr) (E F:Nat) (G:Int) (H:Bool) (I:Int):Pg:=
 nw [.slice A B C,.slice D E F] fun a=>lL (aadd a 0) fun _ b _=>bif ((decide (G≥(b:Int)))||(decide (I>60))) then (rr [(nI (-1))]) else (lL (aadd a 0) fun b c _=>aF b fun b=>ix G c (lA 7 (aadd b ((Int.toNat G)*7)) fun b=>cI b fun b c=>cI c fun c d=>cS d fun d f=>cS f fun f g=>cL g fun g h i j=>cI j fun j k=>cI k fun k l=>aA l (nw [nI 0,nI 0,(.string (bs [])),(.string (bs [])),.slice none 0 0,nI 0,nI 0] fun l=>sC l [nI b,nI c,.string d,.string f,.slice g h i,nI j,nI k] (.join (lA 7 l fun a=>cI a fun a b=>cI b fun b c=>cS c fun c d=>cS d fun d f=>cL f fun f g h i=>cI i fun i j=>cI j fun j k=>aA k (qB 102 [(.agg #[nI a,nI b,.string c,.string d,.slice f g h,nI i,nI j])] fun a=>bif (!a)==false then (lI (aadd l 0) fun a=>rn [(.bool (!((decide (a>20))==H)))]) else (rn [.bool true]))) (T76k9 l a G H I)))))
theorem T76_eq (A:Option Addr) (B C:Nat) (D:Option Addr) (E F:Nat) (G:Int) (H:Bool) (I:Int):aH aG false 76 [(.agg #[.slice A B C,.slice D E F]),(.int .i64 G),.bool H,(.int .i64 I)]=T76 A B C D E F G H I:=by kernel_rfl
noncomputable def T77k0:TK:=
 fun a b=>sw a .normal (cB b fun a b=>aA b (rr [.bool a])) (.fail)
noncomputable def T77 (A:ByteArray):Pg:=
 .join (bif (!(A.toList==(bs [95]).toList))==true then (qB 105 [.string A,nI 2] fun a=>rn [.bool a]) else (rn [.bool false])) (T77k0)
theorem T77_eq (A:ByteArray):aH aG false 77 [.string A]=T77 A:=by kernel_rfl
noncomputable def T78 (A:ByteArray):Pg:=
 rr [(.bool (((A.toList==(bs [105,110,116]).toList)||(A.toList==(bs [98,111,111,108]).toList))||(A.toList==(bs [117,110,105,116]).toList)))]
theorem T78_eq (A:ByteArray):aH aG false 78 [.string A]=T78 A:=by kernel_rfl
noncomputable def T79 (A:ByteArray):Pg:=
 qB 105 [.string A,nI 3] fun a=>rr [.bool a]
theorem T79_eq (A:ByteArray):aH aG false 79 [.string A]=T79 A:=by kernel_rfl
noncomputable def T80k0:TK:=
 fun a b=>sw a .normal (cB b fun a b=>aA b (rr [.bool a])) (.fail)
noncomputable def T80 (A:ByteArray) (B:Addr):Pg:=
 .join (qB 78 [.string A] fun a=>bif a==false then (lL B fun a b c=>qB 81 [.slice a b c,.string A] fun a=>rn [.bool a]) else (rn [.bool true])) (T80k0)
theorem T80_eq (A:ByteArray) (B:Addr):aH aG false 80 [.string A,(.pointer (some B))]=T80 A B:=by kernel_rfl
noncomputable def T81 (A:Option Addr) (B C:Nat) (D:ByteArray):Pg:=
 qI 106 [.slice A B C,.string D] fun a=>rr [(.bool (decide (a≥0)))]
theorem T81_eq (A:Option Addr) (B C:Nat) (D:ByteArray):aH aG false 81 [.slice A B C,.string D]=T81 A B C D:=by kernel_rfl
noncomputable def T82 (A:ByteArray) (B:Addr):Pg:=
 .act (ld1 B) fun a=>nV a fun a b c=>.call a (b++[.string A]++c) fun a=>eR a fun a=>rr [(.bool (!a))]
theorem T82_eq (A:ByteArray) (B:Addr):aH aG false 82 [.string A,(.pointer (some B))]=T82 A B:=by kernel_rfl
noncomputable def T83 (A:Option Addr) (B C:Nat) (D:Value):Pg:=
 qI 107 [.slice A B C,D] fun a=>rr [(.bool (decide (a≥0)))]
theorem T83_eq (A:Option Addr) (B C:Nat) (D:Value):aH aG false 83 [.slice A B C,D]=T83 A B C D:=by kernel_rfl
noncomputable def T84k0:TK:=
 fun a b=>sw a .normal (cB b fun a b=>aA b (rr [.bool a])) (.fail)
noncomputable def T84k1 (A B:Addr):TK:=
 fun a b=>sw a .normal (cB b fun a b=>aA b (bif a then (rr [.bool true]) else (lA 2 A fun a=>cL a fun a b c d=>cL d fun d f g h=>aA h (lS (aadd B 2) fun h=>qT 111 [(.agg #[.slice a b c,.slice d f g]),.string h] fun a=>cI a fun a b=>cI b fun b c=>cB c fun c d=>aA d (.join (bif c==true then (lL (aadd A 1) fun c d _=>aF c fun c=>ix a d (lL (aadd (aadd c ((Int.toNat a)*2)) 1) fun a c _=>aF a fun a=>ix b c (lL (aadd (aadd a ((Int.toNat b)*2)) 1) fun _ a _=>lL (aadd B 4) fun _ b _=>rn [(.bool ((a:Int)==(b:Int)))]))) else (rn [.bool false])) (T84k0)))))) (.fail)
noncomputable def T84k2 (A B:Addr):TK:=
 fun a b=>sw a .normal (cB b fun a b=>aA b (bif a then (rr [.bool false]) else (.join (lI (aadd A 0) fun a=>bif (a !=5)==true then (lI (aadd A 0) fun a=>rn [(.bool (a !=26))]) else (rn [.bool false])) (T84k1 B A)))) (.fail)
noncomputable def T84k3 (A B:Addr):TK:=
 fun a b=>sw a .normal (cB b fun a b=>aA b (bif a then (rr [.bool false]) else (lI (aadd A 0) fun a=>qT 110 [nI a] fun a=>cI a fun a b=>cI b fun b c=>aA c (.join (lL (aadd A 4) fun _ c _=>bif (decide ((c:Int)<a))==false then (lL (aadd A 4) fun _ a _=>bif (decide ((a:Int)>b))==false then (lI (aadd A 0) fun a=>bif (a==11)==true then (lL (aadd A 4) fun _ a _=>qB 85 [(nI (a:Int))] fun a=>rn [(.bool (!a))]) else (rn [.bool false])) else (rn [.bool true])) else (rn [.bool true])) (T84k2 A B))))) (.fail)
noncomputable def T84 (A:Option Addr) (B C:Nat) (D:Option Addr) (E F:Nat) (G H:Int) (I J:ByteArray) (K:Option Addr) (L M:Nat) (N O:Int):Pg:=
 nw [.slice A B C,.slice D E F] fun a=>nw [nI G,nI H,.string I,.string J,.slice K L M,nI N,nI O] fun b=>.join (lI (aadd b 0) fun a=>bif (decide (a<1))==false then (lI (aadd b 0) fun a=>bif (decide (a>26))==false then (lA 7 b fun a=>cI a fun a c=>cI c fun c d=>cS d fun d f=>cS f fun f g=>cL g fun g h i j=>cI j fun j k=>cI k fun k l=>aA l (qB 108 [(.agg #[nI a,nI c,.string d,.string f,.slice g h i,nI j,nI k])] fun a=>bif (!a)==false then (lA 7 b fun a=>cI a fun a b=>cI b fun b c=>cS c fun c d=>cS d fun d f=>cL f fun f g h i=>cI i fun i j=>cI j fun j k=>aA k (qB 109 [(.agg #[nI a,nI b,.string c,.string d,.slice f g h,nI i,nI j])] fun a=>rn [(.bool (!a))])) else (rn [.bool true]))) else (rn [.bool true])) else (rn [.bool true])) (T84k3 b a)
theorem T84_eq (A:Option Addr) (B C:Nat) (D:Option Addr) (E F:Nat) (G H:Int) (I J:ByteArray) (K:Option Addr) (L M:Nat) (N O:Int):aH aG false 84 [(.agg #[.slice A B C,.slice D E F]),(.agg #[(.int .i64 G),(.int .i64 H),.string I,.string J,.slice K L M,(.int .i64 N),(.int .i64 O)])]=T84 A B C D E F G H I J K L M N O:=by kernel_rfl
noncomputable def T85 (A:Int):Pg:=
 rr [(.bool ((Int.tmod A 2)==1))]
theorem T85_eq (A:Int):aH aG false 85 [(.int .i64 A)]=T85 A:=by kernel_rfl
noncomputable def T87k0:TK:=
 fun a b=>sw a .normal (cB b fun a b=>aM b fun b c=>aK b fun b=>aA c (rr [.bool a,.pointer b])) (.fail)
noncomputable def T87k1:TK:=
 fun a b=>sw a .normal (cB b fun a b=>aM b fun b c=>aK b fun b=>aA c (rr [.bool a,.pointer b])) (.fail)
noncomputable def T87k2 (A:Int):TK:=
 fun a b=>sw a .ret (cB b fun a b=>aM b fun b c=>aK b fun b=>aM c fun c d=>aK c fun c=>aA d (rr [nI A,.bool a,.pointer b,.pointer c])) (sw a .normal (cB b fun a b=>aM b fun b c=>aK b fun b=>aM c fun c d=>aK c fun c=>aA d (rn [(nI (aT (A+1))),.bool a,.pointer b,.pointer c])) (.fail))
noncomputable def T87b0 (A:Nat) (B:Option Addr) (C:Addr) (D:Option Addr):TB:=
 fun a=>cI a fun a b=>cB b fun b c=>aM c fun c d=>aK c fun c=>aM d fun d f=>aK d fun d=>aA f (bif (decide (a<(A:Int))) then (.join (aF B fun f=>ix a A (lI (aadd f ((Int.toNat a)*1)) fun f=>lL (aadd C 3) fun g h _=>aF g fun g=>ix a h (lA 7 (aadd g ((Int.toNat a)*7)) fun a=>cI a fun a g=>cI g fun g h=>cS h fun h i=>cL i fun i j k l=>cI l fun l m=>aM m fun m n=>aK m fun m=>cI n fun n o=>aA o (qT 87 [.pointer D,nI f,(.agg #[nI a,nI g,.string h,.slice i j k,nI l,.pointer m,nI n]),.pointer d] fun a=>aM a fun a d=>aK a fun a=>cB d fun d f=>aA f (bif (!d) then (rr [.bool false,.pointer a,.pointer a]) else (rn [.bool b,.pointer c,.pointer a])))))) (T87k2 a)) else (re 1 [nI a,.bool b,.pointer c,.pointer d]))
noncomputable def T87k3:TK:=
 fun a b=>sw a (.exit 1) (cI b fun _ a=>cB a fun _ a=>aM a fun a b=>aK a fun _=>aM b fun a b=>aK a fun a=>aA b (rr [(.tuple #[.pointer a,.bool true])])) (sw a .ret (cI b fun _ a=>cB a fun a b=>aM b fun b c=>aK b fun b=>aM c fun c d=>aK c fun _=>aA d (rr [(.tuple #[.pointer b,.bool a])])) (.fail))
noncomputable def T87k4 (A:Option Addr) (B:Addr) (C:Bool) (D:Option Addr) (E:Addr) (F:Option Addr):TK:=
 fun a b=>sw a .normal (cB b fun a b=>aA b (bif a then (rr [(.tuple #[.pointer A,.bool false])]) else (lL (aadd B 4) fun a b _=>.loop [nI 0,.bool C,.pointer D,.pointer A] (T87b0 b a E F) (T87k3)))) (.fail)
noncomputable def T87k5 (A B:Addr) (C D:Option Addr):TK:=
 fun a b=>sw a .ret (cB b fun a b=>aM b fun b c=>aK b fun b=>aA c (rr [(.tuple #[.pointer b,.bool a])])) (sw a .normal (cB b fun a b=>aM b fun b c=>aK b fun b=>aA c (.join (lI (aadd A 0) fun a=>bif (a !=4)==false then (lS (aadd A 2) fun a=>lS (aadd B 2) fun b=>bif (!(a.toList==b.toList))==false then (lL (aadd A 3) fun _ a _=>lL (aadd B 4) fun _ b _=>rn [(.bool ((a:Int) !=(b:Int)))]) else (rn [.bool true])) else (rn [.bool true])) (T87k4 C B a b A D))) (.fail))
noncomputable def T87 (A:Option Addr) (B C D:Int) (E:ByteArray) (F:Option Addr) (G H:Nat) (I:Int) (J:Option Addr) (K:Int) (L:Option Addr):Pg:=
 nw [nI C,nI D,.string E,.slice F G H,nI I,.pointer J,nI K] fun a=>aF A fun b=>lL (aadd (aadd b 0) 0) fun b c _=>aF b fun b=>ix B c (lA 7 (aadd b ((Int.toNat B)*7)) fun b=>cI b fun b c=>cI c fun c d=>cS d fun d f=>cS f fun f g=>cL g fun g h i j=>cI j fun j k=>cI k fun k l=>aA l (nw [nI 0,nI 0,(.string (bs [])),(.string (bs [])),.slice none 0 0,nI 0,nI 0] fun l=>sC l [nI b,nI c,.string d,.string f,.slice g h i,nI j,nI k] (lI (aadd l 0) fun b=>.join (bif (b==21) then (rr [.bool true,.pointer L]) else (bif (b==22) then (lS (aadd l 2) fun b=>lA 7 a fun a=>cI a fun a c=>cI c fun c d=>cS d fun d f=>cL f fun f g h i=>cI i fun i j=>aM j fun j k=>aK j fun j=>cI k fun k l=>aA l (nw [.string b,nI a,nI c,.string d,.slice f g h,nI i,.pointer j,nI k,.pointer L] fun a=>rr [.bool true,(.pointer (some a))])) else (bif (b==23) then (.join (lI (aadd a 0) fun b=>bif (b==1)==true then (lI (aadd a 1) fun a=>lI (aadd l 1) fun b=>rn [(.bool (a==b)),.pointer L]) else (rn [.bool false,.pointer L])) (T87k0)) else (bif (b==24) then (.join (lI (aadd a 0) fun b=>bif (b==2)==true then (lI (aadd a 1) fun a=>lI (aadd l 1) fun b=>rn [(.bool (a==b)),.pointer L]) else (rn [.bool false,.pointer L])) (T87k1)) else (bif (b==25) then (lI (aadd a 0) fun a=>rr [(.bool (a==3)),.pointer L]) else (rn [.bool false,.pointer none])))))) (T87k5 a l L A))))
theorem T87_eq (A:Option Addr) (B C D:Int) (E:ByteArray) (F:Option Addr) (G H:Nat) (I:Int) (J:Option Addr) (K:Int) (L:Option Addr):aH aG false 87 [(.pointer A),(.int .i64 B),(.agg #[(.int .i64 C),(.int .i64 D),.string E,.slice F G H,(.int .i64 I),(.pointer J),(.int .i64 K)]),(.pointer L)]=T87 A B C D E F G H I J K L:=by kernel_rfl
noncomputable def T88k0 (A:Addr) (B:Option Addr) (C:Int) (D E:Addr) (F:Option Addr):TK:=
 fun a b=>sw a .normal (cI b fun a b=>aA b (lI (aadd A 4) fun b=>aF B fun c=>.act (ld1 (aadd c 22)) fun c=>aK c fun c=>nw [nI C,nI b,.pointer c,nI a] fun a=>aF B fun b=>sC (aadd b 22) [(.pointer (some a))] (.act (ld1 (aadd D 4)) fun a=>aN a fun b c _=>aF b fun b=>grd (decide (0<(c:Int))) (.act (ld1 (aadd b 0)) fun c=>asInt .i64 c fun d=>lS (aadd D 3) fun f=>lA 7 E fun g=>cI g fun g h=>cI h fun h i=>cS i fun i j=>cL j fun j k l m=>cI m fun m n=>aM n fun n o=>aK n fun n=>cI o fun o p=>aA p (nw [.string f,nI g,nI h,.string i,.slice j k l,nI m,.pointer n,nI o,.pointer F] fun f=>.get fun g=>grd (chks [((ld1 (aadd b 0)),c),((ld1 (aadd D 4)),a)] g) (qT 57 [.pointer B,nI d,(.pointer (some f))] fun a=>aA a (rr [(.tuple #[])]))))))) (.fail)
noncomputable def T88k1 (A:Option Addr) (B:Addr) (C:Int) (D E:Addr):TK:=
 fun a b=>sw a .normal (aM b fun a b=>aK a fun a=>aA b (aF A fun b=>.act (ld1 (aadd b 22)) fun b=>aK b fun b=>aF A fun c=>.act (ld1 (aadd c 21)) fun c=>aK c fun c=>nw [(nI (-1)),.pointer none,.slice none 0 0,.pointer b,.pointer c] fun b=>aF A fun c=>sC (aadd c 21) [(.pointer (some b))] (aF A fun b=>.act (ld1 (aadd b 22)) fun b=>aK b fun b=>.join (bif (!(Option.isNone b)) then (aF A fun a=>.act (ld1 (aadd a 22)) fun a=>aK a fun a=>aF a fun a=>lI (aadd a 3) fun a=>rn [(nI (aT (a+1)))]) else (rn [nI 1])) (T88k0 B A C D E a)))) (.fail)
noncomputable def T88 (A:Option Addr) (B C D:Int) (E:ByteArray) (F:Option Addr) (G H:Nat) (I:Int) (J:Option Addr) (K L M:Int) (N:ByteArray) (O:Option Addr) (Q R:Nat) (S:Int) (U:Option Addr) (V:Int):Pg:=
 nw [nI C,nI D,.string E,.slice F G H,nI I,.pointer J,nI K] fun a=>nw [nI L,nI M,.string N,.slice O Q R,nI S,.pointer U,nI V] fun b=>lI (aadd a 0) fun c=>bif (c !=5) then (qT 64 [.pointer A] fun a=>aA a (rr [(.tuple #[])])) else (aF A fun c=>.act (ld1 (aadd (aadd c 0) 0)) fun d=>aN d fun f g _=>.act (ld1 (aadd a 4)) fun h=>asInt .i64 h fun i=>aF f fun f=>ix i g (.act (ldN 7 (aadd f ((Int.toNat i)*7))) fun g=>asAgg g fun j=>cI j fun j k=>cI k fun k l=>cS l fun l m=>cS m fun m n=>cL n fun n o p q=>cI q fun q r=>cI r fun r s=>aA s (nw [nI 0,nI 0,(.string (bs [])),(.string (bs [])),.slice none 0 0,nI 0,nI 0] fun s=>.get fun t=>grd (chks [((ldN 7 (aadd f ((Int.toNat i)*7))),g),((ld1 (aadd a 4)),h),((ld1 (aadd (aadd c 0) 0)),d)] t) (sC s [nI j,nI k,.string l,.string m,.slice n o p,nI q,nI r] (.act (ld1 (aadd a 5)) fun c=>aK c fun c=>lI (aadd s 0) fun d=>.join (bif (d==9) then (lS (aadd s 2) fun b=>lA 7 a fun a=>cI a fun a d=>cI d fun d f=>cS f fun f g=>cL g fun g h i j=>cI j fun j k=>aM k fun k l=>aK k fun k=>cI l fun l m=>aA m (nw [.string b,nI a,nI d,.string f,.slice g h i,nI j,.pointer k,nI l,.pointer c] fun a=>rn [(.pointer (some a))])) else (rn [.pointer c])) (T88k1 A a B s b))))))
theorem T88_eq (A:Option Addr) (B C D:Int) (E:ByteArray) (F:Option Addr) (G H:Nat) (I:Int) (J:Option Addr) (K L M:Int) (N:ByteArray) (O:Option Addr) (Q R:Nat) (S:Int) (U:Option Addr) (V:Int):aH aG false 88 [(.pointer A),(.int .i64 B),(.agg #[(.int .i64 C),(.int .i64 D),.string E,.slice F G H,(.int .i64 I),(.pointer J),(.int .i64 K)]),(.agg #[(.int .i64 L),(.int .i64 M),.string N,.slice O Q R,(.int .i64 S),(.pointer U),(.int .i64 V)])]=T88 A B C D E F G H I J K L M N O Q R S U V:=by kernel_rfl
noncomputable def T89k0 (A:Addr):TK:=
 fun a b=>sw a .ret (cB b fun a b=>aA b (.act (ldN 7 A) fun b=>rr [(.tuple #[b,.bool a])])) (sw a .normal (cB b fun _ a=>aA a (sC A [nI 0,nI 0,(.string (bs [])),.slice none 0 0,nI 0,.pointer none,nI 0] (.act (ldN 7 A) fun a=>rr [(.tuple #[a,.bool false])]))) (.fail))
noncomputable def T89 (A:ByteArray) (B C:Int):Pg:=
 nw [nI 0,nI 0,(.string (bs [])),.slice none 0 0,nI 0,.pointer none,nI 0] fun a=>.join (bif (A.toList==(bs [43]).toList) then (qA 61 [(nI (aT (B+C)))] fun b=>cI b fun b c=>cI c fun c d=>cS d fun d f=>cL f fun f g h i=>cI i fun i j=>aM j fun j k=>aK j fun j=>cI k fun k l=>aA l (sC a [nI b,nI c,.string d,.slice f g h,nI i,.pointer j,nI k] (rr [.bool true]))) else (bif (A.toList==(bs [45]).toList) then (qA 61 [(nI (aT (B - C)))] fun b=>cI b fun b c=>cI c fun c d=>cS d fun d f=>cL f fun f g h i=>cI i fun i j=>aM j fun j k=>aK j fun j=>cI k fun k l=>aA l (sC a [nI b,nI c,.string d,.slice f g h,nI i,.pointer j,nI k] (rr [.bool true]))) else (bif (A.toList==(bs [42]).toList) then (qA 61 [(nI (aT (B*C)))] fun b=>cI b fun b c=>cI c fun c d=>cS d fun d f=>cL f fun f g h i=>cI i fun i j=>aM j fun j k=>aK j fun j=>cI k fun k l=>aA l (sC a [nI b,nI c,.string d,.slice f g h,nI i,.pointer j,nI k] (rr [.bool true]))) else (bif (A.toList==(bs [60]).toList) then (qA 114 [(.bool (decide (B<C)))] fun b=>cI b fun b c=>cI c fun c d=>cS d fun d f=>cL f fun f g h i=>cI i fun i j=>aM j fun j k=>aK j fun j=>cI k fun k l=>aA l (sC a [nI b,nI c,.string d,.slice f g h,nI i,.pointer j,nI k] (rr [.bool true]))) else (bif (A.toList==(bs [61]).toList) then (qA 114 [(.bool (B==C))] fun b=>cI b fun b c=>cI c fun c d=>cS d fun d f=>cL f fun f g h i=>cI i fun i j=>aM j fun j k=>aK j fun j=>cI k fun k l=>aA l (sC a [nI b,nI c,.string d,.slice f g h,nI i,.pointer j,nI k] (rr [.bool true]))) else (rn [.bool false])))))) (T89k0 a)
theorem T89_eq (A:ByteArray) (B C:Int):aH aG false 89 [.string A,(.int .i64 B),(.int .i64 C)]=T89 A B C:=by kernel_rfl
noncomputable def T90k0 (A B:Option Addr) (C:Addr):TK:=
 fun a b=>sw a .normal (cB b fun a b=>aA b (bif a then (aF A fun a=>.act (ld1 (aadd (aadd a 0) 0)) fun b=>aN b fun c d _=>aF B fun f=>.act (ld1 (aadd f 0)) fun g=>asInt .i64 g fun h=>aF c fun c=>ix h d (.act (ldN 7 (aadd c ((Int.toNat h)*7))) fun d=>asAgg d fun i=>cI i fun i j=>cI j fun j k=>cS k fun k l=>cS l fun l m=>cL m fun m n o p=>cI p fun p q=>cI q fun q r=>aA r (nw [nI 0,nI 0,(.string (bs [])),(.string (bs [])),.slice none 0 0,nI 0,nI 0] fun r=>.get fun s=>grd (chks [((ldN 7 (aadd c ((Int.toNat h)*7))),d),((ld1 (aadd f 0)),g),((ld1 (aadd (aadd a 0) 0)),b)] s) (sC r [nI i,nI j,.string k,.string l,.slice m n o,nI p,nI q] (aF B fun a=>.act (ld1 (aadd a 4)) fun a=>aK a fun a=>aF B fun b=>.act (ld1 (aadd b 3)) fun b=>aK b fun b=>aF A fun c=>sC (aadd c 21) [.pointer a] (aF A fun a=>sC (aadd a 22) [.pointer b] (.act (ld1 (aadd r 4)) fun a=>aN a fun b c _=>aF b fun b=>grd (decide (1<(c:Int))) (.act (ld1 (aadd b 1)) fun c=>asInt .i64 c fun d=>lS (aadd r 3) fun f=>lA 7 C fun g=>cI g fun g h=>cI h fun h i=>cS i fun i j=>cL j fun j k l m=>cI m fun m n=>aM n fun n o=>aK n fun n=>cI o fun o p=>aA p (aF B fun p=>.act (ld1 (aadd p 1)) fun p=>aK p fun p=>nw [.string f,nI g,nI h,.string i,.slice j k l,nI m,.pointer n,nI o,.pointer p] fun f=>.get fun g=>grd (chks [((ld1 (aadd b 1)),c),((ld1 (aadd r 4)),a)] g) (qT 57 [.pointer A,nI d,(.pointer (some f))] fun a=>aA a (rr []))))))))))) else (rn []))) (.fail)
noncomputable def T90k1 (A:Option Addr):TK:=
 fun a b=>sw a .ret (aA b (rr [])) (sw a .normal (aA b (aF A fun a=>.act (ld1 (aadd a 21)) fun a=>aK a fun a=>aF a fun a=>.act (ld1 (aadd a 4)) fun a=>aK a fun a=>aF A fun b=>sC (aadd b 21) [.pointer a] (rn []))) (.fail))
noncomputable def T90b0 (A:Option Addr) (B:Addr):TB:=
 fun a=>aA a (aF A fun a=>.act (ld1 (aadd a 21)) fun a=>aK a fun a=>bif (!(Option.isNone a)) then (.join (aF A fun a=>.act (ld1 (aadd a 21)) fun a=>aK a fun a=>.join (aF a fun b=>lI (aadd b 0) fun b=>bif (decide (b≥0))==true then (aF A fun b=>lL (aadd (aadd b 0) 0) fun b c _=>aF a fun a=>lI (aadd a 0) fun a=>aF b fun b=>ix a c (lI (aadd (aadd b ((Int.toNat a)*7)) 0) fun a=>rn [(.bool (a==20))])) else (rn [.bool false])) (T90k0 A a B)) (T90k1 A)) else (re 0 []))
noncomputable def T90k2 (A:Addr) (B:Option Addr):TK:=
 fun a b=>sw a (.exit 0) (aA b (.act (ld1 (aadd A 1)) fun a=>asInt .i64 a fun b=>aF B fun c=>sC (aadd c 9) [nI 2] (.get fun c=>grd (chks [((ld1 (aadd A 1)),a)] c) (aF B fun a=>sC (aadd a 10) [nI b] (rr [(.tuple #[])]))))) (sw a .ret (aA b (rr [(.tuple #[])])) (.fail))
noncomputable def T90 (A:Option Addr) (B C:Int) (D:ByteArray) (E:Option Addr) (F G:Nat) (H:Int) (I:Option Addr) (J:Int):Pg:=
 nw [nI B,nI C,.string D,.slice E F G,nI H,.pointer I,nI J] fun a=>lI (aadd a 0) fun b=>bif (b !=1) then (qT 64 [.pointer A] fun a=>aA a (rr [(.tuple #[])])) else (.loop [] (T90b0 A a) (T90k2 a A))
theorem T90_eq (A:Option Addr) (B C:Int) (D:ByteArray) (E:Option Addr) (F G:Nat) (H:Int) (I:Option Addr) (J:Int):aH aG false 90 [(.pointer A),(.agg #[(.int .i64 B),(.int .i64 C),.string D,.slice E F G,(.int .i64 H),(.pointer I),(.int .i64 J)])]=T90 A B C D E F G H I J:=by kernel_rfl
noncomputable def T91 (A:Option Addr) (B C:Int) (D E:ByteArray) (F:Option Addr) (G H:Nat) (I J:Int) (K:Option Addr) (L M:Nat):Pg:=
 nw [nI B,nI C,.string D,.string E,.slice F G H,nI I,nI J] fun a=>lI (aadd a 0) fun b=>bif (b==15) then (aF A fun a=>.act (ld1 (aadd a 6)) fun b=>aN b fun c d f=>aF A fun g=>lL (aadd g 5) fun _ g _=>aF K fun h=>grd (decide (0<(L:Int))) (lA 7 (aadd h 0) fun h=>cI h fun h i=>cI i fun i j=>cS j fun j k=>cL k fun k l m n=>cI n fun n o=>aM o fun o p=>aK o fun o=>cI p fun p q=>aA q (bL 8 1 [(nI (g:Int)),nI h,nI i,.string j,.slice k l m,nI n,.pointer o,nI p] fun g h i=>.get fun j=>grd (chks [((ld1 (aadd a 6)),b)] j) (.act (apS 8 88 c d f g h i) fun a=>aN a fun a b c=>aF A fun d=>sC (aadd d 6) [.slice a b c] (.get fun a=>.join (aF A fun b=>lL (aadd b 5) fun c d f=>aF K fun g=>grd (decide (0<(L:Int))) (lA 7 (aadd g 0) fun h=>cI h fun h i=>cI i fun i j=>cS j fun j k=>cL k fun k l m n=>cI n fun n o=>aM o fun o p=>aK o fun o=>cI p fun p q=>aA q (.get fun q=>grd (qv a.n q []) (bL 7 1 [nI 0,nI 0,(.string (bs [])),.slice none 0 0,nI 0,.pointer none,nI 0] fun a q r=>.get fun _=>.act (apS 7 80 c d f a q r) fun s=>aN s fun s t u=>aF s fun v=>grd (decide ((d:Int)<(t:Int))) (aF A fun w=>sC (aadd w 5) [.slice s t u] (sC (aadd v (d*7)) [nI h,nI i,.string j,.slice k l m,nI n,.pointer o,nI p] (rn [(.pointer (some (aadd w 5))),(.pointer (some w)),(.pointer (some (aadd v (d*7)))),.slice s t u,.slice a q r,(nI (d:Int)),(.agg #[nI h,nI i,.string j,.slice k l m,nI n,.pointer o,nI p]),(.pointer (some (aadd g 0))),.slice K L M,.slice c d f,(.pointer (some (aadd b 5))),(.pointer (some b)),.pointer A]))))))) fun _ b=>.get fun c=>.act (fun _=>some (.tuple #[],a)) fun _=>aF A fun d=>lL (aadd d 5) fun f g h=>aF K fun i=>grd (decide (0<(L:Int))) (lA 7 (aadd i 0) fun j=>cI j fun j k=>cI k fun k l=>cS l fun l m=>cL m fun m n o p=>cI p fun p q=>aM q fun q r=>aK q fun q=>cI r fun r s=>aA s (.get fun s=>grd (qv a.n s []) (bL 7 1 [nI 0,nI 0,(.string (bs [])),.slice none 0 0,nI 0,.pointer none,nI 0] fun a s t=>.get fun _=>.act (apS 7 80 f g h a s t) fun u=>aN u fun u v w=>aF u fun x=>grd (decide ((g:Int)<(v:Int))) (sC (aadd x (g*7)) [nI j,nI k,.string l,.slice m n o,nI p,.pointer q,nI r] (aF A fun y=>sC (aadd y 5) [.slice u v w] (.get fun z=>grd (oT z c&&eqvs [(.pointer (some (aadd y 5))),(.pointer (some y)),(.pointer (some (aadd x (g*7)))),.slice u v w,.slice a s t,(nI (g:Int)),(.agg #[nI j,nI k,.string l,.slice m n o,nI p,.pointer q,nI r]),(.pointer (some (aadd i 0))),.slice K L M,.slice f g h,(.pointer (some (aadd d 5))),(.pointer (some d)),.pointer A] b) (aF A fun a=>lL (aadd a 5) fun _ a _=>qT 56 [.pointer A,(.agg #[nI 6,nI 0,(.string (bs [])),.slice none 0 0,nI 0,.pointer none,(nI (aT ((a:Int) - 1)))])] fun a=>aA a (rr [(.tuple #[])]))))))))))))) else (aF K fun b=>grd (decide (0<(L:Int))) (lA 7 (aadd b 0) fun b=>cI b fun b c=>cI c fun c d=>cS d fun d f=>cL f fun f g h i=>cI i fun i j=>aM j fun j k=>aK j fun j=>cI k fun k l=>aA l (nw [nI 0,nI 0,(.string (bs [])),.slice none 0 0,nI 0,.pointer none,nI 0] fun l=>sC l [nI b,nI c,.string d,.slice f g h,nI i,.pointer j,nI k] (lI (aadd l 0) fun b=>bif (b !=6) then (qT 64 [.pointer A] fun a=>aA a (rr [(.tuple #[])])) else (lI (aadd a 0) fun a=>bif (a==16) then (aF A fun a=>lL (aadd a 5) fun a b _=>lI (aadd l 6) fun c=>aF a fun a=>ix c b (lA 7 (aadd a ((Int.toNat c)*7)) fun a=>cI a fun a b=>cI b fun b c=>cS c fun c d=>cL d fun d f g h=>cI h fun h i=>aM i fun i j=>aK i fun i=>cI j fun j k=>aA k (qT 56 [.pointer A,(.agg #[nI a,nI b,.string c,.slice d f g,nI h,.pointer i,nI j])] fun a=>aA a (rr [(.tuple #[])])))) else (aF A fun a=>.act (ld1 (aadd a 6)) fun b=>aN b fun c d f=>lI (aadd l 6) fun g=>aF K fun h=>grd (decide (1<(L:Int))) (lA 7 (aadd h 7) fun h=>cI h fun h i=>cI i fun i j=>cS j fun j k=>cL k fun k m n o=>cI o fun o p=>aM p fun p q=>aK p fun p=>cI q fun q r=>aA r (bL 8 1 [nI g,nI h,nI i,.string j,.slice k m n,nI o,.pointer p,nI q] fun g h i=>.get fun j=>grd (chks [((ld1 (aadd a 6)),b)] j) (.act (apS 8 88 c d f g h i) fun a=>aN a fun a b c=>aF A fun d=>sC (aadd d 6) [.slice a b c] (aF A fun a=>lL (aadd a 5) fun a b _=>lI (aadd l 6) fun c=>aF K fun d=>grd (decide (1<(L:Int))) (lA 7 (aadd d 7) fun d=>cI d fun d f=>cI f fun f g=>cS g fun g h=>cL h fun h i j k=>cI k fun k l=>aM l fun l m=>aK l fun l=>cI m fun m n=>aA n (aF a fun a=>ix c b (sC (aadd a ((Int.toNat c)*7)) [nI d,nI f,.string g,.slice h i j,nI k,.pointer l,nI m] (qA 62 [] fun a=>cI a fun a b=>cI b fun b c=>cS c fun c d=>cL d fun d f g h=>cI h fun h i=>aM i fun i j=>aK i fun i=>cI j fun j k=>aA k (qT 56 [.pointer A,(.agg #[nI a,nI b,.string c,.slice d f g,nI h,.pointer i,nI j])] fun a=>aA a (rr [(.tuple #[])]))))))))))))))))
theorem T91_eq (A:Option Addr) (B C:Int) (D E:ByteArray) (F:Option Addr) (G H:Nat) (I J:Int) (K:Option Addr) (L M:Nat):aH aG false 91 [(.pointer A),(.agg #[(.int .i64 B),(.int .i64 C),.string D,.string E,.slice F G H,(.int .i64 I),(.int .i64 J)]),.slice K L M]=T91 A B C D E F G H I J K L M:=by kernel_rfl
noncomputable def T93k0:TK:=
 fun a b=>sw a .ret (cI b fun a b=>aA b (rr [nI a])) (sw a .normal (cI b fun a b=>aA b (rn [nI a])) (.fail))
noncomputable def T93b0 (A:Addr):TB:=
 fun a=>cI a fun a b=>aA b (.act (nxt (some A)) fun b=>asNx b (fun b c=>.join (qI 67 [.int .i32 c] fun c=>bif ((c !=1)&&(c !=2)) then (rr [nI b]) else (rn [nI a])) (T93k0)) (re 0 [nI a]))
noncomputable def T93k1 (A:ByteArray):TK:=
 fun a b=>sw a (.exit 0) (cI b fun _ a=>aA a (rr [(nI ((A.size:Nat):Int))])) (sw a .ret (cI b fun a b=>aA b (rr [nI a])) (.fail))
noncomputable def T93 (A:ByteArray):Pg:=
 .act (rng A) fun a=>aK a fun a=>aF a fun a=>.loop [nI 0] (T93b0 a) (T93k1 A)
theorem T93_eq (A:ByteArray):aH aG false 93 [.string A]=T93 A:=by kernel_rfl
noncomputable def T95k0 (A:Int):TK:=
 fun a b=>sw a .ret (cB b fun a b=>aA b (rr [nI A,.bool a])) (sw a .normal (cB b fun a b=>aA b (rn [(nI (aT (A+1))),.bool a])) (.fail))
noncomputable def T95b0 (A:Nat) (B:Option Addr) (C:ByteArray):TB:=
 fun a=>cI a fun a b=>cB b fun b c=>aA c (bif (decide (a<(A:Int))) then (.join (aF B fun c=>ix a A (lS (aadd c ((Int.toNat a)*1)) fun a=>bif (a.toList==C.toList) then (rr [.bool true]) else (rn [.bool b]))) (T95k0 a)) else (re 0 [nI a,.bool b]))
noncomputable def T95k1:TK:=
 fun a b=>sw a (.exit 0) (cI b fun _ a=>cB a fun _ a=>aA a (rr [.bool false])) (sw a .ret (cI b fun _ a=>cB a fun a b=>aA b (rr [.bool a])) (.fail))
noncomputable def T95 (A:ByteArray):Pg:=
 bL 1 19 [(.string (bs [116,121,112,101])),(.string (bs [111,102])),(.string (bs [108,101,116])),(.string (bs [114,101,99])),(.string (bs [105,110])),(.string (bs [102,117,110])),(.string (bs [105,102])),(.string (bs [116,104,101,110])),(.string (bs [101,108,115,101])),(.string (bs [109,97,116,99,104])),(.string (bs [119,105,116,104])),(.string (bs [101,110,100])),(.string (bs [114,101,102])),(.string (bs [112,114,105,110,116])),(.string (bs [114,101,97,100])),(.string (bs [114,97,105,115,101])),(.string (bs [116,114,121])),(.string (bs [116,114,117,101])),(.string (bs [102,97,108,115,101]))] fun a b _=>.loop [nI 0,.bool false] (T95b0 b a A) (T95k1)
theorem T95_eq (A:ByteArray):aH aG false 95 [.string A]=T95 A:=by kernel_rfl
noncomputable def T96k0:TK:=
 fun a b=>sw a .normal (cB b fun a b=>aA b (rr [.bool a])) (.fail)
noncomputable def T96 (A:Option Addr) (B:ByteArray):Pg:=
 qA 44 [.pointer A] fun a=>cI a fun a b=>cS b fun b c=>cI c fun c d=>cI d fun d f=>aA f (nw [nI 0,(.string (bs [])),nI 0,nI 0] fun f=>sC f [nI a,.string b,nI c,nI d] (.join (aF A fun a=>lB (aadd a 3) fun a=>bif (!a)==true then (lI (aadd f 0) fun a=>bif (decide (a>3))==true then (lS (aadd f 1) fun a=>rn [(.bool (a.toList==B.toList))]) else (rn [.bool false])) else (rn [.bool false])) (T96k0)))
theorem T96_eq (A:Option Addr) (B:ByteArray):aH aG false 96 [(.pointer A),.string B]=T96 A B:=by kernel_rfl
noncomputable def T97 (A:Option Addr):Pg:=
 .call 116 [.pointer A] fun a=>aK a fun a=>qB 70 [.pointer A,(.string (bs [60]))] fun b=>bif b then (.call 116 [.pointer A] fun b=>aK b fun b=>.call 74 [nI 14,(.string (bs [60])),.pointer a,.pointer b] fun a=>aK a fun a=>rr [.pointer a]) else (qB 70 [.pointer A,(.string (bs [61]))] fun b=>bif b then (.call 116 [.pointer A] fun b=>aK b fun b=>.call 74 [nI 14,(.string (bs [61])),.pointer a,.pointer b] fun a=>aK a fun a=>rr [.pointer a]) else (rr [.pointer a]))
theorem T97_eq (A:Option Addr):aH aG false 97 [(.pointer A)]=T97 A:=by kernel_rfl
noncomputable def T98 (A:ByteArray):Pg:=
 qB 117 [.string A] fun a=>rr [(.bool (a&&(!(A.toList==(bs [95]).toList))))]
theorem T98_eq (A:ByteArray):aH aG false 98 [.string A]=T98 A:=by kernel_rfl
noncomputable def T99k0:TK:=
 fun a b=>sw a .normal (cB b fun a b=>aA b (rr [.bool a])) (.fail)
noncomputable def T99 (A:ByteArray):Pg:=
 qT 41 [.string A] fun a=>cL a fun a b _ c=>cI c fun c d=>cI d fun _ d=>aA d (.join (bif (c==0)==true then (bif ((b:Int)==1)==true then (aF a fun c=>grd (decide (0<(b:Int))) (lI (aadd (aadd c 0) 0) fun c=>bif (c==3)==true then (aF a fun a=>grd (decide (0<(b:Int))) (lS (aadd (aadd a 0) 1) fun a=>rn [(.bool (a.toList==A.toList))])) else (rn [.bool false]))) else (rn [.bool false])) else (rn [.bool false])) (T99k0))
theorem T99_eq (A:ByteArray):aH aG false 99 [.string A]=T99 A:=by kernel_rfl
noncomputable def T100k0 (A:Int):TK:=
 fun a b=>sw a .ret (cB b fun a b=>aA b (rr [nI A,.bool a])) (sw a .normal (cB b fun a b=>aA b (rn [(nI (aT (A+1))),.bool a])) (.fail))
noncomputable def T100b0 (A:Int) (B:Option Addr) (C:Nat):TB:=
 fun a=>cI a fun a b=>cB b fun b c=>aA c (bif (decide (a<A)) then (.join (aF B fun c=>ix A C (lS (aadd c ((Int.toNat A)*1)) fun c=>aF B fun d=>ix a C (lS (aadd d ((Int.toNat a)*1)) fun a=>bif (c.toList==a.toList) then (rr [.bool true]) else (rn [.bool b])))) (T100k0 a)) else (re 2 [nI a,.bool b]))
noncomputable def T100k1:TK:=
 fun a b=>sw a (.exit 2) (cI b fun _ a=>cB a fun a b=>aA b (rn [.bool a])) (sw a .ret (cI b fun _ a=>cB a fun a b=>aA b (rr [.bool a])) (.fail))
noncomputable def T100k2 (A:Int):TK:=
 fun a b=>sw a .ret (cB b fun a b=>aA b (rr [nI A,.bool a])) (sw a .normal (cB b fun a b=>aA b (rn [(nI (aT (A+1))),.bool a])) (.fail))
noncomputable def T100b1 (A:Nat) (B:Option Addr):TB:=
 fun a=>cI a fun a b=>cB b fun b c=>aA c (bif (decide (a<(A:Int))) then (.join (.loop [nI 0,.bool b] (T100b0 a B A) (T100k1)) (T100k2 a)) else (re 0 [nI a,.bool b]))
noncomputable def T100k3:TK:=
 fun a b=>sw a (.exit 0) (cI b fun _ a=>cB a fun _ a=>aA a (rr [.bool false])) (sw a .ret (cI b fun _ a=>cB a fun a b=>aA b (rr [.bool a])) (.fail))
noncomputable def T100 (A:Option Addr) (B C:Nat):Pg:=
 .loop [nI 0,.bool false] (T100b1 B A) (T100k3)
theorem T100_eq (A:Option Addr) (B C:Nat):aH aG false 100 [.slice A B C]=T100 A B C:=by kernel_rfl
noncomputable def T101k0 (A:Int):TK:=
 fun a b=>sw a .ret (cB b fun a b=>aA b (rr [nI A,.bool a])) (sw a .normal (cB b fun a b=>aA b (rn [(nI (aT (A+1))),.bool a])) (.fail))
noncomputable def T101b0 (A:Nat) (B:Option Addr) (C:ByteArray):TB:=
 fun a=>cI a fun a b=>cB b fun b c=>aA c (bif (decide (a<(A:Int))) then (.join (aF B fun c=>ix a A (lS (aadd c ((Int.toNat a)*1)) fun a=>bif (a.toList==C.toList) then (rr [.bool true]) else (rn [.bool b]))) (T101k0 a)) else (re 0 [nI a,.bool b]))
noncomputable def T101k1:TK:=
 fun a b=>sw a (.exit 0) (cI b fun _ a=>cB a fun _ a=>aA a (rr [.bool false])) (sw a .ret (cI b fun _ a=>cB a fun a b=>aA b (rr [.bool a])) (.fail))
noncomputable def T101 (A:Option Addr) (B C:Nat) (D:ByteArray):Pg:=
 .loop [nI 0,.bool false] (T101b0 B A D) (T101k1)
theorem T101_eq (A:Option Addr) (B C:Nat) (D:ByteArray):aH aG false 101 [.slice A B C,.string D]=T101 A B C D:=by kernel_rfl
noncomputable def T102k0:TK:=
 fun a b=>sw a .normal (cB b fun a b=>aA b (bif a then (rr [.bool false]) else (rn [.bool false]))) (.fail)
noncomputable def T102k1:TK:=
 fun a b=>sw a .ret (cB b fun a b=>aA b (rr [.bool a])) (sw a .normal (cB b fun a b=>aA b (rn [.bool a])) (.fail))
noncomputable def T102k2:TK:=
 fun a b=>sw a .ret (cB b fun a b=>aA b (rr [.bool a])) (sw a .normal (cB b fun a b=>aA b (rn [.bool a])) (.fail))
noncomputable def T102k3 (A:Bool):TK:=
 fun a b=>sw a .normal (cB b fun a b=>aA b (bif a then (rr [.bool false]) else (rn [.bool A]))) (.fail)
noncomputable def T102k4 (A:Bool):TK:=
 fun a b=>sw a .normal (cB b fun a b=>aA b (bif a then (rr [.bool false]) else (rn [.bool A]))) (.fail)
noncomputable def T102k5:TK:=
 fun a b=>sw a .ret (cB b fun a b=>aA b (rr [.bool a])) (sw a .normal (cB b fun a b=>aA b (rn [.bool a])) (.fail))
noncomputable def T102k6 (A:Addr) (B:Bool):TK:=
 fun a b=>sw a .normal (cB b fun a b=>aA b (.join (bif a then (.join (lI (aadd A 1) fun a=>bif (a !=0)==true then (lI (aadd A 1) fun a=>rn [(.bool (a !=1))]) else (rn [.bool false])) (T102k4 B)) else (lI (aadd A 1) fun a=>bif (a !=0) then (rr [.bool false]) else (rn [.bool B]))) (T102k5))) (.fail)
noncomputable def T102k7:TK:=
 fun a b=>sw a .ret (cB b fun a b=>aA b (rr [.bool a])) (sw a .normal (cB b fun a b=>aA b (rn [.bool a])) (.fail))
noncomputable def T102k8 (A:Addr) (B:Bool) (C:Int):TK:=
 fun a b=>sw a .normal (cB b fun a b=>aA b (.join (bif a then (.join (lI (aadd A 1) fun a=>bif (decide (a<0))==false then (.act (ld1 (aadd A 1)) fun a=>asInt .i64 a fun b=>qI 118 [] fun c=>.get fun d=>grd (chks [((ld1 (aadd A 1)),a)] d) (rn [(.bool (decide (b>c)))])) else (rn [.bool true])) (T102k3 B)) else (.join (bif (C==2) then (rn [(.bool (C==2))]) else (rn [(.bool (C==24))])) (T102k6 A B))) (T102k7))) (.fail)
noncomputable def T102k9:TK:=
 fun a b=>sw a .normal (cB b fun a b=>aA b (rn [.bool a])) (.fail)
noncomputable def T102k10:TK:=
 fun a b=>sw a .normal (cB b fun a b=>aA b (rn [.bool a])) (.fail)
noncomputable def T102k11 (A:Bool):TK:=
 fun a b=>sw a .normal (cB b fun a b=>aA b (bif a then (rr [.bool false]) else (rn [.bool A]))) (.fail)
noncomputable def T102k12:TK:=
 fun a b=>sw a .ret (cB b fun a b=>aA b (rr [.bool a])) (sw a .normal (cB b fun a b=>aA b (rn [.bool a])) (.fail))
noncomputable def T102k13:TK:=
 fun a b=>sw a .ret (cB b fun a b=>aA b (rr [.bool a])) (sw a .normal (cB b fun a b=>aA b (rn [.bool a])) (.fail))
noncomputable def T102k14 (A:Addr) (B:Bool) (C:Int):TK:=
 fun a b=>sw a .normal (cB b fun a b=>aA b (.join (bif a then (lS (aadd A 2) fun a=>qB 99 [.string a] fun a=>bif (!a) then (rr [.bool false]) else (rn [.bool B])) else (.join (bif (C==14) then (.join (lS (aadd A 2) fun a=>bif (!(a.toList==(bs [43]).toList))==true then (lS (aadd A 2) fun a=>bif (!(a.toList==(bs [45]).toList))==true then (lS (aadd A 2) fun a=>bif (!(a.toList==(bs [42]).toList))==true then (lS (aadd A 2) fun a=>bif (!(a.toList==(bs [60]).toList))==true then (lS (aadd A 2) fun a=>rn [(.bool (!(a.toList==(bs [61]).toList)))]) else (rn [.bool false])) else (rn [.bool false])) else (rn [.bool false])) else (rn [.bool false])) (T102k11 B)) else (lS (aadd A 2) fun a=>bif (!(a.toList==(bs []).toList)) then (rr [.bool false]) else (rn [.bool B]))) (T102k12))) (T102k13))) (.fail)
noncomputable def T102k15:TK:=
 fun a b=>sw a .ret (cB b fun a b=>aA b (rr [.bool a])) (sw a .normal (cB b fun a b=>aA b (rn [.bool a])) (.fail))
noncomputable def T102k16 (A:Addr) (B:Bool) (C:Int):TK:=
 fun a b=>sw a .normal (cB b fun a b=>aA b (.join (bif a then (lS (aadd A 2) fun a=>qB 98 [.string a] fun a=>bif (!a) then (rr [.bool false]) else (rn [.bool B])) else (.join (bif (C==5) then (rn [(.bool (C==5))]) else (rn [(.bool (C==26))])) (T102k14 A B C))) (T102k15))) (.fail)
noncomputable def T102k17 (A:Addr):TK:=
 fun a b=>sw a .normal (cB b fun a b=>aA b (bif a then (lS (aadd A 3) fun a=>qB 98 [.string a] fun a=>rr [.bool a]) else (lS (aadd A 3) fun a=>rr [(.bool (a.toList==(bs []).toList))]))) (.fail)
noncomputable def T102k18 (A:Addr):TK:=
 fun a b=>sw a .ret (cB b fun a b=>aA b (rr [.bool a])) (sw a .normal (cB b fun _ a=>aA a (.join (lI (aadd A 0) fun a=>bif (a==6)==false then (lI (aadd A 0) fun a=>bif (a==9)==false then (lI (aadd A 0) fun a=>rn [(.bool (a==20))]) else (rn [.bool true])) else (rn [.bool true])) (T102k17 A))) (.fail))
noncomputable def T102k19 (A:Addr):TK:=
 fun a b=>sw a .ret (cB b fun a b=>aA b (rr [.bool a])) (sw a .normal (cB b fun a b=>aA b (lI (aadd A 0) fun b=>.join (.join (bif (b==4) then (rn [(.bool (b==4))]) else (.join (bif (b==8) then (rn [(.bool (b==8))]) else (.join (bif (b==9) then (rn [(.bool (b==9))]) else (rn [(.bool (b==22))])) (T102k9))) (T102k10))) (T102k16 A a b)) (T102k18 A))) (.fail))
noncomputable def T102k20 (A:Addr):TK:=
 fun a b=>sw a .ret (cB b fun a b=>aA b (rr [.bool a])) (sw a .normal (cB b fun a b=>aA b (lI (aadd A 0) fun b=>.join (.join (bif (b==1) then (rn [(.bool (b==1))]) else (rn [(.bool (b==23))])) (T102k8 A a b)) (T102k19 A))) (.fail))
noncomputable def T102k21 (A:Addr) (B:Option Addr) (C:Nat):TK:=
 fun a b=>sw a .normal (cB b fun a b=>aA b (bif a then (rr [.bool false]) else (lL (aadd A 4) fun _ a _=>lI (aadd A 0) fun b=>aF B fun c=>ix b C (lI (aadd c ((Int.toNat b)*1)) fun b=>.join (.join (bif (b==(-2)) then (bif (decide ((a:Int)>3)) then (rr [.bool false]) else (rn [.bool false])) else (.join (bif (b==(-3)) then (.join (bif (decide ((a:Int)<3))==false then (rn [(.bool ((Int.tmod (a:Int) 2)==0))]) else (rn [.bool true])) (T102k0)) else (lI (aadd A 0) fun b=>aF B fun c=>ix b C (lI (aadd c ((Int.toNat b)*1)) fun b=>bif ((a:Int) !=b) then (rr [.bool false]) else (rn [.bool false])))) (T102k1))) (T102k2)) (T102k20 A))))) (.fail)
noncomputable def T102 (A B:Int) (C D:ByteArray) (E:Option Addr) (F G:Nat) (H I:Int):Pg:=
 nw [nI A,nI B,.string C,.string D,.slice E F G,nI H,nI I] fun a=>bL 1 27 [(nI (-1)),nI 0,nI 0,nI 0,nI 0,(nI (-2)),nI 1,nI 2,nI 2,nI 2,nI 3,(nI (-3)),nI 2,nI 2,nI 2,nI 1,nI 1,nI 1,nI 0,nI 1,nI 2,nI 0,nI 0,nI 0,nI 0,nI 0,(nI (-2))] fun b c _=>.join (lI (aadd a 0) fun b=>bif (decide (b<1))==false then (lI (aadd a 0) fun a=>rn [(.bool (decide (a>26)))]) else (rn [.bool true])) (T102k21 a b c)
theorem T102_eq (A B:Int) (C D:ByteArray) (E:Option Addr) (F G:Nat) (H I:Int):aH aG false 102 [(.agg #[(.int .i64 A),(.int .i64 B),.string C,.string D,.slice E F G,(.int .i64 H),(.int .i64 I)])]=T102 A B C D E F G H I:=by kernel_rfl
noncomputable def T103k0 (A:Int):TK:=
 fun a b=>sw a .ret (cB b fun a b=>cI b fun b c=>cI c fun c d=>aA d (rr [nI A,.bool a,nI b,nI c])) (sw a .normal (cB b fun a b=>cI b fun b c=>cI c fun c d=>aA d (rn [(nI (aT (A+1))),.bool a,nI b,nI c])) (.fail))
noncomputable def T103b0 (A:Addr) (B:Int) (C:ByteArray):TB:=
 fun a=>cI a fun a b=>cB b fun b c=>cI c fun c d=>cI d fun d f=>aA f (lL (aadd A 1) fun f g _=>aF f fun f=>ix B g (lL (aadd (aadd f ((Int.toNat B)*2)) 1) fun _ f _=>bif (decide (a<(f:Int))) then (.join (lL (aadd A 1) fun f g _=>aF f fun f=>ix B g (lL (aadd (aadd f ((Int.toNat B)*2)) 1) fun f g _=>aF f fun f=>ix a g (lS (aadd (aadd f ((Int.toNat a)*2)) 0) fun f=>bif (f.toList==C.toList) then (rr [.bool true,nI a,nI B]) else (rn [.bool b,nI c,nI d])))) (T103k0 a)) else (re 2 [nI a,.bool b,nI c,nI d])))
noncomputable def T103k1:TK:=
 fun a b=>sw a (.exit 2) (cI b fun _ a=>cB a fun a b=>cI b fun b c=>cI c fun c d=>aA d (rn [.bool a,nI b,nI c])) (sw a .ret (cI b fun _ a=>cB a fun a b=>cI b fun b c=>cI c fun c d=>aA d (rr [.bool a,nI b,nI c])) (.fail))
noncomputable def T103k2 (A:Int):TK:=
 fun a b=>sw a .ret (cB b fun a b=>cI b fun b c=>cI c fun c d=>aA d (rr [nI A,.bool a,nI b,nI c])) (sw a .normal (cB b fun a b=>cI b fun b c=>cI c fun c d=>aA d (rn [(nI (aT (A+1))),.bool a,nI b,nI c])) (.fail))
noncomputable def T103b1 (A:Addr) (B:ByteArray):TB:=
 fun a=>cI a fun a b=>cB b fun b c=>cI c fun c d=>cI d fun d f=>aA f (lL (aadd A 1) fun _ f _=>bif (decide (a<(f:Int))) then (.join (.loop [nI 0,.bool b,nI c,nI d] (T103b0 A a B) (T103k1)) (T103k2 a)) else (re 0 [nI a,.bool b,nI c,nI d]))
noncomputable def T103k3:TK:=
 fun a b=>sw a (.exit 0) (cI b fun _ a=>cB a fun _ a=>cI a fun _ a=>cI a fun _ a=>aA a (rr [(.tuple #[nI 0,nI 0,.bool false])])) (sw a .ret (cI b fun _ a=>cB a fun a b=>cI b fun b c=>cI c fun c d=>aA d (rr [(.tuple #[nI c,nI b,.bool a])])) (.fail))
noncomputable def T103 (A:Option Addr) (B C:Nat) (D:Option Addr) (E F:Nat) (G:ByteArray):Pg:=
 nw [.slice A B C,.slice D E F] fun a=>.loop [nI 0,.bool false,nI 0,nI 0] (T103b1 a G) (T103k3)
theorem T103_eq (A:Option Addr) (B C:Nat) (D:Option Addr) (E F:Nat) (G:ByteArray):aH aG false 103 [(.agg #[.slice A B C,.slice D E F]),.string G]=T103 A B C D E F G:=by kernel_rfl
noncomputable def T104k0:TK:=
 fun a b=>sw a .normal (cL b fun a b c d=>aA d (rn [.slice a b c])) (.fail)
noncomputable def T104k1 (A B:Addr) (C:Int) (D:Option Addr) (E F:Nat):TK:=
 fun a b=>sw a .normal (cB b fun a b=>aA b (.join (bif a then (lA 2 A fun a=>cL a fun a b c d=>cL d fun d f g h=>aA h (lL (aadd B 4) fun h i _=>aF h fun h=>ix C i (lI (aadd h ((Int.toNat C)*1)) fun h=>qL 104 [(.agg #[.slice a b c,.slice d f g]),nI h] fun a b c=>.act (apS 1 16 D E F a b c) fun a=>aN a fun a b c=>rn [.slice a b c]))) else (rn [.slice D E F])) (T104k0))) (.fail)
noncomputable def T104k2 (A:Int):TK:=
 fun a b=>sw a .normal (cL b fun a b c d=>aA d (rn [(nI (aT (A+1))),.slice a b c])) (.fail)
noncomputable def T104b0 (A:Addr) (B:Int) (C:Addr):TB:=
 fun a=>cI a fun a b=>cL b fun b c d f=>aA f (lL (aadd A 4) fun _ f _=>bif (decide (a<(f:Int))) then (.join (.join (lL (aadd A 4) fun b c _=>aF b fun b=>ix a c (lI (aadd b ((Int.toNat a)*1)) fun b=>bif (decide (b>B))==true then (lL (aadd A 4) fun b c _=>aF b fun b=>ix a c (lI (aadd b ((Int.toNat a)*1)) fun a=>lL (aadd C 0) fun _ b _=>bif (decide (a<(b:Int)))==true then (lI (aadd A 0) fun a=>rn [(.bool (a==26))]) else (rn [.bool false]))) else (rn [.bool false]))) (T104k1 C A a b c d)) (T104k2 a)) else (re 0 [nI a,.slice b c d]))
noncomputable def T104k3:TK:=
 fun a b=>sw a (.exit 0) (cI b fun _ a=>cL a fun a b c d=>aA d (rr [.slice a b c])) (.fail)
noncomputable def T104 (A:Option Addr) (B C:Nat) (D:Option Addr) (E F:Nat) (G:Int):Pg:=
 nw [.slice A B C,.slice D E F] fun a=>lL (aadd a 0) fun b c _=>aF b fun b=>ix G c (lA 7 (aadd b ((Int.toNat G)*7)) fun b=>cI b fun b c=>cI c fun c d=>cS d fun d f=>cS f fun f g=>cL g fun g h i j=>cI j fun j k=>cI k fun k l=>aA l (nw [nI 0,nI 0,(.string (bs [])),(.string (bs [])),.slice none 0 0,nI 0,nI 0] fun l=>sC l [nI b,nI c,.string d,.string f,.slice g h i,nI j,nI k] (lI (aadd l 0) fun b=>bif (b==22) then (lS (aadd l 2) fun a=>bL 1 1 [.string a] fun a b c=>rr [.slice a b c]) else (.loop [nI 0,.slice none 0 0] (T104b0 l G a) (T104k3)))))
theorem T104_eq (A:Option Addr) (B C:Nat) (D:Option Addr) (E F:Nat) (G:Int):aH aG false 104 [(.agg #[.slice A B C,.slice D E F]),(.int .i64 G)]=T104 A B C D E F G:=by kernel_rfl
noncomputable def T105k0:TK:=
 fun a b=>sw a .normal (cB b fun a b=>aA b (rr [.bool a])) (.fail)
noncomputable def T105k1 (A:ByteArray) (B:Int):TK:=
 fun a b=>sw a .normal (cB b fun a b=>aA b (bif a then (rr [.bool false]) else (qA 119 [.string A] fun a=>cI a fun a b=>cS b fun b c=>cI c fun c d=>cI d fun d f=>aA f (nw [nI 0,(.string (bs [])),nI 0,nI 0] fun f=>sC f [nI a,.string b,nI c,nI d] (.join (lI (aadd f 0) fun a=>bif (a==B)==true then (lS (aadd f 1) fun a=>rn [(.bool (a.toList==A.toList))]) else (rn [.bool false])) (T105k0)))))) (.fail)
noncomputable def T105 (A:ByteArray) (B:Int):Pg:=
 .join (bif (A.toList==(bs []).toList)==false then (rn [(.bool (decide (((A.size:Nat):Int)>4000)))]) else (rn [.bool true])) (T105k1 A B)
theorem T105_eq (A:ByteArray) (B:Int):aH aG false 105 [.string A,(.int .i64 B)]=T105 A B:=by kernel_rfl
noncomputable def T106k0 (A:Int):TK:=
 fun a b=>sw a .ret (cI b fun a b=>aA b (rr [nI A,nI a])) (sw a .normal (cI b fun a b=>aA b (rn [(nI (aT (A+1))),nI a])) (.fail))
noncomputable def T106b0 (A:Nat) (B:Option Addr) (C:ByteArray):TB:=
 fun a=>cI a fun a b=>cI b fun b c=>aA c (bif (decide (a<(A:Int))) then (.join (aF B fun c=>ix a A (lS (aadd c ((Int.toNat a)*1)) fun c=>bif (C.toList==c.toList) then (rr [nI a]) else (rn [nI b]))) (T106k0 a)) else (re 0 [nI a,nI b]))
noncomputable def T106k1:TK:=
 fun a b=>sw a (.exit 0) (cI b fun _ a=>cI a fun _ a=>aA a (rr [(nI (-1))])) (sw a .ret (cI b fun _ a=>cI a fun a b=>aA b (rr [nI a])) (.fail))
noncomputable def T106 (A:Option Addr) (B C:Nat) (D:ByteArray):Pg:=
 .loop [nI 0,nI 0] (T106b0 B A D) (T106k1)
theorem T106_eq (A:Option Addr) (B C:Nat) (D:ByteArray):aH aG false 106 [.slice A B C,.string D]=T106 A B C D:=by kernel_rfl
noncomputable def T107k0 (A:Int):TK:=
 fun a b=>sw a .ret (cI b fun a b=>aA b (rr [nI A,nI a])) (sw a .normal (cI b fun a b=>aA b (rn [(nI (aT (A+1))),nI a])) (.fail))
noncomputable def T107b0 (A:Nat) (B:Option Addr) (C:Value):TB:=
 fun a=>cI a fun a b=>cI b fun b c=>aA c (bif (decide (a<(A:Int))) then (.join (aF B fun c=>ix a A (lS (aadd c ((Int.toNat a)*1)) fun c=>nV C fun d f g=>.call d (f++[.string c]++g) fun c=>eR c fun c=>bif c then (rr [nI a]) else (rn [nI b]))) (T107k0 a)) else (re 0 [nI a,nI b]))
noncomputable def T107k1:TK:=
 fun a b=>sw a (.exit 0) (cI b fun _ a=>cI a fun _ a=>aA a (rr [(nI (-1))])) (sw a .ret (cI b fun _ a=>cI a fun a b=>aA b (rr [nI a])) (.fail))
noncomputable def T107 (A:Option Addr) (B C:Nat) (D:Value):Pg:=
 .loop [nI 0,nI 0] (T107b0 B A D) (T107k1)
theorem T107_eq (A:Option Addr) (B C:Nat) (D:Value):aH aG false 107 [.slice A B C,D]=T107 A B C D:=by kernel_rfl
noncomputable def T108k0:TK:=
 fun a b=>sw a .normal (cB b fun a b=>aA b (rr [.bool a])) (.fail)
noncomputable def T108k1:TK:=
 fun a b=>sw a .normal (cB b fun a b=>aA b (rr [.bool a])) (.fail)
noncomputable def T108k2 (A:Addr):TK:=
 fun a b=>sw a .normal (cB b fun a b=>aA b (bif a then (.join (lI (aadd A 1) fun a=>bif (a==0)==false then (lI (aadd A 1) fun a=>rn [(.bool (a==1))]) else (rn [.bool true])) (T108k1)) else (rn [.bool false]))) (.fail)
noncomputable def T108k3 (A:Addr) (B:Int):TK:=
 fun a b=>sw a .normal (cB b fun a b=>aA b (bif a then (.join (lI (aadd A 1) fun a=>bif (decide (a≥0))==true then (lI (aadd A 1) fun a=>rn [(.bool (decide (a≤4611686018427387903)))]) else (rn [.bool false])) (T108k0)) else (.join (bif (B==2) then (rn [(.bool (B==2))]) else (rn [(.bool (B==24))])) (T108k2 A)))) (.fail)
noncomputable def T108k4 (A:Addr):TK:=
 fun a b=>sw a .ret (cB b fun a b=>aA b (rr [.bool a])) (sw a .normal (cB b fun _ a=>aA a (lI (aadd A 1) fun a=>rr [(.bool (a==0))])) (.fail))
noncomputable def T108 (A B:Int) (C D:ByteArray) (E:Option Addr) (F G:Nat) (H I:Int):Pg:=
 nw [nI A,nI B,.string C,.string D,.slice E F G,nI H,nI I] fun a=>lI (aadd a 0) fun b=>.join (.join (bif (b==1) then (rn [(.bool (b==1))]) else (rn [(.bool (b==23))])) (T108k3 a b)) (T108k4 a)
theorem T108_eq (A B:Int) (C D:ByteArray) (E:Option Addr) (F G:Nat) (H I:Int):aH aG false 108 [(.agg #[(.int .i64 A),(.int .i64 B),.string C,.string D,.slice E F G,(.int .i64 H),(.int .i64 I)])]=T108 A B C D E F G H I:=by kernel_rfl
noncomputable def T109k0:TK:=
 fun a b=>sw a .normal (cB b fun a b=>aA b (rn [.bool a])) (.fail)
noncomputable def T109k1:TK:=
 fun a b=>sw a .normal (cB b fun a b=>aA b (rn [.bool a])) (.fail)
noncomputable def T109k2 (A:ByteArray):TK:=
 fun a b=>sw a .normal (cB b fun a b=>aA b (rn [.bool a,(.bool (A.toList==(bs []).toList))])) (.fail)
noncomputable def T109k3 (A:Addr) (B:Int) (C D:ByteArray):TK:=
 fun a b=>sw a .normal (cB b fun a b=>aA b (.join (bif a then (lS (aadd A 2) fun a=>qB 79 [.string a] fun a=>rn [.bool a]) else (.join (bif (B==14) then (bL 1 5 [(.string (bs [43])),(.string (bs [45])),(.string (bs [42])),(.string (bs [60])),(.string (bs [61]))] fun a b c=>lS (aadd A 2) fun d=>qB 81 [.slice a b c,.string d] fun a=>rn [.bool a]) else (rn [(.bool (C.toList==(bs []).toList))])) (T109k1))) (T109k2 D))) (.fail)
noncomputable def T109k4:TK:=
 fun a b=>sw a .normal (cB b fun a b=>cB b fun b c=>aA c (rn [.bool b,.bool a])) (.fail)
noncomputable def T109k5 (A:Addr) (B:ByteArray) (C:Int) (D:ByteArray):TK:=
 fun a b=>sw a .normal (cB b fun a b=>aA b (.join (bif a then (lS (aadd A 3) fun a=>qB 77 [.string a] fun a=>rn [(.bool (B.toList==(bs []).toList)),.bool a]) else (.join (bif (C==5) then (rn [(.bool (C==5))]) else (rn [(.bool (C==26))])) (T109k3 A C B D))) (T109k4))) (.fail)
noncomputable def T109k6:TK:=
 fun a b=>sw a .normal (cB b fun a b=>cB b fun b c=>aA c (rn [.bool a,.bool b])) (.fail)
noncomputable def T109k7:TK:=
 fun a b=>sw a .normal (cB b fun a b=>cB b fun b c=>aA c (rn [.bool a,.bool b])) (.fail)
noncomputable def T109k8 (A:Addr) (B:ByteArray) (C:Int) (D:ByteArray):TK:=
 fun a b=>sw a .normal (cB b fun a b=>aA b (.join (bif a then (lS (aadd A 2) fun a=>qB 77 [.string a] fun a=>rn [(.bool (B.toList==(bs []).toList)),.bool a]) else (.join (bif (C==9) then (lS (aadd A 2) fun a=>.get fun b=>qB 77 [.string a] fun a=>.act (ld1 (aadd A 3)) fun c=>grd (past (ld1 (aadd A 3)) c [b]) (jP c fun b=>qB 77 [.string b] fun b=>rn [.bool b,.bool a])) else (.join (bif (C==6) then (rn [(.bool (C==6))]) else (rn [(.bool (C==20))])) (T109k5 A D C B))) (T109k6))) (T109k7))) (.fail)
noncomputable def T109k9:TK:=
 fun a b=>sw a .normal (cB b fun a b=>cB b fun b c=>aA c (rr [(.bool (b&&a))])) (.fail)
noncomputable def T109 (A B:Int) (C D:ByteArray) (E:Option Addr) (F G:Nat) (H I:Int):Pg:=
 nw [nI A,nI B,.string C,.string D,.slice E F G,nI H,nI I] fun a=>lS (aadd a 2) fun b=>lS (aadd a 3) fun c=>lI (aadd a 0) fun d=>.join (.join (bif (d==4) then (rn [(.bool (d==4))]) else (.join (bif (d==8) then (rn [(.bool (d==8))]) else (rn [(.bool (d==22))])) (T109k0))) (T109k8 a c d b)) (T109k9)
theorem T109_eq (A B:Int) (C D:ByteArray) (E:Option Addr) (F G:Nat) (H I:Int):aH aG false 109 [(.agg #[(.int .i64 A),(.int .i64 B),.string C,.string D,.slice E F G,(.int .i64 H),(.int .i64 I)])]=T109 A B C D E F G H I:=by kernel_rfl
noncomputable def T110k0:TK:=
 fun a b=>sw a .normal (cB b fun a b=>aA b (rn [.bool a])) (.fail)
noncomputable def T110k1:TK:=
 fun a b=>sw a .normal (cB b fun a b=>aA b (rn [.bool a])) (.fail)
noncomputable def T110k2:TK:=
 fun a b=>sw a .normal (cB b fun a b=>aA b (rn [.bool a])) (.fail)
noncomputable def T110k3:TK:=
 fun a b=>sw a .normal (cB b fun a b=>aA b (rn [.bool a])) (.fail)
noncomputable def T110k4:TK:=
 fun a b=>sw a .normal (cB b fun a b=>aA b (rn [.bool a])) (.fail)
noncomputable def T110k5:TK:=
 fun a b=>sw a .normal (cB b fun a b=>aA b (rn [.bool a])) (.fail)
noncomputable def T110k6:TK:=
 fun a b=>sw a .normal (cB b fun a b=>aA b (rn [.bool a])) (.fail)
noncomputable def T110k7:TK:=
 fun a b=>sw a .normal (cB b fun a b=>aA b (rn [.bool a])) (.fail)
noncomputable def T110k8 (A:Int):TK:=
 fun a b=>sw a .normal (cB b fun a b=>aA b (bif a then (rr [nI 2,nI 2]) else (bif (A==10) then (rr [nI 3,nI 3]) else (rn [nI 0,nI 0])))) (.fail)
noncomputable def T110k9 (A:Int):TK:=
 fun a b=>sw a .normal (cB b fun a b=>aA b (bif a then (rr [nI 1,nI 1]) else (.join (bif (A==7) then (rn [(.bool (A==7))]) else (.join (bif (A==8) then (rn [(.bool (A==8))]) else (.join (bif (A==9) then (rn [(.bool (A==9))]) else (.join (bif (A==12) then (rn [(.bool (A==12))]) else (.join (bif (A==13) then (rn [(.bool (A==13))]) else (.join (bif (A==14) then (rn [(.bool (A==14))]) else (rn [(.bool (A==20))])) (T110k3))) (T110k4))) (T110k5))) (T110k6))) (T110k7))) (T110k8 A)))) (.fail)
noncomputable def T110k10 (A:Int):TK:=
 fun a b=>sw a .normal (cB b fun a b=>aA b (bif a then (rr [nI 3,nI 0]) else (bif (A==11) then (rr [nI 1000,nI 3]) else (.join (bif (A==6) then (rn [(.bool (A==6))]) else (.join (bif (A==15) then (rn [(.bool (A==15))]) else (.join (bif (A==16) then (rn [(.bool (A==16))]) else (.join (bif (A==17) then (rn [(.bool (A==17))]) else (rn [(.bool (A==19))])) (T110k0))) (T110k1))) (T110k2))) (T110k9 A))))) (.fail)
noncomputable def T110k11:TK:=
 fun a b=>sw a .ret (cI b fun a b=>cI b fun b c=>aA c (rr [(.tuple #[nI b,nI a])])) (sw a .normal (cI b fun _ a=>cI a fun _ a=>aA a (rr [(.tuple #[nI 0,nI 0])])) (.fail))
noncomputable def T110 (A:Int):Pg:=
 .join (.join (bif (A==5) then (rn [(.bool (A==5))]) else (rn [(.bool (A==26))])) (T110k10 A)) (T110k11)
theorem T110_eq (A:Int):aH aG false 110 [(.int .i64 A)]=T110 A:=by kernel_rfl
noncomputable def T111k0 (A:Int):TK:=
 fun a b=>sw a .ret (cB b fun a b=>cI b fun b c=>cI c fun c d=>aA d (rr [nI A,.bool a,nI b,nI c])) (sw a .normal (cB b fun a b=>cI b fun b c=>cI c fun c d=>aA d (rn [(nI (aT (A+1))),.bool a,nI b,nI c])) (.fail))
noncomputable def T111b0 (A:Nat) (B:Option Addr) (C:ByteArray) (D:Int):TB:=
 fun a=>cI a fun a b=>cB b fun b c=>cI c fun c d=>cI d fun d f=>aA f (bif (decide (a<(A:Int))) then (.join (aF B fun f=>ix a A (lA 2 (aadd f ((Int.toNat a)*2)) fun f=>cS f fun f g=>cL g fun g h i j=>aA j (nw [(.string (bs [])),.slice none 0 0] fun j=>sC j [.string f,.slice g h i] (lS (aadd j 0) fun f=>bif (f.toList==C.toList) then (rr [.bool true,nI a,nI D]) else (rn [.bool b,nI c,nI d]))))) (T111k0 a)) else (re 2 [nI a,.bool b,nI c,nI d]))
noncomputable def T111k1:TK:=
 fun a b=>sw a (.exit 2) (cI b fun _ a=>cB a fun a b=>cI b fun b c=>cI c fun c d=>aA d (rn [.bool a,nI b,nI c])) (sw a .ret (cI b fun _ a=>cB a fun a b=>cI b fun b c=>cI c fun c d=>aA d (rr [.bool a,nI b,nI c])) (.fail))
noncomputable def T111k2 (A:Int):TK:=
 fun a b=>sw a .ret (cB b fun a b=>cI b fun b c=>cI c fun c d=>aA d (rr [nI A,.bool a,nI b,nI c])) (sw a .normal (cB b fun a b=>cI b fun b c=>cI c fun c d=>aA d (rn [(nI (aT (A+1))),.bool a,nI b,nI c])) (.fail))
noncomputable def T111b1 (A:Nat) (B:Option Addr) (C:ByteArray):TB:=
 fun a=>cI a fun a b=>cB b fun b c=>cI c fun c d=>cI d fun d f=>aA f (bif (decide (a<(A:Int))) then (.join (aF B fun f=>ix a A (lA 2 (aadd f ((Int.toNat a)*2)) fun f=>cS f fun f g=>cL g fun g h i j=>aA j (nw [(.string (bs [])),.slice none 0 0] fun j=>sC j [.string f,.slice g h i] (lL (aadd j 1) fun f g _=>.loop [nI 0,.bool b,nI c,nI d] (T111b0 g f C a) (T111k1))))) (T111k2 a)) else (re 0 [nI a,.bool b,nI c,nI d]))
noncomputable def T111k3:TK:=
 fun a b=>sw a (.exit 0) (cI b fun _ a=>cB a fun _ a=>cI a fun _ a=>cI a fun _ a=>aA a (rr [(.tuple #[nI 0,nI 0,.bool false])])) (sw a .ret (cI b fun _ a=>cB a fun a b=>cI b fun b c=>cI c fun c d=>aA d (rr [(.tuple #[nI c,nI b,.bool a])])) (.fail))
noncomputable def T111 (A:Option Addr) (B C:Nat) (D:Option Addr) (E F:Nat) (G:ByteArray):Pg:=
 nw [.slice A B C,.slice D E F] fun a=>lL (aadd a 1) fun a b _=>.loop [nI 0,.bool false,nI 0,nI 0] (T111b1 b a G) (T111k3)
theorem T111_eq (A:Option Addr) (B C:Nat) (D:Option Addr) (E F:Nat) (G:ByteArray):aH aG false 111 [(.agg #[.slice A B C,.slice D E F]),.string G]=T111 A B C D E F G:=by kernel_rfl
noncomputable def T114k0 (A B:Addr):TK:=
 fun a b=>sw a .normal (aA b (lA 7 A fun a=>cI a fun a b=>cI b fun b c=>cS c fun c d=>cL d fun d f g h=>cI h fun h i=>aM i fun i j=>aK i fun i=>cI j fun j k=>aA k (sC B [nI a,nI b,.string c,.slice d f g,nI h,.pointer i,nI j] (.act (ldN 7 B) fun a=>rr [a])))) (.fail)
noncomputable def T114 (A:Bool):Pg:=
 nw [nI 0,nI 0,(.string (bs [])),.slice none 0 0,nI 0,.pointer none,nI 0] fun a=>nw [nI 0,nI 0,(.string (bs [])),.slice none 0 0,nI 0,.pointer none,nI 0] fun b=>sC b [nI 2,nI 0,(.string (bs [])),.slice none 0 0,nI 0,.pointer none,nI 0] (.join (bif A then (sC (aadd b 1) [nI 1] (rn [])) else (rn [])) (T114k0 b a))
theorem T114_eq (A:Bool):aH aG false 114 [.bool A]=T114 A:=by kernel_rfl
noncomputable def T116k0:TK:=
 fun a b=>sw a .normal (aM b fun a b=>aK a fun a=>aA b (rn [.pointer a])) (sw a (.exit 0) (aM b fun a b=>aK a fun a=>aA b (re 0 [.pointer a])) (.fail))
noncomputable def T116k1:TK:=
 fun a b=>sw a .normal (aM b fun a b=>aK a fun a=>aA b (rn [.pointer a])) (sw a (.exit 0) (aM b fun a b=>aK a fun a=>aA b (re 0 [.pointer a])) (.fail))
noncomputable def T116b0 (A:Option Addr):TB:=
 fun a=>aM a fun a b=>aK a fun a=>aA b (aF A fun b=>lB (aadd b 3) fun b=>bif (!b) then (.join (qB 70 [.pointer A,(.string (bs [43]))] fun b=>.join (bif b then (.call 130 [.pointer A] fun b=>aK b fun b=>.call 74 [nI 14,(.string (bs [43])),.pointer a,.pointer b] fun a=>aK a fun a=>rn [.pointer a]) else (qB 70 [.pointer A,(.string (bs [45]))] fun b=>bif b then (.call 130 [.pointer A] fun b=>aK b fun b=>.call 74 [nI 14,(.string (bs [45])),.pointer a,.pointer b] fun a=>aK a fun a=>rn [.pointer a]) else (re 0 [.pointer a]))) (T116k0)) (T116k1)) else (re 0 [.pointer a]))
noncomputable def T116k2:TK:=
 fun a b=>sw a (.exit 0) (aM b fun a b=>aK a fun a=>aA b (rr [.pointer a])) (.fail)
noncomputable def T116 (A:Option Addr):Pg:=
 .call 130 [.pointer A] fun a=>aK a fun a=>.loop [.pointer a] (T116b0 A) (T116k2)
theorem T116_eq (A:Option Addr):aH aG false 116 [(.pointer A)]=T116 A:=by kernel_rfl
noncomputable def T117k0:TK:=
 fun a b=>sw a .normal (cB b fun a b=>aA b (rr [.bool a])) (.fail)
noncomputable def T117 (A:ByteArray):Pg:=
 qT 41 [.string A] fun a=>cL a fun a b _ c=>cI c fun c d=>cI d fun _ d=>aA d (.join (bif (c==0)==true then (bif ((b:Int)==1)==true then (aF a fun c=>grd (decide (0<(b:Int))) (lI (aadd (aadd c 0) 0) fun c=>bif (c==2)==true then (aF a fun a=>grd (decide (0<(b:Int))) (lS (aadd (aadd a 0) 1) fun a=>rn [(.bool (a.toList==A.toList))])) else (rn [.bool false]))) else (rn [.bool false])) else (rn [.bool false])) (T117k0))
theorem T117_eq (A:ByteArray):aH aG false 117 [.string A]=T117 A:=by kernel_rfl
noncomputable def T118:Pg:=
 rr [nI 4611686018427387903]
theorem T118_eq:aH aG false 118 []=T118:=by kernel_rfl
noncomputable def T119k0:TK:=
 fun a b=>sw a .ret (aA b (rr [])) (sw a .normal (aA b (rn [])) (.fail))
noncomputable def T119k1:TK:=
 fun a b=>sw a .ret (aA b (rr [])) (sw a .normal (aA b (rn [])) (.fail))
noncomputable def T119k2 (A:Addr):TK:=
 fun a b=>sw a .ret (aA b (.act (ldN 4 A) fun a=>rr [a])) (sw a .normal (aA b (sC A [nI 0,(.string (bs [])),nI 0,nI 0] (.act (ldN 4 A) fun a=>rr [a]))) (.fail))
noncomputable def T119 (A:ByteArray):Pg:=
 nw [nI 0,(.string (bs [])),nI 0,nI 0] fun a=>qT 131 [.string A] fun b=>aM b fun b c=>asInt .i32 b fun b=>cI c fun _ c=>aA c (qI 132 [.int .i32 b] fun c=>.join (.join (bif (c==1) then (bif (b !=39) then (qA 133 [.string A] fun b=>cI b fun b c=>cS c fun c d=>cI d fun d f=>cI f fun f g=>aA g (sC a [nI b,.string c,nI d,nI f] (rr []))) else (rn [])) else (.join (bif (c==2) then (qI 134 [.string A,(.func (.func 135) #[] #[])] fun b=>grd ((decide (0≤b))&&(decide (b≤((A.size:Nat):Int)))) (qT 136 [(.string (A.extract 0 (Int.toNat b)))] fun c=>cI c fun _ c=>cB c fun c d=>aA d (bif c then (grd ((decide (0≤b))&&(decide (b≤((A.size:Nat):Int)))) (sC a [nI 1,(.string (A.extract 0 (Int.toNat b))),nI 0,nI 0] (rr []))) else (rn [])))) else (bif (c==4) then (qA 137 [.string A] fun b=>cI b fun b c=>cS c fun c d=>cI d fun d f=>cI f fun f g=>aA g (sC a [nI b,.string c,nI d,nI f] (rr []))) else (rn []))) (T119k0))) (T119k1)) (T119k2 a))
theorem T119_eq (A:ByteArray):aH aG false 119 [.string A]=T119 A:=by kernel_rfl
noncomputable def T130k0:TK:=
 fun a b=>sw a .normal (aM b fun a b=>aK a fun a=>aA b (rn [.pointer a])) (.fail)
noncomputable def T130b0 (A:Option Addr):TB:=
 fun a=>aM a fun a b=>aK a fun a=>aA b (qB 70 [.pointer A,(.string (bs [42]))] fun b=>bif b then (.join (.call 142 [.pointer A] fun b=>aK b fun b=>.call 74 [nI 14,(.string (bs [42])),.pointer a,.pointer b] fun a=>aK a fun a=>rn [.pointer a]) (T130k0)) else (re 0 [.pointer a]))
noncomputable def T130k1:TK:=
 fun a b=>sw a (.exit 0) (aM b fun a b=>aK a fun a=>aA b (rr [.pointer a])) (.fail)
noncomputable def T130 (A:Option Addr):Pg:=
 .call 142 [.pointer A] fun a=>aK a fun a=>.loop [.pointer a] (T130b0 A) (T130k1)
theorem T130_eq (A:Option Addr):aH aG false 130 [(.pointer A)]=T130 A:=by kernel_rfl
noncomputable def T132k0 (A:Int):TK:=
 fun a b=>sw a .normal (cB b fun a b=>aA b (bif a then (rr [nI 1]) else (bif ((decide (A≥48))&&(decide (A≤57))) then (rr [nI 2]) else (rn [nI 0])))) (.fail)
noncomputable def T132k1:TK:=
 fun a b=>sw a .normal (cB b fun a b=>aA b (rn [.bool a])) (.fail)
noncomputable def T132k2:TK:=
 fun a b=>sw a .normal (cB b fun a b=>aA b (rn [.bool a])) (.fail)
noncomputable def T132k3:TK:=
 fun a b=>sw a .normal (cB b fun a b=>aA b (rn [.bool a])) (.fail)
noncomputable def T132k4:TK:=
 fun a b=>sw a .normal (cB b fun a b=>aA b (rn [.bool a])) (.fail)
noncomputable def T132k5:TK:=
 fun a b=>sw a .normal (cB b fun a b=>aA b (rn [.bool a])) (.fail)
noncomputable def T132k6:TK:=
 fun a b=>sw a .normal (cB b fun a b=>aA b (rn [.bool a])) (.fail)
noncomputable def T132k7:TK:=
 fun a b=>sw a .normal (cB b fun a b=>aA b (rn [.bool a])) (.fail)
noncomputable def T132k8:TK:=
 fun a b=>sw a .normal (cB b fun a b=>aA b (rn [.bool a])) (.fail)
noncomputable def T132k9:TK:=
 fun a b=>sw a .normal (cB b fun a b=>aA b (rn [.bool a])) (.fail)
noncomputable def T132k10:TK:=
 fun a b=>sw a .normal (cB b fun a b=>aA b (rn [.bool a])) (.fail)
noncomputable def T132k11:TK:=
 fun a b=>sw a .normal (cB b fun a b=>aA b (rn [.bool a])) (.fail)
noncomputable def T132k12:TK:=
 fun a b=>sw a .normal (cB b fun a b=>aA b (rn [.bool a])) (.fail)
noncomputable def T132k13:TK:=
 fun a b=>sw a .normal (cB b fun a b=>aA b (rn [.bool a])) (.fail)
noncomputable def T132k14 (A:Int):TK:=
 fun a b=>sw a .normal (cB b fun a b=>aA b (bif a then (rr [nI 4]) else (rn [nI A]))) (.fail)
noncomputable def T132k15 (A B:Int):TK:=
 fun a b=>sw a .normal (cB b fun a b=>aA b (bif a then (rr [nI 3]) else (.join (bif (A==40) then (rn [(.bool (A==40))]) else (.join (bif (A==41) then (rn [(.bool (A==41))]) else (.join (bif (A==44) then (rn [(.bool (A==44))]) else (.join (bif (A==59) then (rn [(.bool (A==59))]) else (.join (bif (A==61) then (rn [(.bool (A==61))]) else (.join (bif (A==60) then (rn [(.bool (A==60))]) else (.join (bif (A==62) then (rn [(.bool (A==62))]) else (.join (bif (A==43) then (rn [(.bool (A==43))]) else (.join (bif (A==45) then (rn [(.bool (A==45))]) else (.join (bif (A==42) then (rn [(.bool (A==42))]) else (.join (bif (A==124) then (rn [(.bool (A==124))]) else (.join (bif (A==33) then (rn [(.bool (A==33))]) else (rn [(.bool (A==58))])) (T132k3))) (T132k4))) (T132k5))) (T132k6))) (T132k7))) (T132k8))) (T132k9))) (T132k10))) (T132k11))) (T132k12))) (T132k13))) (T132k14 B)))) (.fail)
noncomputable def T132k16:TK:=
 fun a b=>sw a .ret (cI b fun a b=>aA b (rr [nI a])) (sw a .normal (cI b fun _ a=>aA a (rr [nI 0])) (.fail))
noncomputable def T132k17 (A:Int):TK:=
 fun a b=>sw a .ret (cI b fun a b=>aA b (rr [nI a])) (sw a .normal (cI b fun a b=>aA b (.join (.join (bif (A==32) then (rn [(.bool (A==32))]) else (.join (bif (A==9) then (rn [(.bool (A==9))]) else (.join (bif (A==10) then (rn [(.bool (A==10))]) else (rn [(.bool (A==13))])) (T132k1))) (T132k2))) (T132k15 A a)) (T132k16))) (.fail))
noncomputable def T132 (A:Int):Pg:=
 .join (.join (bif ((A==95)||(A==39))==false then (qB 92 [.int .i32 A] fun a=>rn [.bool a]) else (rn [.bool true])) (T132k0 A)) (T132k17 A)
theorem T132_eq (A:Int):aH aG false 132 [(.int .i32 A)]=T132 A:=by kernel_rfl
noncomputable def T133k0:TK:=
 fun a b=>sw a .normal (aA b (rn [])) (.fail)
noncomputable def T133k1:TK:=
 fun a b=>sw a .normal (aA b (rn [])) (.fail)
noncomputable def T133k2 (A B:Addr):TK:=
 fun a b=>sw a .normal (aA b (lA 4 A fun a=>cI a fun a b=>cS b fun b c=>cI c fun c d=>cI d fun d f=>aA f (sC B [nI a,.string b,nI c,nI d] (.act (ldN 4 B) fun a=>rr [a])))) (.fail)
noncomputable def T133 (A:ByteArray):Pg:=
 nw [nI 0,(.string (bs [])),nI 0,nI 0] fun a=>qI 134 [.string A,(.func (.func 144) #[] #[])] fun b=>grd ((decide (0≤b))&&(decide (b≤((A.size:Nat):Int)))) (nw [nI 0,(.string (bs [])),nI 0,nI 0] fun c=>sC c [nI 2,(.string (A.extract 0 (Int.toNat b))),nI 0,nI 0] (.join (qB 145 [.string A] fun a=>.join (bif a then (sC (aadd c 0) [nI 3] (rn [])) else (lS (aadd c 1) fun a=>qB 146 [.string a] fun a=>.join (bif a then (sC (aadd c 0) [nI 4] (rn [])) else (rn [])) (T133k0))) (T133k1)) (T133k2 c a)))
theorem T133_eq (A:ByteArray):aH aG false 133 [.string A]=T133 A:=by kernel_rfl
noncomputable def T134k0:TK:=
 fun a b=>sw a .ret (cI b fun a b=>aA b (rr [nI a])) (sw a .normal (cI b fun a b=>aA b (rn [nI a])) (.fail))
noncomputable def T134b0 (A:Addr) (B:Value):TB:=
 fun a=>cI a fun a b=>aA b (.act (nxt (some A)) fun b=>asNx b (fun b c=>.join (nV B fun d f g=>.call d (f++[.int .i32 c]++g) fun c=>eR c fun c=>bif (!c) then (rr [nI b]) else (rn [nI a])) (T134k0)) (re 0 [nI a]))
noncomputable def T134k1 (A:ByteArray):TK:=
 fun a b=>sw a (.exit 0) (cI b fun _ a=>aA a (rr [(nI ((A.size:Nat):Int))])) (sw a .ret (cI b fun a b=>aA b (rr [nI a])) (.fail))
noncomputable def T134 (A:ByteArray) (B:Value):Pg:=
 .act (rng A) fun a=>aK a fun a=>aF a fun a=>.loop [nI 0] (T134b0 a B) (T134k1 A)
theorem T134_eq (A:ByteArray) (B:Value):aH aG false 134 [.string A,B]=T134 A B:=by kernel_rfl
noncomputable def T135 (A:Int):Pg:=
 qI 132 [.int .i32 A] fun a=>rr [(.bool (a==2))]
theorem T135_eq (A:Int):aH aG false 135 [(.int .i32 A)]=T135 A:=by kernel_rfl
noncomputable def T136k0:TK:=
 fun a b=>sw a .ret (cI b fun a b=>cB b fun b c=>cI c fun c d=>aA d (rr [nI a,.bool b,nI c])) (sw a .normal (cI b fun a b=>cB b fun b c=>cI c fun c d=>aA d (rn [nI a,.bool b,nI c])) (.fail))
noncomputable def T136b0 (A:Addr):TB:=
 fun a=>cI a fun a b=>cB b fun b c=>cI c fun c d=>aA d (.act (nxt (some A)) fun d=>asNx d (fun _ d=>.join (bif (decide (a>(aT (Int.tdiv (aT (4611686018427387903 - (aT (wi32 (d - 48))))) 10)))) then (rr [nI a,.bool false,nI 0]) else (rn [(nI (aT ((aT (10*a))+(aT (wi32 (d - 48)))))),.bool b,nI c])) (T136k0)) (re 0 [nI a,.bool b,nI c]))
noncomputable def T136k1:TK:=
 fun a b=>sw a (.exit 0) (cI b fun a b=>cB b fun _ b=>cI b fun _ b=>aA b (rr [(.tuple #[nI a,.bool true])])) (sw a .ret (cI b fun _ a=>cB a fun a b=>cI b fun b c=>aA c (rr [(.tuple #[nI b,.bool a])])) (.fail))
noncomputable def T136 (A:ByteArray):Pg:=
 .act (rng A) fun a=>aK a fun a=>aF a fun a=>.loop [nI 0,.bool false,nI 0] (T136b0 a) (T136k1)
theorem T136_eq (A:ByteArray):aH aG false 136 [.string A]=T136 A:=by kernel_rfl
noncomputable def T137k0 (A:Int):TK:=
 fun a b=>sw a .ret (aA b (rr [nI A])) (sw a .normal (aA b (rn [(nI (aT (A+1)))])) (.fail))
noncomputable def T137b0 (A:Nat) (B:Option Addr) (C:ByteArray) (D:Addr):TB:=
 fun a=>cI a fun a b=>aA b (bif (decide (a<(A:Int))) then (.join (aF B fun b=>ix a A (lS (aadd b ((Int.toNat a)*1)) fun a=>qB 147 [.string C,.string a] fun b=>bif b then (sC D [nI 5,.string a,nI 0,nI 0] (rr [])) else (rn []))) (T137k0 a)) else (re 0 [nI a]))
noncomputable def T137k1 (A:Addr) (B:ByteArray):TK:=
 fun a b=>sw a .normal (cB b fun a b=>aA b (bif a then (sC A [nI 0,(.string (bs [])),nI 0,nI 0] (.act (ldN 4 A) fun a=>rr [a])) else (grd (decide (1≤((B.size:Nat):Int))) (sC A [nI 5,(.string (B.extract 0 1)),nI 0,nI 0] (.act (ldN 4 A) fun a=>rr [a]))))) (.fail)
noncomputable def T137k2 (A:ByteArray) (B:Addr):TK:=
 fun a b=>sw a (.exit 0) (cI b fun _ a=>aA a (.join (grd (decide (0<((A.size:Nat):Int))) (bif ((cM A 0)==62)==false then (grd (decide (0<((A.size:Nat):Int))) (rn [(.bool ((cM A 0)==58))])) else (rn [.bool true]))) (T137k1 B A))) (sw a .ret (cI b fun _ a=>aA a (.act (ldN 4 B) fun a=>rr [a])) (.fail))
noncomputable def T137 (A:ByteArray):Pg:=
 nw [nI 0,(.string (bs [])),nI 0,nI 0] fun a=>bL 1 2 [(.string (bs [58,61])),(.string (bs [45,62]))] fun b c _=>.loop [nI 0] (T137b0 c b A a) (T137k2 A a)
theorem T137_eq (A:ByteArray):aH aG false 137 [.string A]=T137 A:=by kernel_rfl
noncomputable def T142k0:TK:=
 fun a b=>sw a .normal (aM b fun a b=>aK a fun a=>aA b (rn [.pointer a])) (.fail)
noncomputable def T142b0 (A:Option Addr):TB:=
 fun a=>aM a fun a b=>aK a fun a=>aA b (qB 149 [.pointer A] fun b=>bif b then (.join (.call 148 [.pointer A] fun b=>aK b fun b=>.call 74 [nI 7,(.string (bs [])),.pointer a,.pointer b] fun a=>aK a fun a=>rn [.pointer a]) (T142k0)) else (re 0 [.pointer a]))
noncomputable def T142k1:TK:=
 fun a b=>sw a (.exit 0) (aM b fun a b=>aK a fun a=>aA b (rr [.pointer a])) (.fail)
noncomputable def T142 (A:Option Addr):Pg:=
 .call 148 [.pointer A] fun a=>aK a fun a=>.loop [.pointer a] (T142b0 A) (T142k1)
theorem T142_eq (A:Option Addr):aH aG false 142 [(.pointer A)]=T142 A:=by kernel_rfl
noncomputable def T144 (A:Int):Pg:=
 qI 132 [.int .i32 A] fun a=>rr [(.bool ((a==1)||(a==2)))]
theorem T144_eq (A:Int):aH aG false 144 [(.int .i32 A)]=T144 A:=by kernel_rfl
noncomputable def T145k0:TK:=
 fun a b=>sw a .ret (cB b fun a b=>aA b (rr [.bool a])) (.fail)
noncomputable def T145b0 (A:Addr):TB:=
 fun a=>cB a fun a b=>aA b (.act (nxt (some A)) fun b=>asNx b (fun _ a=>.join (qB 94 [.int .i32 a] fun a=>rr [.bool a]) (T145k0)) (re 0 [.bool a]))
noncomputable def T145k1:TK:=
 fun a b=>sw a (.exit 0) (cB b fun _ a=>aA a (rr [.bool false])) (sw a .ret (cB b fun a b=>aA b (rr [.bool a])) (.fail))
noncomputable def T145 (A:ByteArray):Pg:=
 .act (rng A) fun a=>aK a fun a=>aF a fun a=>.loop [.bool false] (T145b0 a) (T145k1)
theorem T145_eq (A:ByteArray):aH aG false 145 [.string A]=T145 A:=by kernel_rfl
noncomputable def T146k0:TK:=
 fun a b=>sw a .normal (cB b fun a b=>aA b (rn [.bool a])) (.fail)
noncomputable def T146k1:TK:=
 fun a b=>sw a .normal (cB b fun a b=>aA b (rn [.bool a])) (.fail)
noncomputable def T146k2:TK:=
 fun a b=>sw a .normal (cB b fun a b=>aA b (rn [.bool a])) (.fail)
noncomputable def T146k3:TK:=
 fun a b=>sw a .normal (cB b fun a b=>aA b (rn [.bool a])) (.fail)
noncomputable def T146k4:TK:=
 fun a b=>sw a .normal (cB b fun a b=>aA b (rn [.bool a])) (.fail)
noncomputable def T146k5:TK:=
 fun a b=>sw a .normal (cB b fun a b=>aA b (rn [.bool a])) (.fail)
noncomputable def T146k6:TK:=
 fun a b=>sw a .normal (cB b fun a b=>aA b (rn [.bool a])) (.fail)
noncomputable def T146k7:TK:=
 fun a b=>sw a .normal (cB b fun a b=>aA b (rn [.bool a])) (.fail)
noncomputable def T146k8:TK:=
 fun a b=>sw a .normal (cB b fun a b=>aA b (rn [.bool a])) (.fail)
noncomputable def T146k9:TK:=
 fun a b=>sw a .normal (cB b fun a b=>aA b (rn [.bool a])) (.fail)
noncomputable def T146k10:TK:=
 fun a b=>sw a .normal (cB b fun a b=>aA b (rn [.bool a])) (.fail)
noncomputable def T146k11:TK:=
 fun a b=>sw a .normal (cB b fun a b=>aA b (rn [.bool a])) (.fail)
noncomputable def T146k12:TK:=
 fun a b=>sw a .normal (cB b fun a b=>aA b (rn [.bool a])) (.fail)
noncomputable def T146k13:TK:=
 fun a b=>sw a .normal (cB b fun a b=>aA b (rn [.bool a])) (.fail)
noncomputable def T146k14:TK:=
 fun a b=>sw a .normal (cB b fun a b=>aA b (rn [.bool a])) (.fail)
noncomputable def T146k15:TK:=
 fun a b=>sw a .normal (cB b fun a b=>aA b (rn [.bool a])) (.fail)
noncomputable def T146k16:TK:=
 fun a b=>sw a .normal (cB b fun a b=>aA b (rn [.bool a])) (.fail)
noncomputable def T146k17:TK:=
 fun a b=>sw a .normal (cB b fun a b=>aA b (bif a then (rr [.bool true]) else (rn [.bool false]))) (.fail)
noncomputable def T146k18:TK:=
 fun a b=>sw a .ret (cB b fun a b=>aA b (rr [.bool a])) (sw a .normal (cB b fun _ a=>aA a (rr [.bool false])) (.fail))
noncomputable def T146 (A:ByteArray):Pg:=
 .join (.join (bif (A.toList==(bs [116,121,112,101]).toList) then (rn [(.bool (A.toList==(bs [116,121,112,101]).toList))]) else (.join (bif (A.toList==(bs [111,102]).toList) then (rn [(.bool (A.toList==(bs [111,102]).toList))]) else (.join (bif (A.toList==(bs [108,101,116]).toList) then (rn [(.bool (A.toList==(bs [108,101,116]).toList))]) else (.join (bif (A.toList==(bs [114,101,99]).toList) then (rn [(.bool (A.toList==(bs [114,101,99]).toList))]) else (.join (bif (A.toList==(bs [105,110]).toList) then (rn [(.bool (A.toList==(bs [105,110]).toList))]) else (.join (bif (A.toList==(bs [102,117,110]).toList) then (rn [(.bool (A.toList==(bs [102,117,110]).toList))]) else (.join (bif (A.toList==(bs [105,102]).toList) then (rn [(.bool (A.toList==(bs [105,102]).toList))]) else (.join (bif (A.toList==(bs [116,104,101,110]).toList) then (rn [(.bool (A.toList==(bs [116,104,101,110]).toList))]) else (.join (bif (A.toList==(bs [101,108,115,101]).toList) then (rn [(.bool (A.toList==(bs [101,108,115,101]).toList))]) else (.join (bif (A.toList==(bs [109,97,116,99,104]).toList) then (rn [(.bool (A.toList==(bs [109,97,116,99,104]).toList))]) else (.join (bif (A.toList==(bs [119,105,116,104]).toList) then (rn [(.bool (A.toList==(bs [119,105,116,104]).toList))]) else (.join (bif (A.toList==(bs [101,110,100]).toList) then (rn [(.bool (A.toList==(bs [101,110,100]).toList))]) else (.join (bif (A.toList==(bs [114,101,102]).toList) then (rn [(.bool (A.toList==(bs [114,101,102]).toList))]) else (.join (bif (A.toList==(bs [112,114,105,110,116]).toList) then (rn [(.bool (A.toList==(bs [112,114,105,110,116]).toList))]) else (.join (bif (A.toList==(bs [114,101,97,100]).toList) then (rn [(.bool (A.toList==(bs [114,101,97,100]).toList))]) else (.join (bif (A.toList==(bs [114,97,105,115,101]).toList) then (rn [(.bool (A.toList==(bs [114,97,105,115,101]).toList))]) else (.join (bif (A.toList==(bs [116,114,121]).toList) then (rn [(.bool (A.toList==(bs [116,114,121]).toList))]) else (.join (bif (A.toList==(bs [116,114,117,101]).toList) then (rn [(.bool (A.toList==(bs [116,114,117,101]).toList))]) else (rn [(.bool (A.toList==(bs [102,97,108,115,101]).toList))])) (T146k0))) (T146k1))) (T146k2))) (T146k3))) (T146k4))) (T146k5))) (T146k6))) (T146k7))) (T146k8))) (T146k9))) (T146k10))) (T146k11))) (T146k12))) (T146k13))) (T146k14))) (T146k15))) (T146k16))) (T146k17)) (T146k18)
theorem T146_eq (A:ByteArray):aH aG false 146 [.string A]=T146 A:=by kernel_rfl
noncomputable def T147 (A B:ByteArray):Pg:=
 qB 150 [.string A,.string B] fun a=>rr [.bool a]
theorem T147_eq (A B:ByteArray):aH aG false 147 [.string A,.string B]=T147 A B:=by kernel_rfl
noncomputable def T148k0 (A:Int):TK:=
 fun a b=>sw a .ret (aM b fun a b=>aK a fun a=>aA b (rr [nI A,.pointer a])) (sw a .normal (aM b fun a b=>aK a fun a=>aA b (rn [(nI (aT (A+1))),.pointer a])) (.fail))
noncomputable def T148b0 (A:Option Addr) (B:Nat) (C D:Option Addr) (E:Nat) (F:Int):TB:=
 fun a=>cI a fun a b=>aM b fun b c=>aK b fun b=>aA c (bif (decide (a<4)) then (.join (aF A fun c=>ix a B (lS (aadd c ((Int.toNat a)*1)) fun c=>qB 70 [.pointer C,.string c] fun c=>bif c then (.call 148 [.pointer C] fun b=>aK b fun b=>aF D fun c=>ix a E (.act (ld1 (aadd c ((Int.toNat a)*1))) fun d=>asInt .i64 d fun f=>aF b fun g=>.act (ld1 (aadd (aadd g 0) 6)) fun h=>asInt .i64 h fun i=>bL 1 1 [.pointer b] fun b j k=>.get fun l=>grd (chks [((ld1 (aadd (aadd g 0) 6)),h),((ld1 (aadd c ((Int.toNat a)*1))),d)] l) (nw [nI f,nI 0,(.string (bs [])),(.string (bs [])),.slice none 0 0,nI F,nI i,.slice b j k] fun a=>rr [(.pointer (some a))]))) else (rn [.pointer b]))) (T148k0 a)) else (re 0 [nI a,.pointer b]))
noncomputable def T148k1 (A:Option Addr):TK:=
 fun a b=>sw a (.exit 0) (cI b fun _ a=>aM a fun a b=>aK a fun _=>aA b (.call 151 [.pointer A] fun a=>aK a fun a=>rr [.pointer a])) (sw a .ret (cI b fun _ a=>aM a fun a b=>aK a fun a=>aA b (rr [.pointer a])) (.fail))
noncomputable def T148 (A:Option Addr):Pg:=
 qA 44 [.pointer A] fun a=>cI a fun _ a=>cS a fun _ a=>cI a fun a b=>cI b fun _ b=>aA b (bL 1 4 [(.string (bs [114,101,102])),(.string (bs [33])),(.string (bs [112,114,105,110,116])),(.string (bs [114,97,105,115,101]))] fun b c _=>bL 1 4 [nI 15,nI 16,nI 17,nI 19] fun d f _=>.loop [nI 0,.pointer none] (T148b0 b c A d f a) (T148k1 A))
theorem T148_eq (A:Option Addr):aH aG false 148 [(.pointer A)]=T148 A:=by kernel_rfl
noncomputable def T149k0:TK:=
 fun a b=>sw a .normal (cB b fun a b=>aA b (rr [.bool a])) (.fail)
noncomputable def T149k1 (A:Addr):TK:=
 fun a b=>sw a .normal (cB b fun a b=>aA b (bif a then (rr [.bool true]) else (bL 1 13 [(.string (bs [114,101,102])),(.string (bs [33])),(.string (bs [112,114,105,110,116])),(.string (bs [114,97,105,115,101])),(.string (bs [116,114,117,101])),(.string (bs [102,97,108,115,101])),(.string (bs [114,101,97,100])),(.string (bs [40])),(.string (bs [102,117,110])),(.string (bs [108,101,116])),(.string (bs [105,102])),(.string (bs [109,97,116,99,104])),(.string (bs [116,114,121]))] fun a b c=>.join (lI (aadd A 0) fun d=>bif (decide (d>3))==true then (lS (aadd A 1) fun d=>qB 101 [.slice a b c,.string d] fun a=>rn [.bool a]) else (rn [.bool false])) (T149k0)))) (.fail)
noncomputable def T149k2 (A:Addr):TK:=
 fun a b=>sw a .normal (cB b fun a b=>aA b (bif a then (rr [.bool false]) else (.join (lI (aadd A 0) fun a=>bif (a==1)==false then (lI (aadd A 0) fun a=>bif (a==3)==false then (lI (aadd A 0) fun a=>bif (a==2)==true then (lS (aadd A 1) fun a=>rn [(.bool (!(a.toList==(bs [95]).toList)))]) else (rn [.bool false])) else (rn [.bool true])) else (rn [.bool true])) (T149k1 A)))) (.fail)
noncomputable def T149 (A:Option Addr):Pg:=
 qA 44 [.pointer A] fun a=>cI a fun a b=>cS b fun b c=>cI c fun c d=>cI d fun d f=>aA f (nw [nI 0,(.string (bs [])),nI 0,nI 0] fun f=>sC f [nI a,.string b,nI c,nI d] (.join (aF A fun a=>lB (aadd a 3) fun a=>bif a==false then (lI (aadd f 0) fun a=>rn [(.bool (a==0))]) else (rn [.bool true])) (T149k2 f)))
theorem T149_eq (A:Option Addr):aH aG false 149 [(.pointer A)]=T149 A:=by kernel_rfl
noncomputable def T150k0:TK:=
 fun a b=>sw a .normal (cB b fun a b=>aA b (rr [.bool a])) (.fail)
noncomputable def T150 (A B:ByteArray):Pg:=
 .join (bif (decide (((A.size:Nat):Int)≥((B.size:Nat):Int)))==true then (grd (decide (((B.size:Nat):Int)≤((A.size:Nat):Int))) (rn [(.bool ((A.extract 0 B.size).toList==B.toList))])) else (rn [.bool false])) (T150k0)
theorem T150_eq (A B:ByteArray):aH aG false 150 [.string A,.string B]=T150 A B:=by kernel_rfl
noncomputable def T151k0 (A:Option Addr):TK:=
 fun a b=>sw a .ret (aM b fun a b=>aK a fun a=>aA b (rr [.pointer a])) (sw a .normal (aM b fun a b=>aK a fun _=>aA b (.call 157 [.pointer A] fun a=>aK a fun a=>rr [.pointer a])) (.fail))
noncomputable def T151k1 (A:Addr) (B:Option Addr):TK:=
 fun a b=>sw a .ret (aM b fun a b=>aK a fun a=>aA b (rr [.pointer a])) (sw a .normal (aM b fun a b=>aK a fun a=>aA b (lS (aadd A 1) fun b=>.join (bif (b.toList==(bs [116,114,117,101]).toList) then (.call 153 [.pointer B,(.agg #[nI 2,nI 1,(.string (bs [])),(.string (bs [])),.slice none 0 0,nI 0,nI 0])] fun a=>aK a fun a=>rr [.pointer a]) else (bif (b.toList==(bs [102,97,108,115,101]).toList) then (.call 153 [.pointer B,(.agg #[nI 2,nI 0,(.string (bs [])),(.string (bs [])),.slice none 0 0,nI 0,nI 0])] fun a=>aK a fun a=>rr [.pointer a]) else (bif (b.toList==(bs [114,101,97,100]).toList) then (.call 153 [.pointer B,(.agg #[nI 18,nI 0,(.string (bs [])),(.string (bs [])),.slice none 0 0,nI 0,nI 0])] fun a=>aK a fun a=>rr [.pointer a]) else (bif (b.toList==(bs [40]).toList) then (.call 156 [.pointer B] fun a=>aK a fun a=>rr [.pointer a]) else (rn [.pointer a]))))) (T151k0 B))) (.fail))
noncomputable def T151 (A:Option Addr):Pg:=
 qA 44 [.pointer A] fun a=>cI a fun a b=>cS b fun b c=>cI c fun c d=>cI d fun d f=>aA f (nw [nI 0,(.string (bs [])),nI 0,nI 0] fun f=>sC f [nI a,.string b,nI c,nI d] (qB 149 [.pointer A] fun a=>bif (!a) then (aF A fun a=>sC (aadd a 3) [.bool true] (.call 152 [] fun a=>aK a fun a=>rr [.pointer a])) else (lI (aadd f 0) fun a=>.join (bif (a==1) then (lS (aadd f 1) fun a=>qI 154 [.string a] fun a=>.call 153 [.pointer A,(.agg #[nI 1,nI a,(.string (bs [])),(.string (bs [])),.slice none 0 0,nI 0,nI 0])] fun a=>aK a fun a=>rr [.pointer a]) else (bif (a==2) then (lS (aadd f 1) fun a=>.call 153 [.pointer A,(.agg #[nI 4,nI 0,.string a,(.string (bs [])),.slice none 0 0,nI 0,nI 0])] fun a=>aK a fun a=>rr [.pointer a]) else (bif (a==3) then (.call 155 [.pointer A] fun a=>aK a fun a=>rr [.pointer a]) else (rn [.pointer none])))) (T151k1 f A))))
theorem T151_eq (A:Option Addr):aH aG false 151 [(.pointer A)]=T151 A:=by kernel_rfl
noncomputable def T152:Pg:=
 nw [nI 3,nI 0,(.string (bs [])),(.string (bs [])),.slice none 0 0,nI 0,nI 0,.slice none 0 0] fun a=>rr [(.pointer (some a))]
theorem T152_eq:aH aG false 152 []=T152:=by kernel_rfl
noncomputable def T153 (A:Option Addr) (B C:Int) (D E:ByteArray) (F:Option Addr) (G H:Nat) (I J:Int):Pg:=
 nw [nI B,nI C,.string D,.string E,.slice F G H,nI I,nI J] fun a=>qA 44 [.pointer A] fun b=>cI b fun _ b=>cS b fun _ b=>cI b fun b c=>cI c fun _ c=>aA c (qA 44 [.pointer A] fun c=>cI c fun _ c=>cS c fun _ c=>cI c fun _ c=>cI c fun c d=>aA d (sC (aadd a 5) [nI b] (sC (aadd a 6) [nI c] (aF A fun b=>lI (aadd b 1) fun b=>aF A fun c=>sC (aadd c 1) [(nI (aT (b+1)))] (lA 7 a fun a=>cI a fun a b=>cI b fun b c=>cS c fun c d=>cS d fun d f=>cL f fun f g h i=>cI i fun i j=>cI j fun j k=>aA k (nw [nI a,nI b,.string c,.string d,.slice f g h,nI i,nI j,.slice none 0 0] fun a=>rr [(.pointer (some a))]))))))
theorem T153_eq (A:Option Addr) (B C:Int) (D E:ByteArray) (F:Option Addr) (G H:Nat) (I J:Int):aH aG false 153 [(.pointer A),(.agg #[(.int .i64 B),(.int .i64 C),.string D,.string E,.slice F G H,(.int .i64 I),(.int .i64 J)])]=T153 A B C D E F G H I J:=by kernel_rfl
noncomputable def T154k0 (A:Int):TK:=
 fun a b=>sw a .normal (cI b fun a b=>aA b (rn [(nI (aT (A+1))),nI a])) (.fail)
noncomputable def T154b0 (A:ByteArray):TB:=
 fun a=>cI a fun a b=>cI b fun b c=>aA c (bif (decide (a<((A.size:Nat):Int))) then (.join (grd ((decide (0≤a))&&(decide (a<((A.size:Nat):Int)))) (rn [(nI (aT ((aT (10*b))+(aT (wu8 ((cM A (Int.toNat a)) - 48))))))])) (T154k0 a)) else (re 0 [nI a,nI b]))
noncomputable def T154k1:TK:=
 fun a b=>sw a (.exit 0) (cI b fun _ a=>cI a fun a b=>aA b (rr [nI a])) (.fail)
noncomputable def T154 (A:ByteArray):Pg:=
 .loop [nI 0,nI 0] (T154b0 A) (T154k1)
theorem T154_eq (A:ByteArray):aH aG false 154 [.string A]=T154 A:=by kernel_rfl
noncomputable def T155k0:TK:=
 fun a b=>sw a .normal (aA b (rn [])) (.fail)
noncomputable def T155b0 (A B:Option Addr):TB:=
 fun a=>aA a (qB 70 [.pointer A,(.string (bs [44]))] fun a=>bif a then (.join (aF B fun a=>.act (ld1 (aadd a 7)) fun b=>aN b fun c d f=>.call 43 [.pointer A] fun g=>aK g fun g=>.get fun h=>grd (chks [((ld1 (aadd a 7)),b)] h) (bL 1 1 [.pointer g] fun g h i=>.get fun j=>grd (chks [((ld1 (aadd a 7)),b)] j) (.act (apS 1 8 c d f g h i) fun a=>aN a fun a b c=>aF B fun d=>sC (aadd d 7) [.slice a b c] (rn [])))) (T155k0)) else (re 0 []))
noncomputable def T155k1 (A B:Option Addr):TK:=
 fun a b=>sw a (.exit 0) (aA b (qT 72 [.pointer A,(.string (bs [41]))] fun a=>aA a (qI 158 [.pointer A] fun a=>aF B fun b=>sC (aadd (aadd b 0) 6) [nI a] (rr [.pointer B])))) (.fail)
noncomputable def T155k2 (A B:Option Addr):TK:=
 fun a b=>sw a .normal (cB b fun a b=>aA b (bif a then (rr [.pointer A]) else (qT 72 [.pointer B,(.string (bs [40]))] fun a=>aA a (aF A fun a=>.act (ld1 (aadd a 7)) fun b=>aN b fun c d f=>.call 43 [.pointer B] fun g=>aK g fun g=>.get fun h=>grd (chks [((ld1 (aadd a 7)),b)] h) (bL 1 1 [.pointer g] fun g h i=>.get fun j=>grd (chks [((ld1 (aadd a 7)),b)] j) (.act (apS 1 8 c d f g h i) fun a=>aN a fun a b c=>aF A fun d=>sC (aadd d 7) [.slice a b c] (.loop [] (T155b0 B A) (T155k1 B A)))))))) (.fail)
noncomputable def T155 (A:Option Addr):Pg:=
 qA 44 [.pointer A] fun a=>cI a fun _ a=>cS a fun a b=>cI b fun _ b=>cI b fun _ b=>aA b (.call 153 [.pointer A,(.agg #[nI 5,nI 0,.string a,(.string (bs [])),.slice none 0 0,nI 0,nI 0])] fun a=>aK a fun a=>.join (qB 96 [.pointer A,(.string (bs [40]))] fun a=>bif (!a)==false then (aF A fun a=>lI (aadd a 1) fun a=>aF A fun b=>lL (aadd b 0) fun _ b _=>bif (decide ((aT (a+1))<(b:Int)))==true then (aF A fun a=>lL (aadd a 0) fun a b _=>aF A fun c=>lI (aadd c 1) fun c=>aF a fun a=>grd ((decide (0≤(aT (c+1))))&&(decide ((aT (c+1))<(b:Int)))) (lI (aadd (aadd a ((Int.toNat (aT (c+1)))*4)) 0) fun a=>bif (a==5)==true then (aF A fun a=>lL (aadd a 0) fun a b _=>aF A fun c=>lI (aadd c 1) fun c=>aF a fun a=>grd ((decide (0≤(aT (c+1))))&&(decide ((aT (c+1))<(b:Int)))) (lS (aadd (aadd a ((Int.toNat (aT (c+1)))*4)) 1) fun a=>rn [(.bool (a.toList==(bs [41]).toList))])) else (rn [.bool false]))) else (rn [.bool false])) else (rn [.bool true])) (T155k2 a A))
theorem T155_eq (A:Option Addr):aH aG false 155 [(.pointer A)]=T155 A:=by kernel_rfl
noncomputable def T156 (A:Option Addr):Pg:=
 qA 44 [.pointer A] fun a=>cI a fun _ a=>cS a fun _ a=>cI a fun a b=>cI b fun _ b=>aA b (qT 72 [.pointer A,(.string (bs [40]))] fun b=>aA b (qB 70 [.pointer A,(.string (bs [41]))] fun b=>bif b then (qI 158 [.pointer A] fun b=>nw [nI 3,nI 0,(.string (bs [])),(.string (bs [])),.slice none 0 0,nI a,nI b,.slice none 0 0] fun a=>rr [(.pointer (some a))]) else (.call 43 [.pointer A] fun a=>aK a fun a=>qT 72 [.pointer A,(.string (bs [41]))] fun b=>aA b (rr [.pointer a]))))
theorem T156_eq (A:Option Addr):aH aG false 156 [(.pointer A)]=T156 A:=by kernel_rfl
noncomputable def T157k0 (A:Option Addr):TK:=
 fun a b=>sw a .normal (aA b (qT 72 [.pointer A,(.string (bs [61]))] fun a=>aA a (.call 43 [.pointer A] fun a=>aK a fun a=>bL 1 1 [.pointer a] fun a b c=>.act (apS 1 8 none 0 0 a b c) fun a=>aN a fun a b c=>qT 72 [.pointer A,(.string (bs [105,110]))] fun d=>aA d (.call 43 [.pointer A] fun d=>aK d fun d=>bL 1 1 [.pointer d] fun d f g=>.act (apS 1 8 a b c d f g) fun a=>aN a fun a b c=>rn [.bool false,.slice a b c])))) (.fail)
noncomputable def T157k1 (A:Option Addr) (B:Addr):TK:=
 fun a b=>sw a .normal (aA b (qS 71 [.pointer A,nI 2] fun a=>sC (aadd B 2) [.string a] (lI (aadd B 0) fun a=>.join (bif (a==9) then (qS 71 [.pointer A,nI 2] fun a=>sC (aadd B 3) [.string a] (rn [])) else (rn [])) (T157k0 A)))) (.fail)
noncomputable def T157k2 (A:Option Addr):TK:=
 fun a b=>sw a .normal (cL b fun a b c d=>aA d (qB 70 [.pointer A,(.string (bs [124]))] fun d=>rn [.bool d,.slice a b c])) (.fail)
noncomputable def T157k3 (A B:Option Addr) (C D:Nat) (E:Bool):TK:=
 fun a b=>sw a .normal (cB b fun a b=>aA b (bif a then (.join (.call 159 [.pointer A] fun a=>aK a fun a=>bL 1 1 [.pointer a] fun a b c=>.act (apS 1 8 B C D a b c) fun a=>aN a fun a b c=>qT 72 [.pointer A,(.string (bs [45,62]))] fun d=>aA d (.call 43 [.pointer A] fun d=>aK d fun d=>bL 1 1 [.pointer d] fun d f g=>.act (apS 1 8 a b c d f g) fun a=>aN a fun a b c=>rn [.slice a b c])) (T157k2 A)) else (re 1 [.bool E,.slice B C D]))) (.fail)
noncomputable def T157b0 (A:Option Addr):TB:=
 fun a=>cB a fun a b=>cL b fun b c d f=>aA f (.join (bif a==true then (aF A fun a=>lB (aadd a 3) fun a=>rn [(.bool (!a))]) else (rn [.bool false])) (T157k3 A b c d a))
noncomputable def T157k4 (A:Option Addr):TK:=
 fun a b=>sw a (.exit 1) (cB b fun _ a=>cL a fun a b c d=>aA d (qT 72 [.pointer A,(.string (bs [101,110,100]))] fun d=>aA d (rn [.slice a b c,.bool true]))) (.fail)
noncomputable def T157k5:TK:=
 fun a b=>sw a .normal (cL b fun a b c d=>cB d fun d f=>aA f (rn [.slice a b c,.bool d])) (.fail)
noncomputable def T157k6:TK:=
 fun a b=>sw a .normal (cL b fun a b c d=>cB d fun d f=>aA f (rn [.bool d,.slice a b c])) (.fail)
noncomputable def T157k7:TK:=
 fun a b=>sw a .normal (cB b fun a b=>cL b fun b c d f=>aA f (rn [.bool a,.slice b c d])) (.fail)
noncomputable def T157k8:TK:=
 fun a b=>sw a .normal (cB b fun a b=>cL b fun b c d f=>aA f (rn [.bool a,.slice b c d])) (.fail)
noncomputable def T157k9:TK:=
 fun a b=>sw a .normal (cB b fun a b=>cL b fun b c d f=>aA f (rn [.bool a,.slice b c d])) (.fail)
noncomputable def T157k10 (A:Addr) (B:Option Addr) (C D:Nat):TK:=
 fun a b=>sw a .normal (aA b (lA 7 A fun a=>cI a fun a b=>cI b fun b c=>cS c fun c d=>cS d fun d f=>cL f fun f g h i=>cI i fun i j=>cI j fun j k=>aA k (nw [nI a,nI b,.string c,.string d,.slice f g h,nI i,nI j,.slice B C D] fun a=>rr [(.pointer (some a))]))) (.fail)
noncomputable def T157k11 (A B:Option Addr) (C:Nat) (D:Addr) (E:Bool) (F:Nat):TK:=
 fun a b=>sw a .normal (cB b fun a b=>aA b (bif a then (aF A fun a=>sC (aadd a 3) [.bool true] (.call 152 [] fun a=>aK a fun a=>rr [.pointer a])) else (aF B fun a=>grd ((decide (0≤(aT ((C:Int) - 1))))&&(decide ((aT ((C:Int) - 1))<(C:Int)))) (.act (ld1 (aadd a ((Int.toNat (aT ((C:Int) - 1)))*1))) fun a=>aK a fun a=>aF a fun a=>lI (aadd (aadd a 0) 6) fun a=>sC (aadd D 6) [nI a] (.join (bif E then (qI 158 [.pointer A] fun a=>sC (aadd D 6) [nI a] (rn [])) else (rn [])) (T157k10 D B C F)))))) (.fail)
noncomputable def T157k12 (A:Option Addr) (B:Addr):TK:=
 fun a b=>sw a .normal (cB b fun a b=>cL b fun b c d f=>aA f (.join (aF A fun a=>lB (aadd a 3) fun a=>bif a==false then (rn [(.bool ((c:Int)==0))]) else (rn [.bool true])) (T157k11 A b c B a d))) (.fail)
noncomputable def T157 (A:Option Addr):Pg:=
 qA 44 [.pointer A] fun a=>cI a fun _ a=>cS a fun _ a=>cI a fun a b=>cI b fun _ b=>aA b (nw [nI 0,nI 0,(.string (bs [])),(.string (bs [])),.slice none 0 0,nI 0,nI 0] fun b=>sC b [nI 0,nI 0,(.string (bs [])),(.string (bs [])),.slice none 0 0,nI a,nI 0] (.join (qB 70 [.pointer A,(.string (bs [102,117,110]))] fun a=>.join (bif a then (qS 71 [.pointer A,nI 2] fun a=>sC (aadd b 0) [nI 6] (sC (aadd b 3) [.string a] (qT 72 [.pointer A,(.string (bs [45,62]))] fun a=>aA a (.call 43 [.pointer A] fun a=>aK a fun a=>bL 1 1 [.pointer a] fun a b c=>.act (apS 1 8 none 0 0 a b c) fun a=>aN a fun a b c=>rn [.bool false,.slice a b c])))) else (qB 70 [.pointer A,(.string (bs [108,101,116]))] fun a=>.join (bif a then (sC (aadd b 0) [nI 8] (qB 70 [.pointer A,(.string (bs [114,101,99]))] fun a=>.join (bif a then (sC (aadd b 0) [nI 9] (rn [])) else (rn [])) (T157k1 A b))) else (qB 70 [.pointer A,(.string (bs [105,102]))] fun a=>.join (bif a then (sC (aadd b 0) [nI 10] (.call 43 [.pointer A] fun a=>aK a fun a=>bL 1 1 [.pointer a] fun a b c=>.act (apS 1 8 none 0 0 a b c) fun a=>aN a fun a b c=>qT 72 [.pointer A,(.string (bs [116,104,101,110]))] fun d=>aA d (.call 43 [.pointer A] fun d=>aK d fun d=>bL 1 1 [.pointer d] fun d f g=>.act (apS 1 8 a b c d f g) fun a=>aN a fun a b c=>qT 72 [.pointer A,(.string (bs [101,108,115,101]))] fun d=>aA d (.call 43 [.pointer A] fun d=>aK d fun d=>bL 1 1 [.pointer d] fun d f g=>.act (apS 1 8 a b c d f g) fun a=>aN a fun a b c=>rn [.bool false,.slice a b c])))) else (qB 70 [.pointer A,(.string (bs [109,97,116,99,104]))] fun a=>.join (bif a then (sC (aadd b 0) [nI 11] (.call 43 [.pointer A] fun a=>aK a fun a=>bL 1 1 [.pointer a] fun a b c=>.act (apS 1 8 none 0 0 a b c) fun a=>aN a fun a b c=>qT 72 [.pointer A,(.string (bs [119,105,116,104]))] fun d=>aA d (.loop [.bool true,.slice a b c] (T157b0 A) (T157k4 A)))) else (qB 70 [.pointer A,(.string (bs [116,114,121]))] fun a=>.join (bif a then (sC (aadd b 0) [nI 20] (.call 43 [.pointer A] fun a=>aK a fun a=>bL 1 1 [.pointer a] fun a c d=>.act (apS 1 8 none 0 0 a c d) fun a=>aN a fun a c d=>qT 72 [.pointer A,(.string (bs [119,105,116,104]))] fun f=>aA f (qS 71 [.pointer A,nI 2] fun f=>sC (aadd b 3) [.string f] (qT 72 [.pointer A,(.string (bs [45,62]))] fun b=>aA b (.call 43 [.pointer A] fun b=>aK b fun b=>bL 1 1 [.pointer b] fun b f g=>.act (apS 1 8 a c d b f g) fun a=>aN a fun a b c=>qT 72 [.pointer A,(.string (bs [101,110,100]))] fun d=>aA d (rn [.slice a b c,.bool true])))))) else (rn [.slice none 0 0,.bool false])) (T157k5))) (T157k6))) (T157k7))) (T157k8))) (T157k9)) (T157k12 A b)))
theorem T157_eq (A:Option Addr):aH aG false 157 [(.pointer A)]=T157 A:=by kernel_rfl
noncomputable def T158 (A:Option Addr):Pg:=
 aF A fun a=>lL (aadd a 0) fun a b _=>aF A fun c=>lI (aadd c 1) fun c=>aF a fun a=>grd ((decide (0≤(aT (c - 1))))&&(decide ((aT (c - 1))<(b:Int)))) (lI (aadd (aadd a ((Int.toNat (aT (c - 1)))*4)) 3) fun a=>rr [nI a])
theorem T158_eq (A:Option Addr):aH aG false 158 [(.pointer A)]=T158 A:=by kernel_rfl
noncomputable def T159k0:TK:=
 fun a b=>sw a .normal (aA b (rn [])) (.fail)
noncomputable def T159b0 (A B:Option Addr):TB:=
 fun a=>aA a (qB 70 [.pointer A,(.string (bs [44]))] fun a=>bif a then (.join (aF B fun a=>.act (ld1 (aadd a 7)) fun b=>aN b fun c d f=>.call 159 [.pointer A] fun g=>aK g fun g=>.get fun h=>grd (chks [((ld1 (aadd a 7)),b)] h) (bL 1 1 [.pointer g] fun g h i=>.get fun j=>grd (chks [((ld1 (aadd a 7)),b)] j) (.act (apS 1 8 c d f g h i) fun a=>aN a fun a b c=>aF B fun d=>sC (aadd d 7) [.slice a b c] (rn [])))) (T159k0)) else (re 1 []))
noncomputable def T159k1:TK:=
 fun a b=>sw a .normal (aA b (rn [])) (.fail)
noncomputable def T159k2 (A B:Option Addr):TK:=
 fun a b=>sw a (.exit 1) (aA b (qT 72 [.pointer A,(.string (bs [41]))] fun a=>aA a (aF A fun a=>lB (aadd a 3) fun a=>.join (bif (!a) then (qI 158 [.pointer A] fun a=>aF B fun b=>sC (aadd (aadd b 0) 6) [nI a] (rn [])) else (rn [])) (T159k1)))) (.fail)
noncomputable def T159k3 (A:Option Addr):TK:=
 fun a b=>sw a .normal (aA b (rr [.pointer A])) (.fail)
noncomputable def T159k4:TK:=
 fun a b=>sw a .ret (aM b fun a b=>aK a fun a=>aA b (rr [.pointer a])) (sw a .normal (aM b fun a b=>aK a fun a=>aA b (rn [.pointer a])) (.fail))
noncomputable def T159k5 (A:Option Addr) (B:Addr):TK:=
 fun a b=>sw a .normal (cB b fun a b=>aA b (bif a then (.call 153 [.pointer A,(.agg #[nI 24,nI 0,(.string (bs [])),(.string (bs [])),.slice none 0 0,nI 0,nI 0])] fun a=>aK a fun a=>rr [.pointer a]) else (qB 70 [.pointer A,(.string (bs [40]))] fun a=>.join (bif a then (qT 72 [.pointer A,(.string (bs [41]))] fun a=>aA a (aF A fun a=>lB (aadd a 3) fun a=>bif (!a) then (.act (ld1 (aadd B 2)) fun a=>asInt .i64 a fun b=>qI 158 [.pointer A] fun c=>.get fun d=>grd (chks [((ld1 (aadd B 2)),a)] d) (nw [nI 25,nI 0,(.string (bs [])),(.string (bs [])),.slice none 0 0,nI b,nI c,.slice none 0 0] fun a=>rr [(.pointer (some a))])) else (rn [.pointer none]))) else (lI (aadd B 0) fun a=>bif (a==3) then (lS (aadd B 1) fun a=>.call 153 [.pointer A,(.agg #[nI 26,nI 0,.string a,(.string (bs [])),.slice none 0 0,nI 0,nI 0])] fun a=>aK a fun a=>qB 70 [.pointer A,(.string (bs [40]))] fun b=>.join (bif b then (aF a fun b=>.act (ld1 (aadd b 7)) fun c=>aN c fun d f g=>.call 159 [.pointer A] fun h=>aK h fun h=>.get fun i=>grd (chks [((ld1 (aadd b 7)),c)] i) (bL 1 1 [.pointer h] fun h i j=>.get fun k=>grd (chks [((ld1 (aadd b 7)),c)] k) (.act (apS 1 8 d f g h i j) fun b=>aN b fun b c d=>aF a fun f=>sC (aadd f 7) [.slice b c d] (.loop [] (T159b0 A a) (T159k2 A a))))) else (rn [])) (T159k3 a)) else (rn [.pointer none]))) (T159k4)))) (.fail)
noncomputable def T159k6 (A:Option Addr) (B:Addr):TK:=
 fun a b=>sw a .normal (cB b fun a b=>aA b (bif a then (.call 153 [.pointer A,(.agg #[nI 24,nI 1,(.string (bs [])),(.string (bs [])),.slice none 0 0,nI 0,nI 0])] fun a=>aK a fun a=>rr [.pointer a]) else (.join (lI (aadd B 0) fun a=>bif (a==4)==true then (lS (aadd B 1) fun a=>rn [(.bool (a.toList==(bs [102,97,108,115,101]).toList))]) else (rn [.bool false])) (T159k5 A B)))) (.fail)
noncomputable def T159k7 (A:Option Addr) (B:Addr):TK:=
 fun a b=>sw a .normal (cB b fun a b=>aA b (bif a then (.call 153 [.pointer A,(.agg #[nI 21,nI 0,(.string (bs [])),(.string (bs [])),.slice none 0 0,nI 0,nI 0])] fun a=>aK a fun a=>rr [.pointer a]) else (lI (aadd B 0) fun a=>bif (a==2) then (lS (aadd B 1) fun a=>.call 153 [.pointer A,(.agg #[nI 22,nI 0,.string a,(.string (bs [])),.slice none 0 0,nI 0,nI 0])] fun a=>aK a fun a=>rr [.pointer a]) else (lI (aadd B 0) fun a=>bif (a==1) then (lS (aadd B 1) fun a=>qI 154 [.string a] fun a=>.call 153 [.pointer A,(.agg #[nI 23,nI a,(.string (bs [])),(.string (bs [])),.slice none 0 0,nI 0,nI 0])] fun a=>aK a fun a=>rr [.pointer a]) else (.join (lI (aadd B 0) fun a=>bif (a==4)==true then (lS (aadd B 1) fun a=>rn [(.bool (a.toList==(bs [116,114,117,101]).toList))]) else (rn [.bool false])) (T159k6 A B)))))) (.fail)
noncomputable def T159k8:TK:=
 fun a b=>sw a .normal (aM b fun a b=>aK a fun a=>aA b (rn [.pointer a])) (sw a .ret (aM b fun a b=>aK a fun a=>aA b (rr [.pointer a])) (.fail))
noncomputable def T159k9 (A:Option Addr):TK:=
 fun a b=>sw a .normal (aM b fun a b=>aK a fun _=>aA b (aF A fun a=>sC (aadd a 3) [.bool true] (.call 152 [] fun a=>aK a fun a=>rr [.pointer a]))) (sw a .ret (aM b fun a b=>aK a fun a=>aA b (rr [.pointer a])) (.fail))
noncomputable def T159 (A:Option Addr):Pg:=
 qA 44 [.pointer A] fun a=>cI a fun a b=>cS b fun b c=>cI c fun c d=>cI d fun d f=>aA f (nw [nI 0,(.string (bs [])),nI 0,nI 0] fun f=>sC f [nI a,.string b,nI c,nI d] (.join (aF A fun a=>lB (aadd a 3) fun a=>.join (bif a then (rn [.pointer none]) else (.join (lI (aadd f 0) fun a=>bif (a==2)==true then (lS (aadd f 1) fun a=>rn [(.bool (a.toList==(bs [95]).toList))]) else (rn [.bool false])) (T159k7 A f))) (T159k8)) (T159k9 A)))
theorem T159_eq (A:Option Addr):aH aG false 159 [(.pointer A)]=T159 A:=by kernel_rfl
noncomputable def A5:List Value→Option Pg
 |[.slice p0 n1 n2]=>some (T5 p0 n1 n2)
 |_=>none
theorem A5_ok:∀ args p,A5 args=some p→aH aG false 5 args=p:=by
 intro args p h
 unfold A5 at h
 split at h
 ·cases h;exact T5_eq _ _ _
 ·cases h
noncomputable def A9:List Value→Option Pg
 |[]=>some (T9)
 |_=>none
theorem A9_ok:∀ args p,A9 args=some p→aH aG false 9 args=p:=by
 intro args p h
 unfold A9 at h
 split at h
 ·cases h;exact T9_eq
 ·cases h
noncomputable def A10:List Value→Option Pg
 |[.string s0]=>some (T10 s0)
 |_=>none
theorem A10_ok:∀ args p,A10 args=some p→aH aG false 10 args=p:=by
 intro args p h
 unfold A10 at h
 split at h
 ·cases h;exact T10_eq _
 ·cases h
noncomputable def A11:List Value→Option Pg
 |[.slice p0 n1 n2]=>some (T11 p0 n1 n2)
 |_=>none
theorem A11_ok:∀ args p,A11 args=some p→aH aG false 11 args=p:=by
 intro args p h
 unfold A11 at h
 split at h
 ·cases h;exact T11_eq _ _ _
 ·cases h
noncomputable def A12:List Value→Option Pg
 |[(.agg c0),.slice p6 n7 n8]=>(match c0.toList with
  |[.slice p0 n1 n2,.slice p3 n4 n5]=>some (T12 p0 n1 n2 p3 n4 n5 p6 n7 n8)
  |_=>none)
 |_=>none
theorem A12_ok:∀ args p,A12 args=some p→aH aG false 12 args=p:=by
 intro args p h
 unfold A12 at h
 split at h
 ·split at h
  ·rename_i e0
   have f0:=cX e0
   subst f0
   cases h
   exact T12_eq _ _ _ _ _ _ _ _ _
  ·cases h
 ·cases h
noncomputable def A13:List Value→Option Pg
 |[(.pointer p0),(.int .i64 i1)]=>some (T13 p0 i1)
 |_=>none
theorem A13_ok:∀ args p,A13 args=some p→aH aG false 13 args=p:=by
 intro args p h
 unfold A13 at h
 split at h
 ·cases h;exact T13_eq _ _
 ·cases h
noncomputable def A14:List Value→Option Pg
 |[(.pointer p0)]=>some (T14 p0)
 |_=>none
theorem A14_ok:∀ args p,A14 args=some p→aH aG false 14 args=p:=by
 intro args p h
 unfold A14 at h
 split at h
 ·cases h;exact T14_eq _
 ·cases h
noncomputable def A16:List Value→Option Pg
 |[(.pointer p0)]=>some (T16 p0)
 |_=>none
theorem A16_ok:∀ args p,A16 args=some p→aH aG false 16 args=p:=by
 intro args p h
 unfold A16 at h
 split at h
 ·cases h;exact T16_eq _
 ·cases h
noncomputable def A18:List Value→Option Pg
 |[(.int .i64 i0)]=>some (T18 i0)
 |_=>none
theorem A18_ok:∀ args p,A18 args=some p→aH aG false 18 args=p:=by
 intro args p h
 unfold A18 at h
 split at h
 ·cases h;exact T18_eq _
 ·cases h
noncomputable def A19:List Value→Option Pg
 |[(.int .i64 i0)]=>some (T19 i0)
 |_=>none
theorem A19_ok:∀ args p,A19 args=some p→aH aG false 19 args=p:=by
 intro args p h
 unfold A19 at h
 split at h
 ·cases h;exact T19_eq _
 ·cases h
noncomputable def A20:List Value→Option Pg
 |[(.pointer p0)]=>some (T20 p0)
 |_=>none
theorem A20_ok:∀ args p,A20 args=some p→aH aG false 20 args=p:=by
 intro args p h
 unfold A20 at h
 split at h
 ·cases h;exact T20_eq _
 ·cases h
noncomputable def A24:List Value→Option Pg
 |[(.pointer p0)]=>some (T24 p0)
 |_=>none
theorem A24_ok:∀ args p,A24 args=some p→aH aG false 24 args=p:=by
 intro args p h
 unfold A24 at h
 split at h
 ·cases h;exact T24_eq _
 ·cases h
noncomputable def A27:List Value→Option Pg
 |[(.pointer p0)]=>some (T27 p0)
 |_=>none
theorem A27_ok:∀ args p,A27 args=some p→aH aG false 27 args=p:=by
 intro args p h
 unfold A27 at h
 split at h
 ·cases h;exact T27_eq _
 ·cases h
noncomputable def A28:List Value→Option Pg
 |[.string s0,.slice p1 n2 n3]=>some (T28 s0 p1 n2 n3)
 |_=>none
theorem A28_ok:∀ args p,A28 args=some p→aH aG false 28 args=p:=by
 intro args p h
 unfold A28 at h
 split at h
 ·cases h;exact T28_eq _ _ _ _
 ·cases h
noncomputable def A29:List Value→Option Pg
 |[.string s0]=>some (T29 s0)
 |_=>none
theorem A29_ok:∀ args p,A29 args=some p→aH aG false 29 args=p:=by
 intro args p h
 unfold A29 at h
 split at h
 ·cases h;exact T29_eq _
 ·cases h
noncomputable def A30:List Value→Option Pg
 |[(.int .i64 i0)]=>some (T30 i0)
 |_=>none
theorem A30_ok:∀ args p,A30 args=some p→aH aG false 30 args=p:=by
 intro args p h
 unfold A30 at h
 split at h
 ·cases h;exact T30_eq _
 ·cases h
noncomputable def A31:List Value→Option Pg
 |[(.int .i64 i0)]=>some (T31 i0)
 |_=>none
theorem A31_ok:∀ args p,A31 args=some p→aH aG false 31 args=p:=by
 intro args p h
 unfold A31 at h
 split at h
 ·cases h;exact T31_eq _
 ·cases h
noncomputable def A32:List Value→Option Pg
 |[(.agg c0)]=>(match c0.toList with
  |[.slice p0 n1 n2,.slice p3 n4 n5]=>some (T32 p0 n1 n2 p3 n4 n5)
  |_=>none)
 |_=>none
theorem A32_ok:∀ args p,A32 args=some p→aH aG false 32 args=p:=by
 intro args p h
 unfold A32 at h
 split at h
 ·split at h
  ·rename_i e0
   have f0:=cX e0
   subst f0
   cases h
   exact T32_eq _ _ _ _ _ _
  ·cases h
 ·cases h
noncomputable def A33:List Value→Option Pg
 |[.slice p0 n1 n2,v3]=>some (T33 p0 n1 n2 v3)
 |_=>none
theorem A33_ok:∀ args p,A33 args=some p→aH aG false 33 args=p:=by
 intro args p h
 unfold A33 at h
 split at h
 ·cases h;exact T33_eq _ _ _ _
 ·cases h
noncomputable def A34:List Value→Option Pg
 |[.slice p0 n1 n2]=>some (T34 p0 n1 n2)
 |_=>none
theorem A34_ok:∀ args p,A34 args=some p→aH aG false 34 args=p:=by
 intro args p h
 unfold A34 at h
 split at h
 ·cases h;exact T34_eq _ _ _
 ·cases h
noncomputable def A36:List Value→Option Pg
 |[.slice p0 n1 n2]=>some (T36 p0 n1 n2)
 |_=>none
theorem A36_ok:∀ args p,A36 args=some p→aH aG false 36 args=p:=by
 intro args p h
 unfold A36 at h
 split at h
 ·cases h;exact T36_eq _ _ _
 ·cases h
noncomputable def A37:List Value→Option Pg
 |[(.pointer p0)]=>some (T37 p0)
 |_=>none
theorem A37_ok:∀ args p,A37 args=some p→aH aG false 37 args=p:=by
 intro args p h
 unfold A37 at h
 split at h
 ·cases h;exact T37_eq _
 ·cases h
noncomputable def A39:List Value→Option Pg
 |[(.pointer p0),(.agg c0)]=>(match c0.toList with
  |[(.int .i64 i1),(.int .i64 i2),.string s3,.slice p4 n5 n6,(.int .i64 i7),(.pointer p8),(.int .i64 i9)]=>some (T39 p0 i1 i2 s3 p4 n5 n6 i7 p8 i9)
  |_=>none)
 |_=>none
theorem A39_ok:∀ args p,A39 args=some p→aH aG false 39 args=p:=by
 intro args p h
 unfold A39 at h
 split at h
 ·split at h
  ·rename_i e0
   have f0:=cX e0
   subst f0
   cases h
   exact T39_eq _ _ _ _ _ _ _ _ _ _
  ·cases h
 ·cases h
noncomputable def A40:List Value→Option Pg
 |[(.pointer p0)]=>some (T40 p0)
 |_=>none
theorem A40_ok:∀ args p,A40 args=some p→aH aG false 40 args=p:=by
 intro args p h
 unfold A40 at h
 split at h
 ·cases h;exact T40_eq _
 ·cases h
noncomputable def A41:List Value→Option Pg
 |[.string s0]=>some (T41 s0)
 |_=>none
theorem A41_ok:∀ args p,A41 args=some p→aH aG false 41 args=p:=by
 intro args p h
 unfold A41 at h
 split at h
 ·cases h;exact T41_eq _
 ·cases h
noncomputable def A42:List Value→Option Pg
 |[(.pointer p0)]=>some (T42 p0)
 |_=>none
theorem A42_ok:∀ args p,A42 args=some p→aH aG false 42 args=p:=by
 intro args p h
 unfold A42 at h
 split at h
 ·cases h;exact T42_eq _
 ·cases h
noncomputable def A43:List Value→Option Pg
 |[(.pointer p0)]=>some (T43 p0)
 |_=>none
theorem A43_ok:∀ args p,A43 args=some p→aH aG false 43 args=p:=by
 intro args p h
 unfold A43 at h
 split at h
 ·cases h;exact T43_eq _
 ·cases h
noncomputable def A44:List Value→Option Pg
 |[(.pointer p0)]=>some (T44 p0)
 |_=>none
theorem A44_ok:∀ args p,A44 args=some p→aH aG false 44 args=p:=by
 intro args p h
 unfold A44 at h
 split at h
 ·cases h;exact T44_eq _
 ·cases h
noncomputable def A45:List Value→Option Pg
 |[(.pointer p0),(.pointer p1),(.int .i64 i2)]=>some (T45 p0 p1 i2)
 |_=>none
theorem A45_ok:∀ args p,A45 args=some p→aH aG false 45 args=p:=by
 intro args p h
 unfold A45 at h
 split at h
 ·cases h;exact T45_eq _ _ _
 ·cases h
noncomputable def A46:List Value→Option Pg
 |[(.agg c0)]=>(match c0.toList with
  |[.slice p0 n1 n2,.slice p3 n4 n5]=>some (T46 p0 n1 n2 p3 n4 n5)
  |_=>none)
 |_=>none
theorem A46_ok:∀ args p,A46 args=some p→aH aG false 46 args=p:=by
 intro args p h
 unfold A46 at h
 split at h
 ·split at h
  ·rename_i e0
   have f0:=cX e0
   subst f0
   cases h
   exact T46_eq _ _ _ _ _ _
  ·cases h
 ·cases h
noncomputable def A47:List Value→Option Pg
 |[.slice p0 n1 n2]=>some (T47 p0 n1 n2)
 |_=>none
theorem A47_ok:∀ args p,A47 args=some p→aH aG false 47 args=p:=by
 intro args p h
 unfold A47 at h
 split at h
 ·cases h;exact T47_eq _ _ _
 ·cases h
noncomputable def A48:List Value→Option Pg
 |[(.pointer p0),.bool b1,(.int .i64 i2)]=>some (T48 p0 b1 i2)
 |_=>none
theorem A48_ok:∀ args p,A48 args=some p→aH aG false 48 args=p:=by
 intro args p h
 unfold A48 at h
 split at h
 ·cases h;exact T48_eq _ _ _
 ·cases h
noncomputable def A49:List Value→Option Pg
 |[(.int .i64 i0)]=>some (T49 i0)
 |_=>none
theorem A49_ok:∀ args p,A49 args=some p→aH aG false 49 args=p:=by
 intro args p h
 unfold A49 at h
 split at h
 ·cases h;exact T49_eq _
 ·cases h
noncomputable def A50:List Value→Option Pg
 |[.slice p0 n1 n2]=>some (T50 p0 n1 n2)
 |_=>none
theorem A50_ok:∀ args p,A50 args=some p→aH aG false 50 args=p:=by
 intro args p h
 unfold A50 at h
 split at h
 ·cases h;exact T50_eq _ _ _
 ·cases h
noncomputable def A51:List Value→Option Pg
 |[(.agg c0),(.int .i64 i6)]=>(match c0.toList with
  |[.slice p0 n1 n2,.slice p3 n4 n5]=>some (T51 p0 n1 n2 p3 n4 n5 i6)
  |_=>none)
 |_=>none
theorem A51_ok:∀ args p,A51 args=some p→aH aG false 51 args=p:=by
 intro args p h
 unfold A51 at h
 split at h
 ·split at h
  ·rename_i e0
   have f0:=cX e0
   subst f0
   cases h
   exact T51_eq _ _ _ _ _ _ _
  ·cases h
 ·cases h
noncomputable def A52:List Value→Option Pg
 |[.slice p0 n1 n2,v3]=>some (T52 p0 n1 n2 v3)
 |_=>none
theorem A52_ok:∀ args p,A52 args=some p→aH aG false 52 args=p:=by
 intro args p h
 unfold A52 at h
 split at h
 ·cases h;exact T52_eq _ _ _ _
 ·cases h
noncomputable def A55:List Value→Option Pg
 |[(.int .i64 i0)]=>some (T55 i0)
 |_=>none
theorem A55_ok:∀ args p,A55 args=some p→aH aG false 55 args=p:=by
 intro args p h
 unfold A55 at h
 split at h
 ·cases h;exact T55_eq _
 ·cases h
noncomputable def A56:List Value→Option Pg
 |[(.pointer p0),(.agg c0)]=>(match c0.toList with
  |[(.int .i64 i1),(.int .i64 i2),.string s3,.slice p4 n5 n6,(.int .i64 i7),(.pointer p8),(.int .i64 i9)]=>some (T56 p0 i1 i2 s3 p4 n5 n6 i7 p8 i9)
  |_=>none)
 |_=>none
theorem A56_ok:∀ args p,A56 args=some p→aH aG false 56 args=p:=by
 intro args p h
 unfold A56 at h
 split at h
 ·split at h
  ·rename_i e0
   have f0:=cX e0
   subst f0
   cases h
   exact T56_eq _ _ _ _ _ _ _ _ _ _
  ·cases h
 ·cases h
noncomputable def A57:List Value→Option Pg
 |[(.pointer p0),(.int .i64 i1),(.pointer p2)]=>some (T57 p0 i1 p2)
 |_=>none
theorem A57_ok:∀ args p,A57 args=some p→aH aG false 57 args=p:=by
 intro args p h
 unfold A57 at h
 split at h
 ·cases h;exact T57_eq _ _ _
 ·cases h
noncomputable def A58:List Value→Option Pg
 |[(.pointer p0),(.agg c0),(.pointer p10),(.agg c1)]=>(match c0.toList with
  |[(.int .i64 i1),(.int .i64 i2),.string s3,.string s4,.slice p5 n6 n7,(.int .i64 i8),(.int .i64 i9)]=>(match c1.toList with
  |[(.int .i64 i11),(.int .i64 i12),.string s13,.slice p14 n15 n16,(.int .i64 i17),(.pointer p18),(.int .i64 i19)]=>some (T58 p0 i1 i2 s3 s4 p5 n6 n7 i8 i9 p10 i11 i12 s13 p14 n15 n16 i17 p18 i19)
  |_=>none)
  |_=>none)
 |_=>none
theorem A58_ok:∀ args p,A58 args=some p→aH aG false 58 args=p:=by
 intro args p h
 unfold A58 at h
 split at h
 ·split at h
  ·split at h
   ·rename_i e0 d1 x1_0 x1_1 x1_2 x1_3 x1_4 x1_5 x1_6 x1_7 x1_8 e1
    have f0:=cX e0
    subst f0
    have f1:=cX e1
    subst f1
    cases h
    exact T58_eq _ _ _ _ _ _ _ _ _ _ _ _ _ _ _ _ _ _ _ _
   ·cases h
  ·cases h
 ·cases h
noncomputable def A59:List Value→Option Pg
 |[(.pointer p0),(.agg c0),(.pointer p10),(.agg c1)]=>(match c0.toList with
  |[(.int .i64 i1),(.int .i64 i2),.string s3,.string s4,.slice p5 n6 n7,(.int .i64 i8),(.int .i64 i9)]=>(match c1.toList with
  |[(.int .i64 i11),(.int .i64 i12),.string s13,.slice p14 n15 n16,(.int .i64 i17),(.pointer p18),(.int .i64 i19)]=>some (T59 p0 i1 i2 s3 s4 p5 n6 n7 i8 i9 p10 i11 i12 s13 p14 n15 n16 i17 p18 i19)
  |_=>none)
  |_=>none)
 |_=>none
theorem A59_ok:∀ args p,A59 args=some p→aH aG false 59 args=p:=by
 intro args p h
 unfold A59 at h
 split at h
 ·split at h
  ·split at h
   ·rename_i e0 d1 x1_0 x1_1 x1_2 x1_3 x1_4 x1_5 x1_6 x1_7 x1_8 e1
    have f0:=cX e0
    subst f0
    have f1:=cX e1
    subst f1
    cases h
    exact T59_eq _ _ _ _ _ _ _ _ _ _ _ _ _ _ _ _ _ _ _ _
   ·cases h
  ·cases h
 ·cases h
noncomputable def A60:List Value→Option Pg
 |[(.pointer p0),(.int .i64 i1),(.agg c0),.slice p11 n12 n13]=>(match c0.toList with
  |[(.int .i64 i2),(.int .i64 i3),.string s4,.string s5,.slice p6 n7 n8,(.int .i64 i9),(.int .i64 i10)]=>some (T60 p0 i1 i2 i3 s4 s5 p6 n7 n8 i9 i10 p11 n12 n13)
  |_=>none)
 |_=>none
theorem A60_ok:∀ args p,A60 args=some p→aH aG false 60 args=p:=by
 intro args p h
 unfold A60 at h
 split at h
 ·split at h
  ·rename_i e0
   have f0:=cX e0
   subst f0
   cases h
   exact T60_eq _ _ _ _ _ _ _ _ _ _ _ _ _ _
  ·cases h
 ·cases h
noncomputable def A61:List Value→Option Pg
 |[(.int .i64 i0)]=>some (T61 i0)
 |_=>none
theorem A61_ok:∀ args p,A61 args=some p→aH aG false 61 args=p:=by
 intro args p h
 unfold A61 at h
 split at h
 ·cases h;exact T61_eq _
 ·cases h
noncomputable def A62:List Value→Option Pg
 |[]=>some (T62)
 |_=>none
theorem A62_ok:∀ args p,A62 args=some p→aH aG false 62 args=p:=by
 intro args p h
 unfold A62 at h
 split at h
 ·cases h;exact T62_eq
 ·cases h
noncomputable def A63:List Value→Option Pg
 |[(.pointer p0),.string s1]=>some (T63 p0 s1)
 |_=>none
theorem A63_ok:∀ args p,A63 args=some p→aH aG false 63 args=p:=by
 intro args p h
 unfold A63 at h
 split at h
 ·cases h;exact T63_eq _ _
 ·cases h
noncomputable def A64:List Value→Option Pg
 |[(.pointer p0)]=>some (T64 p0)
 |_=>none
theorem A64_ok:∀ args p,A64 args=some p→aH aG false 64 args=p:=by
 intro args p h
 unfold A64 at h
 split at h
 ·cases h;exact T64_eq _
 ·cases h
noncomputable def A65:List Value→Option Pg
 |[(.pointer p0)]=>some (T65 p0)
 |_=>none
theorem A65_ok:∀ args p,A65 args=some p→aH aG false 65 args=p:=by
 intro args p h
 unfold A65 at h
 split at h
 ·cases h;exact T65_eq _
 ·cases h
noncomputable def A66:List Value→Option Pg
 |[.string s0]=>some (T66 s0)
 |_=>none
theorem A66_ok:∀ args p,A66 args=some p→aH aG false 66 args=p:=by
 intro args p h
 unfold A66 at h
 split at h
 ·cases h;exact T66_eq _
 ·cases h
noncomputable def A67:List Value→Option Pg
 |[(.int .i32 i0)]=>some (T67 i0)
 |_=>none
theorem A67_ok:∀ args p,A67 args=some p→aH aG false 67 args=p:=by
 intro args p h
 unfold A67 at h
 split at h
 ·cases h;exact T67_eq _
 ·cases h
noncomputable def A68:List Value→Option Pg
 |[.string s0,(.int .i64 i1)]=>some (T68 s0 i1)
 |_=>none
theorem A68_ok:∀ args p,A68 args=some p→aH aG false 68 args=p:=by
 intro args p h
 unfold A68 at h
 split at h
 ·cases h;exact T68_eq _ _
 ·cases h
noncomputable def A69:List Value→Option Pg
 |[.string s0,(.int .i64 i1)]=>some (T69 s0 i1)
 |_=>none
theorem A69_ok:∀ args p,A69 args=some p→aH aG false 69 args=p:=by
 intro args p h
 unfold A69 at h
 split at h
 ·cases h;exact T69_eq _ _
 ·cases h
noncomputable def A70:List Value→Option Pg
 |[(.pointer p0),.string s1]=>some (T70 p0 s1)
 |_=>none
theorem A70_ok:∀ args p,A70 args=some p→aH aG false 70 args=p:=by
 intro args p h
 unfold A70 at h
 split at h
 ·cases h;exact T70_eq _ _
 ·cases h
noncomputable def A71:List Value→Option Pg
 |[(.pointer p0),(.int .i64 i1)]=>some (T71 p0 i1)
 |_=>none
theorem A71_ok:∀ args p,A71 args=some p→aH aG false 71 args=p:=by
 intro args p h
 unfold A71 at h
 split at h
 ·cases h;exact T71_eq _ _
 ·cases h
noncomputable def A72:List Value→Option Pg
 |[(.pointer p0),.string s1]=>some (T72 p0 s1)
 |_=>none
theorem A72_ok:∀ args p,A72 args=some p→aH aG false 72 args=p:=by
 intro args p h
 unfold A72 at h
 split at h
 ·cases h;exact T72_eq _ _
 ·cases h
noncomputable def A73:List Value→Option Pg
 |[(.pointer p0)]=>some (T73 p0)
 |_=>none
theorem A73_ok:∀ args p,A73 args=some p→aH aG false 73 args=p:=by
 intro args p h
 unfold A73 at h
 split at h
 ·cases h;exact T73_eq _
 ·cases h
noncomputable def A74:List Value→Option Pg
 |[(.int .i64 i0),.string s1,(.pointer p2),(.pointer p3)]=>some (T74 i0 s1 p2 p3)
 |_=>none
theorem A74_ok:∀ args p,A74 args=some p→aH aG false 74 args=p:=by
 intro args p h
 unfold A74 at h
 split at h
 ·cases h;exact T74_eq _ _ _ _
 ·cases h
noncomputable def A75:List Value→Option Pg
 |[(.agg c0)]=>(match c0.toList with
  |[.slice p0 n1 n2,.slice p3 n4 n5]=>some (T75 p0 n1 n2 p3 n4 n5)
  |_=>none)
 |_=>none
theorem A75_ok:∀ args p,A75 args=some p→aH aG false 75 args=p:=by
 intro args p h
 unfold A75 at h
 split at h
 ·split at h
  ·rename_i e0
   have f0:=cX e0
   subst f0
   cases h
   exact T75_eq _ _ _ _ _ _
  ·cases h
 ·cases h
noncomputable def A76:List Value→Option Pg
 |[(.agg c0),(.int .i64 i6),.bool b7,(.int .i64 i8)]=>(match c0.toList with
  |[.slice p0 n1 n2,.slice p3 n4 n5]=>some (T76 p0 n1 n2 p3 n4 n5 i6 b7 i8)
  |_=>none)
 |_=>none
theorem A76_ok:∀ args p,A76 args=some p→aH aG false 76 args=p:=by
 intro args p h
 unfold A76 at h
 split at h
 ·split at h
  ·rename_i e0
   have f0:=cX e0
   subst f0
   cases h
   exact T76_eq _ _ _ _ _ _ _ _ _
  ·cases h
 ·cases h
noncomputable def A77:List Value→Option Pg
 |[.string s0]=>some (T77 s0)
 |_=>none
theorem A77_ok:∀ args p,A77 args=some p→aH aG false 77 args=p:=by
 intro args p h
 unfold A77 at h
 split at h
 ·cases h;exact T77_eq _
 ·cases h
noncomputable def A78:List Value→Option Pg
 |[.string s0]=>some (T78 s0)
 |_=>none
theorem A78_ok:∀ args p,A78 args=some p→aH aG false 78 args=p:=by
 intro args p h
 unfold A78 at h
 split at h
 ·cases h;exact T78_eq _
 ·cases h
noncomputable def A79:List Value→Option Pg
 |[.string s0]=>some (T79 s0)
 |_=>none
theorem A79_ok:∀ args p,A79 args=some p→aH aG false 79 args=p:=by
 intro args p h
 unfold A79 at h
 split at h
 ·cases h;exact T79_eq _
 ·cases h
noncomputable def A80:List Value→Option Pg
 |[.string s0,(.pointer (some a1))]=>some (T80 s0 a1)
 |_=>none
theorem A80_ok:∀ args p,A80 args=some p→aH aG false 80 args=p:=by
 intro args p h
 unfold A80 at h
 split at h
 ·cases h;exact T80_eq _ _
 ·cases h
noncomputable def A81:List Value→Option Pg
 |[.slice p0 n1 n2,.string s3]=>some (T81 p0 n1 n2 s3)
 |_=>none
theorem A81_ok:∀ args p,A81 args=some p→aH aG false 81 args=p:=by
 intro args p h
 unfold A81 at h
 split at h
 ·cases h;exact T81_eq _ _ _ _
 ·cases h
noncomputable def A82:List Value→Option Pg
 |[.string s0,(.pointer (some a1))]=>some (T82 s0 a1)
 |_=>none
theorem A82_ok:∀ args p,A82 args=some p→aH aG false 82 args=p:=by
 intro args p h
 unfold A82 at h
 split at h
 ·cases h;exact T82_eq _ _
 ·cases h
noncomputable def A83:List Value→Option Pg
 |[.slice p0 n1 n2,v3]=>some (T83 p0 n1 n2 v3)
 |_=>none
theorem A83_ok:∀ args p,A83 args=some p→aH aG false 83 args=p:=by
 intro args p h
 unfold A83 at h
 split at h
 ·cases h;exact T83_eq _ _ _ _
 ·cases h
noncomputable def A84:List Value→Option Pg
 |[(.agg c0),(.agg c1)]=>(match c0.toList with
  |[.slice p0 n1 n2,.slice p3 n4 n5]=>(match c1.toList with
  |[(.int .i64 i6),(.int .i64 i7),.string s8,.string s9,.slice p10 n11 n12,(.int .i64 i13),(.int .i64 i14)]=>some (T84 p0 n1 n2 p3 n4 n5 i6 i7 s8 s9 p10 n11 n12 i13 i14)
  |_=>none)
  |_=>none)
 |_=>none
theorem A84_ok:∀ args p,A84 args=some p→aH aG false 84 args=p:=by
 intro args p h
 unfold A84 at h
 split at h
 ·split at h
  ·split at h
   ·rename_i e0 d1 x1_0 x1_1 x1_2 x1_3 x1_4 x1_5 x1_6 x1_7 x1_8 e1
    have f0:=cX e0
    subst f0
    have f1:=cX e1
    subst f1
    cases h
    exact T84_eq _ _ _ _ _ _ _ _ _ _ _ _ _ _ _
   ·cases h
  ·cases h
 ·cases h
noncomputable def A85:List Value→Option Pg
 |[(.int .i64 i0)]=>some (T85 i0)
 |_=>none
theorem A85_ok:∀ args p,A85 args=some p→aH aG false 85 args=p:=by
 intro args p h
 unfold A85 at h
 split at h
 ·cases h;exact T85_eq _
 ·cases h
noncomputable def A87:List Value→Option Pg
 |[(.pointer p0),(.int .i64 i1),(.agg c0),(.pointer p11)]=>(match c0.toList with
  |[(.int .i64 i2),(.int .i64 i3),.string s4,.slice p5 n6 n7,(.int .i64 i8),(.pointer p9),(.int .i64 i10)]=>some (T87 p0 i1 i2 i3 s4 p5 n6 n7 i8 p9 i10 p11)
  |_=>none)
 |_=>none
theorem A87_ok:∀ args p,A87 args=some p→aH aG false 87 args=p:=by
 intro args p h
 unfold A87 at h
 split at h
 ·split at h
  ·rename_i e0
   have f0:=cX e0
   subst f0
   cases h
   exact T87_eq _ _ _ _ _ _ _ _ _ _ _ _
  ·cases h
 ·cases h
noncomputable def A88:List Value→Option Pg
 |[(.pointer p0),(.int .i64 i1),(.agg c0),(.agg c1)]=>(match c0.toList with
  |[(.int .i64 i2),(.int .i64 i3),.string s4,.slice p5 n6 n7,(.int .i64 i8),(.pointer p9),(.int .i64 i10)]=>(match c1.toList with
  |[(.int .i64 i11),(.int .i64 i12),.string s13,.slice p14 n15 n16,(.int .i64 i17),(.pointer p18),(.int .i64 i19)]=>some (T88 p0 i1 i2 i3 s4 p5 n6 n7 i8 p9 i10 i11 i12 s13 p14 n15 n16 i17 p18 i19)
  |_=>none)
  |_=>none)
 |_=>none
theorem A88_ok:∀ args p,A88 args=some p→aH aG false 88 args=p:=by
 intro args p h
 unfold A88 at h
 split at h
 ·split at h
  ·split at h
   ·rename_i e0 d1 x1_0 x1_1 x1_2 x1_3 x1_4 x1_5 x1_6 x1_7 x1_8 e1
    have f0:=cX e0
    subst f0
    have f1:=cX e1
    subst f1
    cases h
    exact T88_eq _ _ _ _ _ _ _ _ _ _ _ _ _ _ _ _ _ _ _ _
   ·cases h
  ·cases h
 ·cases h
noncomputable def A89:List Value→Option Pg
 |[.string s0,(.int .i64 i1),(.int .i64 i2)]=>some (T89 s0 i1 i2)
 |_=>none
theorem A89_ok:∀ args p,A89 args=some p→aH aG false 89 args=p:=by
 intro args p h
 unfold A89 at h
 split at h
 ·cases h;exact T89_eq _ _ _
 ·cases h
noncomputable def A90:List Value→Option Pg
 |[(.pointer p0),(.agg c0)]=>(match c0.toList with
  |[(.int .i64 i1),(.int .i64 i2),.string s3,.slice p4 n5 n6,(.int .i64 i7),(.pointer p8),(.int .i64 i9)]=>some (T90 p0 i1 i2 s3 p4 n5 n6 i7 p8 i9)
  |_=>none)
 |_=>none
theorem A90_ok:∀ args p,A90 args=some p→aH aG false 90 args=p:=by
 intro args p h
 unfold A90 at h
 split at h
 ·split at h
  ·rename_i e0
   have f0:=cX e0
   subst f0
   cases h
   exact T90_eq _ _ _ _ _ _ _ _ _ _
  ·cases h
 ·cases h
noncomputable def A91:List Value→Option Pg
 |[(.pointer p0),(.agg c0),.slice p10 n11 n12]=>(match c0.toList with
  |[(.int .i64 i1),(.int .i64 i2),.string s3,.string s4,.slice p5 n6 n7,(.int .i64 i8),(.int .i64 i9)]=>some (T91 p0 i1 i2 s3 s4 p5 n6 n7 i8 i9 p10 n11 n12)
  |_=>none)
 |_=>none
theorem A91_ok:∀ args p,A91 args=some p→aH aG false 91 args=p:=by
 intro args p h
 unfold A91 at h
 split at h
 ·split at h
  ·rename_i e0
   have f0:=cX e0
   subst f0
   cases h
   exact T91_eq _ _ _ _ _ _ _ _ _ _ _ _ _
  ·cases h
 ·cases h
noncomputable def A93:List Value→Option Pg
 |[.string s0]=>some (T93 s0)
 |_=>none
theorem A93_ok:∀ args p,A93 args=some p→aH aG false 93 args=p:=by
 intro args p h
 unfold A93 at h
 split at h
 ·cases h;exact T93_eq _
 ·cases h
noncomputable def A95:List Value→Option Pg
 |[.string s0]=>some (T95 s0)
 |_=>none
theorem A95_ok:∀ args p,A95 args=some p→aH aG false 95 args=p:=by
 intro args p h
 unfold A95 at h
 split at h
 ·cases h;exact T95_eq _
 ·cases h
noncomputable def A96:List Value→Option Pg
 |[(.pointer p0),.string s1]=>some (T96 p0 s1)
 |_=>none
theorem A96_ok:∀ args p,A96 args=some p→aH aG false 96 args=p:=by
 intro args p h
 unfold A96 at h
 split at h
 ·cases h;exact T96_eq _ _
 ·cases h
noncomputable def A97:List Value→Option Pg
 |[(.pointer p0)]=>some (T97 p0)
 |_=>none
theorem A97_ok:∀ args p,A97 args=some p→aH aG false 97 args=p:=by
 intro args p h
 unfold A97 at h
 split at h
 ·cases h;exact T97_eq _
 ·cases h
noncomputable def A98:List Value→Option Pg
 |[.string s0]=>some (T98 s0)
 |_=>none
theorem A98_ok:∀ args p,A98 args=some p→aH aG false 98 args=p:=by
 intro args p h
 unfold A98 at h
 split at h
 ·cases h;exact T98_eq _
 ·cases h
noncomputable def A99:List Value→Option Pg
 |[.string s0]=>some (T99 s0)
 |_=>none
theorem A99_ok:∀ args p,A99 args=some p→aH aG false 99 args=p:=by
 intro args p h
 unfold A99 at h
 split at h
 ·cases h;exact T99_eq _
 ·cases h
noncomputable def A100:List Value→Option Pg
 |[.slice p0 n1 n2]=>some (T100 p0 n1 n2)
 |_=>none
theorem A100_ok:∀ args p,A100 args=some p→aH aG false 100 args=p:=by
 intro args p h
 unfold A100 at h
 split at h
 ·cases h;exact T100_eq _ _ _
 ·cases h
noncomputable def A101:List Value→Option Pg
 |[.slice p0 n1 n2,.string s3]=>some (T101 p0 n1 n2 s3)
 |_=>none
theorem A101_ok:∀ args p,A101 args=some p→aH aG false 101 args=p:=by
 intro args p h
 unfold A101 at h
 split at h
 ·cases h;exact T101_eq _ _ _ _
 ·cases h
noncomputable def A102:List Value→Option Pg
 |[(.agg c0)]=>(match c0.toList with
  |[(.int .i64 i0),(.int .i64 i1),.string s2,.string s3,.slice p4 n5 n6,(.int .i64 i7),(.int .i64 i8)]=>some (T102 i0 i1 s2 s3 p4 n5 n6 i7 i8)
  |_=>none)
 |_=>none
theorem A102_ok:∀ args p,A102 args=some p→aH aG false 102 args=p:=by
 intro args p h
 unfold A102 at h
 split at h
 ·split at h
  ·rename_i e0
   have f0:=cX e0
   subst f0
   cases h
   exact T102_eq _ _ _ _ _ _ _ _ _
  ·cases h
 ·cases h
noncomputable def A103:List Value→Option Pg
 |[(.agg c0),.string s6]=>(match c0.toList with
  |[.slice p0 n1 n2,.slice p3 n4 n5]=>some (T103 p0 n1 n2 p3 n4 n5 s6)
  |_=>none)
 |_=>none
theorem A103_ok:∀ args p,A103 args=some p→aH aG false 103 args=p:=by
 intro args p h
 unfold A103 at h
 split at h
 ·split at h
  ·rename_i e0
   have f0:=cX e0
   subst f0
   cases h
   exact T103_eq _ _ _ _ _ _ _
  ·cases h
 ·cases h
noncomputable def A104:List Value→Option Pg
 |[(.agg c0),(.int .i64 i6)]=>(match c0.toList with
  |[.slice p0 n1 n2,.slice p3 n4 n5]=>some (T104 p0 n1 n2 p3 n4 n5 i6)
  |_=>none)
 |_=>none
theorem A104_ok:∀ args p,A104 args=some p→aH aG false 104 args=p:=by
 intro args p h
 unfold A104 at h
 split at h
 ·split at h
  ·rename_i e0
   have f0:=cX e0
   subst f0
   cases h
   exact T104_eq _ _ _ _ _ _ _
  ·cases h
 ·cases h
noncomputable def A105:List Value→Option Pg
 |[.string s0,(.int .i64 i1)]=>some (T105 s0 i1)
 |_=>none
theorem A105_ok:∀ args p,A105 args=some p→aH aG false 105 args=p:=by
 intro args p h
 unfold A105 at h
 split at h
 ·cases h;exact T105_eq _ _
 ·cases h
noncomputable def A106:List Value→Option Pg
 |[.slice p0 n1 n2,.string s3]=>some (T106 p0 n1 n2 s3)
 |_=>none
theorem A106_ok:∀ args p,A106 args=some p→aH aG false 106 args=p:=by
 intro args p h
 unfold A106 at h
 split at h
 ·cases h;exact T106_eq _ _ _ _
 ·cases h
noncomputable def A107:List Value→Option Pg
 |[.slice p0 n1 n2,v3]=>some (T107 p0 n1 n2 v3)
 |_=>none
theorem A107_ok:∀ args p,A107 args=some p→aH aG false 107 args=p:=by
 intro args p h
 unfold A107 at h
 split at h
 ·cases h;exact T107_eq _ _ _ _
 ·cases h
noncomputable def A108:List Value→Option Pg
 |[(.agg c0)]=>(match c0.toList with
  |[(.int .i64 i0),(.int .i64 i1),.string s2,.string s3,.slice p4 n5 n6,(.int .i64 i7),(.int .i64 i8)]=>some (T108 i0 i1 s2 s3 p4 n5 n6 i7 i8)
  |_=>none)
 |_=>none
theorem A108_ok:∀ args p,A108 args=some p→aH aG false 108 args=p:=by
 intro args p h
 unfold A108 at h
 split at h
 ·split at h
  ·rename_i e0
   have f0:=cX e0
   subst f0
   cases h
   exact T108_eq _ _ _ _ _ _ _ _ _
  ·cases h
 ·cases h
noncomputable def A109:List Value→Option Pg
 |[(.agg c0)]=>(match c0.toList with
  |[(.int .i64 i0),(.int .i64 i1),.string s2,.string s3,.slice p4 n5 n6,(.int .i64 i7),(.int .i64 i8)]=>some (T109 i0 i1 s2 s3 p4 n5 n6 i7 i8)
  |_=>none)
 |_=>none
theorem A109_ok:∀ args p,A109 args=some p→aH aG false 109 args=p:=by
 intro args p h
 unfold A109 at h
 split at h
 ·split at h
  ·rename_i e0
   have f0:=cX e0
   subst f0
   cases h
   exact T109_eq _ _ _ _ _ _ _ _ _
  ·cases h
 ·cases h
noncomputable def A110:List Value→Option Pg
 |[(.int .i64 i0)]=>some (T110 i0)
 |_=>none
theorem A110_ok:∀ args p,A110 args=some p→aH aG false 110 args=p:=by
 intro args p h
 unfold A110 at h
 split at h
 ·cases h;exact T110_eq _
 ·cases h
noncomputable def A111:List Value→Option Pg
 |[(.agg c0),.string s6]=>(match c0.toList with
  |[.slice p0 n1 n2,.slice p3 n4 n5]=>some (T111 p0 n1 n2 p3 n4 n5 s6)
  |_=>none)
 |_=>none
theorem A111_ok:∀ args p,A111 args=some p→aH aG false 111 args=p:=by
 intro args p h
 unfold A111 at h
 split at h
 ·split at h
  ·rename_i e0
   have f0:=cX e0
   subst f0
   cases h
   exact T111_eq _ _ _ _ _ _ _
  ·cases h
 ·cases h
noncomputable def A114:List Value→Option Pg
 |[.bool b0]=>some (T114 b0)
 |_=>none
theorem A114_ok:∀ args p,A114 args=some p→aH aG false 114 args=p:=by
 intro args p h
 unfold A114 at h
 split at h
 ·cases h;exact T114_eq _
 ·cases h
noncomputable def A116:List Value→Option Pg
 |[(.pointer p0)]=>some (T116 p0)
 |_=>none
theorem A116_ok:∀ args p,A116 args=some p→aH aG false 116 args=p:=by
 intro args p h
 unfold A116 at h
 split at h
 ·cases h;exact T116_eq _
 ·cases h
noncomputable def A117:List Value→Option Pg
 |[.string s0]=>some (T117 s0)
 |_=>none
theorem A117_ok:∀ args p,A117 args=some p→aH aG false 117 args=p:=by
 intro args p h
 unfold A117 at h
 split at h
 ·cases h;exact T117_eq _
 ·cases h
noncomputable def A118:List Value→Option Pg
 |[]=>some (T118)
 |_=>none
theorem A118_ok:∀ args p,A118 args=some p→aH aG false 118 args=p:=by
 intro args p h
 unfold A118 at h
 split at h
 ·cases h;exact T118_eq
 ·cases h
noncomputable def A119:List Value→Option Pg
 |[.string s0]=>some (T119 s0)
 |_=>none
theorem A119_ok:∀ args p,A119 args=some p→aH aG false 119 args=p:=by
 intro args p h
 unfold A119 at h
 split at h
 ·cases h;exact T119_eq _
 ·cases h
noncomputable def A130:List Value→Option Pg
 |[(.pointer p0)]=>some (T130 p0)
 |_=>none
theorem A130_ok:∀ args p,A130 args=some p→aH aG false 130 args=p:=by
 intro args p h
 unfold A130 at h
 split at h
 ·cases h;exact T130_eq _
 ·cases h
noncomputable def A132:List Value→Option Pg
 |[(.int .i32 i0)]=>some (T132 i0)
 |_=>none
theorem A132_ok:∀ args p,A132 args=some p→aH aG false 132 args=p:=by
 intro args p h
 unfold A132 at h
 split at h
 ·cases h;exact T132_eq _
 ·cases h
noncomputable def A133:List Value→Option Pg
 |[.string s0]=>some (T133 s0)
 |_=>none
theorem A133_ok:∀ args p,A133 args=some p→aH aG false 133 args=p:=by
 intro args p h
 unfold A133 at h
 split at h
 ·cases h;exact T133_eq _
 ·cases h
noncomputable def A134:List Value→Option Pg
 |[.string s0,v1]=>some (T134 s0 v1)
 |_=>none
theorem A134_ok:∀ args p,A134 args=some p→aH aG false 134 args=p:=by
 intro args p h
 unfold A134 at h
 split at h
 ·cases h;exact T134_eq _ _
 ·cases h
noncomputable def A135:List Value→Option Pg
 |[(.int .i32 i0)]=>some (T135 i0)
 |_=>none
theorem A135_ok:∀ args p,A135 args=some p→aH aG false 135 args=p:=by
 intro args p h
 unfold A135 at h
 split at h
 ·cases h;exact T135_eq _
 ·cases h
noncomputable def A136:List Value→Option Pg
 |[.string s0]=>some (T136 s0)
 |_=>none
theorem A136_ok:∀ args p,A136 args=some p→aH aG false 136 args=p:=by
 intro args p h
 unfold A136 at h
 split at h
 ·cases h;exact T136_eq _
 ·cases h
noncomputable def A137:List Value→Option Pg
 |[.string s0]=>some (T137 s0)
 |_=>none
theorem A137_ok:∀ args p,A137 args=some p→aH aG false 137 args=p:=by
 intro args p h
 unfold A137 at h
 split at h
 ·cases h;exact T137_eq _
 ·cases h
noncomputable def A142:List Value→Option Pg
 |[(.pointer p0)]=>some (T142 p0)
 |_=>none
theorem A142_ok:∀ args p,A142 args=some p→aH aG false 142 args=p:=by
 intro args p h
 unfold A142 at h
 split at h
 ·cases h;exact T142_eq _
 ·cases h
noncomputable def A144:List Value→Option Pg
 |[(.int .i32 i0)]=>some (T144 i0)
 |_=>none
theorem A144_ok:∀ args p,A144 args=some p→aH aG false 144 args=p:=by
 intro args p h
 unfold A144 at h
 split at h
 ·cases h;exact T144_eq _
 ·cases h
noncomputable def A145:List Value→Option Pg
 |[.string s0]=>some (T145 s0)
 |_=>none
theorem A145_ok:∀ args p,A145 args=some p→aH aG false 145 args=p:=by
 intro args p h
 unfold A145 at h
 split at h
 ·cases h;exact T145_eq _
 ·cases h
noncomputable def A146:List Value→Option Pg
 |[.string s0]=>some (T146 s0)
 |_=>none
theorem A146_ok:∀ args p,A146 args=some p→aH aG false 146 args=p:=by
 intro args p h
 unfold A146 at h
 split at h
 ·cases h;exact T146_eq _
 ·cases h
noncomputable def A147:List Value→Option Pg
 |[.string s0,.string s1]=>some (T147 s0 s1)
 |_=>none
theorem A147_ok:∀ args p,A147 args=some p→aH aG false 147 args=p:=by
 intro args p h
 unfold A147 at h
 split at h
 ·cases h;exact T147_eq _ _
 ·cases h
noncomputable def A148:List Value→Option Pg
 |[(.pointer p0)]=>some (T148 p0)
 |_=>none
theorem A148_ok:∀ args p,A148 args=some p→aH aG false 148 args=p:=by
 intro args p h
 unfold A148 at h
 split at h
 ·cases h;exact T148_eq _
 ·cases h
noncomputable def A149:List Value→Option Pg
 |[(.pointer p0)]=>some (T149 p0)
 |_=>none
theorem A149_ok:∀ args p,A149 args=some p→aH aG false 149 args=p:=by
 intro args p h
 unfold A149 at h
 split at h
 ·cases h;exact T149_eq _
 ·cases h
noncomputable def A150:List Value→Option Pg
 |[.string s0,.string s1]=>some (T150 s0 s1)
 |_=>none
theorem A150_ok:∀ args p,A150 args=some p→aH aG false 150 args=p:=by
 intro args p h
 unfold A150 at h
 split at h
 ·cases h;exact T150_eq _ _
 ·cases h
noncomputable def A151:List Value→Option Pg
 |[(.pointer p0)]=>some (T151 p0)
 |_=>none
theorem A151_ok:∀ args p,A151 args=some p→aH aG false 151 args=p:=by
 intro args p h
 unfold A151 at h
 split at h
 ·cases h;exact T151_eq _
 ·cases h
noncomputable def A152:List Value→Option Pg
 |[]=>some (T152)
 |_=>none
theorem A152_ok:∀ args p,A152 args=some p→aH aG false 152 args=p:=by
 intro args p h
 unfold A152 at h
 split at h
 ·cases h;exact T152_eq
 ·cases h
noncomputable def A153:List Value→Option Pg
 |[(.pointer p0),(.agg c0)]=>(match c0.toList with
  |[(.int .i64 i1),(.int .i64 i2),.string s3,.string s4,.slice p5 n6 n7,(.int .i64 i8),(.int .i64 i9)]=>some (T153 p0 i1 i2 s3 s4 p5 n6 n7 i8 i9)
  |_=>none)
 |_=>none
theorem A153_ok:∀ args p,A153 args=some p→aH aG false 153 args=p:=by
 intro args p h
 unfold A153 at h
 split at h
 ·split at h
  ·rename_i e0
   have f0:=cX e0
   subst f0
   cases h
   exact T153_eq _ _ _ _ _ _ _ _ _ _
  ·cases h
 ·cases h
noncomputable def A154:List Value→Option Pg
 |[.string s0]=>some (T154 s0)
 |_=>none
theorem A154_ok:∀ args p,A154 args=some p→aH aG false 154 args=p:=by
 intro args p h
 unfold A154 at h
 split at h
 ·cases h;exact T154_eq _
 ·cases h
noncomputable def A155:List Value→Option Pg
 |[(.pointer p0)]=>some (T155 p0)
 |_=>none
theorem A155_ok:∀ args p,A155 args=some p→aH aG false 155 args=p:=by
 intro args p h
 unfold A155 at h
 split at h
 ·cases h;exact T155_eq _
 ·cases h
noncomputable def A156:List Value→Option Pg
 |[(.pointer p0)]=>some (T156 p0)
 |_=>none
theorem A156_ok:∀ args p,A156 args=some p→aH aG false 156 args=p:=by
 intro args p h
 unfold A156 at h
 split at h
 ·cases h;exact T156_eq _
 ·cases h
noncomputable def A157:List Value→Option Pg
 |[(.pointer p0)]=>some (T157 p0)
 |_=>none
theorem A157_ok:∀ args p,A157 args=some p→aH aG false 157 args=p:=by
 intro args p h
 unfold A157 at h
 split at h
 ·cases h;exact T157_eq _
 ·cases h
noncomputable def A158:List Value→Option Pg
 |[(.pointer p0)]=>some (T158 p0)
 |_=>none
theorem A158_ok:∀ args p,A158 args=some p→aH aG false 158 args=p:=by
 intro args p h
 unfold A158 at h
 split at h
 ·cases h;exact T158_eq _
 ·cases h
noncomputable def A159:List Value→Option Pg
 |[(.pointer p0)]=>some (T159 p0)
 |_=>none
theorem A159_ok:∀ args p,A159 args=some p→aH aG false 159 args=p:=by
 intro args p h
 unfold A159 at h
 split at h
 ·cases h;exact T159_eq _
 ·cases h
noncomputable def TAB:Tab:=(.low 77 (.low 45 (.low 28 (.low 14 (.low 10 (.one 5 A5 (.one 9 A9 (.one 10 A10 .nil))) (.low 12 (.one 11 A11 (.one 12 A12 .nil)) (.one 13 A13 (.one 14 A14 .nil)))) (.low 19 (.one 16 A16 (.one 18 A18 (.one 19 A19 .nil))) (.low 24 (.one 20 A20 (.one 24 A24 .nil)) (.one 27 A27 (.one 28 A28 .nil))))) (.low 36 (.low 31 (.one 29 A29 (.one 30 A30 (.one 31 A31 .nil))) (.low 33 (.one 32 A32 (.one 33 A33 .nil)) (.one 34 A34 (.one 36 A36 .nil)))) (.low 41 (.low 39 (.one 37 A37 (.one 39 A39 .nil)) (.one 40 A40 (.one 41 A41 .nil))) (.low 43 (.one 42 A42 (.one 43 A43 .nil)) (.one 44 A44 (.one 45 A45 .nil)))))) (.low 62 (.low 52 (.low 48 (.one 46 A46 (.one 47 A47 (.one 48 A48 .nil))) (.low 50 (.one 49 A49 (.one 50 A50 .nil)) (.one 51 A51 (.one 52 A52 .nil)))) (.low 58 (.low 56 (.one 55 A55 (.one 56 A56 .nil)) (.one 57 A57 (.one 58 A58 .nil))) (.low 60 (.one 59 A59 (.one 60 A60 .nil)) (.one 61 A61 (.one 62 A62 .nil))))) (.low 69 (.low 65 (.one 63 A63 (.one 64 A64 (.one 65 A65 .nil))) (.low 67 (.one 66 A66 (.one 67 A67 .nil)) (.one 68 A68 (.one 69 A69 .nil)))) (.low 73 (.low 71 (.one 70 A70 (.one 71 A71 .nil)) (.one 72 A72 (.one 73 A73 .nil))) (.low 75 (.one 74 A74 (.one 75 A75 .nil)) (.one 76 A76 (.one 77 A77 .nil))))))) (.low 110 (.low 95 (.low 84 (.low 80 (.one 78 A78 (.one 79 A79 (.one 80 A80 .nil))) (.low 82 (.one 81 A81 (.one 82 A82 .nil)) (.one 83 A83 (.one 84 A84 .nil)))) (.low 89 (.low 87 (.one 85 A85 (.one 87 A87 .nil)) (.one 88 A88 (.one 89 A89 .nil))) (.low 91 (.one 90 A90 (.one 91 A91 .nil)) (.one 93 A93 (.one 95 A95 .nil))))) (.low 102 (.low 98 (.one 96 A96 (.one 97 A97 (.one 98 A98 .nil))) (.low 100 (.one 99 A99 (.one 100 A100 .nil)) (.one 101 A101 (.one 102 A102 .nil)))) (.low 106 (.low 104 (.one 103 A103 (.one 104 A104 .nil)) (.one 105 A105 (.one 106 A106 .nil))) (.low 108 (.one 107 A107 (.one 108 A108 .nil)) (.one 109 A109 (.one 110 A110 .nil)))))) (.low 144 (.low 130 (.low 116 (.one 111 A111 (.one 114 A114 (.one 116 A116 .nil))) (.low 118 (.one 117 A117 (.one 118 A118 .nil)) (.one 119 A119 (.one 130 A130 .nil)))) (.low 135 (.low 133 (.one 132 A132 (.one 133 A133 .nil)) (.one 134 A134 (.one 135 A135 .nil))) (.low 137 (.one 136 A136 (.one 137 A137 .nil)) (.one 142 A142 (.one 144 A144 .nil))))) (.low 151 (.low 147 (.one 145 A145 (.one 146 A146 (.one 147 A147 .nil))) (.low 149 (.one 148 A148 (.one 149 A149 .nil)) (.one 150 A150 (.one 151 A151 .nil)))) (.low 155 (.low 153 (.one 152 A152 (.one 153 A153 .nil)) (.one 154 A154 (.one 155 A155 .nil))) (.low 157 (.one 156 A156 (.one 157 A157 .nil)) (.one 158 A158 (.one 159 A159 .nil))))))))
theorem TAB_ok:mW aG TAB:=(.low (.low (.low (.low (.low (.one A5_ok (.one A9_ok (.one A10_ok .nil))) (.low (.one A11_ok (.one A12_ok .nil)) (.one A13_ok (.one A14_ok .nil)))) (.low (.one A16_ok (.one A18_ok (.one A19_ok .nil))) (.low (.one A20_ok (.one A24_ok .nil)) (.one A27_ok (.one A28_ok .nil))))) (.low (.low (.one A29_ok (.one A30_ok (.one A31_ok .nil))) (.low (.one A32_ok (.one A33_ok .nil)) (.one A34_ok (.one A36_ok .nil)))) (.low (.low (.one A37_ok (.one A39_ok .nil)) (.one A40_ok (.one A41_ok .nil))) (.low (.one A42_ok (.one A43_ok .nil)) (.one A44_ok (.one A45_ok .nil)))))) (.low (.low (.low (.one A46_ok (.one A47_ok (.one A48_ok .nil))) (.low (.one A49_ok (.one A50_ok .nil)) (.one A51_ok (.one A52_ok .nil)))) (.low (.low (.one A55_ok (.one A56_ok .nil)) (.one A57_ok (.one A58_ok .nil))) (.low (.one A59_ok (.one A60_ok .nil)) (.one A61_ok (.one A62_ok .nil))))) (.low (.low (.one A63_ok (.one A64_ok (.one A65_ok .nil))) (.low (.one A66_ok (.one A67_ok .nil)) (.one A68_ok (.one A69_ok .nil)))) (.low (.low (.one A70_ok (.one A71_ok .nil)) (.one A72_ok (.one A73_ok .nil))) (.low (.one A74_ok (.one A75_ok .nil)) (.one A76_ok (.one A77_ok .nil))))))) (.low (.low (.low (.low (.one A78_ok (.one A79_ok (.one A80_ok .nil))) (.low (.one A81_ok (.one A82_ok .nil)) (.one A83_ok (.one A84_ok .nil)))) (.low (.low (.one A85_ok (.one A87_ok .nil)) (.one A88_ok (.one A89_ok .nil))) (.low (.one A90_ok (.one A91_ok .nil)) (.one A93_ok (.one A95_ok .nil))))) (.low (.low (.one A96_ok (.one A97_ok (.one A98_ok .nil))) (.low (.one A99_ok (.one A100_ok .nil)) (.one A101_ok (.one A102_ok .nil)))) (.low (.low (.one A103_ok (.one A104_ok .nil)) (.one A105_ok (.one A106_ok .nil))) (.low (.one A107_ok (.one A108_ok .nil)) (.one A109_ok (.one A110_ok .nil)))))) (.low (.low (.low (.one A111_ok (.one A114_ok (.one A116_ok .nil))) (.low (.one A117_ok (.one A118_ok .nil)) (.one A119_ok (.one A130_ok .nil)))) (.low (.low (.one A132_ok (.one A133_ok .nil)) (.one A134_ok (.one A135_ok .nil))) (.low (.one A136_ok (.one A137_ok .nil)) (.one A142_ok (.one A144_ok .nil))))) (.low (.low (.one A145_ok (.one A146_ok (.one A147_ok .nil))) (.low (.one A148_ok (.one A149_ok .nil)) (.one A150_ok (.one A151_ok .nil)))) (.low (.low (.one A152_ok (.one A153_ok .nil)) (.one A154_ok (.one A155_ok .nil))) (.low (.one A156_ok (.one A157_ok .nil)) (.one A158_ok (.one A159_ok .nil))))))))
end Go.Pg
namespace Go.Pg
open Go.Proofs
abbrev ov0:Ov:=fun _=>none
abbrev ovD:Ov:=fun k=>bif Nat.beq k 131 then some (kF tR) else (fun k=>bif Nat.beq k 92 then some (kF tT) else (fun k=>bif Nat.beq k 94 then some (kF wk) else (ov0) k) k) k
noncomputable abbrev vr:List (Nat × IntKind × List Int):=[(0,.u8,numsD YtkbefekajgfldaaGreatDoor.Rows.laid_unicode_properties)]
end Go.Pg
namespace Go.Pg
open Go.Proofs Go.Utf8 Go.Lib
def mkB (l:List UInt8):ByteArray:=⟨l.toArray⟩
theorem mkB_self (s:ByteArray):mkB s.data.toList=s:=rfl
theorem uG (l:List UInt8):(mkB l).data.toList=l:=rfl
theorem bW (l:List UInt8):(mkB l).size=l.length:=rfl
def bX (L:List UInt8):Nat × Nat:=dec (fun i=>(L.getD i 0).toNat) L.length 0
theorem nX (L:List UInt8) (p:Nat) (hp:p≤L.length):Utf8.decode (mkB L) p=bX (L.drop p):=by
 rw [zZ]
 unfold bX
 have e:(mkB L).size=p+(L.drop p).length:=by rw [bW,List.length_drop];omega
 rw [e]
 have:=dec_shift (fun i=>((L.drop p).getD i 0).toNat) (wh (mkB L)) p (L.drop p).length 0 (fun k=>by
  unfold wh
  rw [uG]
  simp [List.getD,List.getElem?_drop])
 rw [Nat.add_zero] at this
 exact this
theorem eE {L:List UInt8} (h:L≠[]):1≤(bX L).2∧(bX L).2≤L.length:=by
 have hl:0<L.length:=List.length_pos_iff.2 h
 have:=dec_width (fun i=>(L.getD i 0).toNat) L.length 0 hl
 unfold bX
 omega
theorem dec_pre {g g':Nat→Nat} {n n':Nat} (h0:0<n) (hg:∀ k,k<n→g' k=g k) (hw:(dec g' n' 0).2≤n) (hr:(dec g' n' 0).1≠runeError):dec g n 0=dec g' n' 0:=by
 have e0:=hg 0 h0
 unfold dec at hw hr ⊢
 simp only [Nat.zero_add] at hw hr ⊢
 rw [e0] at hw hr ⊢
 by_cases h1:g 0<0x80
 ·rw [if_pos h1,if_pos h1]
 rw [if_neg h1] at hw hr ⊢
 rw [if_neg h1]
 by_cases h2:(g 0 / 32==6&&(decide (1<n')&&(g' 1 / 64==2)))=true
 ·rw [if_pos h2] at hw hr ⊢
  split at hw
  ·rename_i hc
   have a2:1<n:=hw
   have e1:=hg 1 a2
   rw [e1] at h2 hc ⊢
   simp only [Bool.and_eq_true,decide_eq_true_eq,beq_iff_eq] at h2
   rw [if_pos (by simp [h2,a2])]
  ·rename_i hc
   rw [if_neg hc] at hr
   exact absurd rfl hr
 rw [if_neg h2] at hw hr ⊢
 by_cases h3:(g 0 / 16==14&&(decide (1<n')&&(g' 1 / 64==2))&&(decide (2<n')&&(g' 2 / 64==2)))=true
 ·rw [if_pos h3] at hw hr ⊢
  have hx:(g 0 / 32==6)=false:=by
   simp only [Bool.and_eq_true,decide_eq_true_eq,beq_iff_eq] at h3
   rw [Bool.eq_false_iff]
   simp only [ne_eq,beq_iff_eq]
   omega
  rw [if_neg (by simp [hx])]
  split at hw
  ·rename_i hc
   have a1:2<n:=hw
   have e1:=hg 1 (by omega)
   have e2:=hg 2 a1
   rw [e1,e2] at h3 hc ⊢
   simp only [Bool.and_eq_true,decide_eq_true_eq,beq_iff_eq] at h3
   rw [if_pos (by simp [h3,a1];omega)]
  ·rename_i hc
   rw [if_neg hc] at hr
   exact absurd rfl hr
 rw [if_neg h3] at hw hr ⊢
 by_cases h4:(g 0 / 8==30&&(decide (1<n')&&(g' 1 / 64==2))&&(decide (2<n')&&(g' 2 / 64==2))&&(decide (3<n')&&(g' 3 / 64==2)))=true
 ·rw [if_pos h4] at hw hr ⊢
  have hx:(g 0 / 32==6)=false∧(g 0 / 16==14)=false:=by
   simp only [Bool.and_eq_true,decide_eq_true_eq,beq_iff_eq] at h4
   simp only [Bool.eq_false_iff,ne_eq,beq_iff_eq]
   omega
  rw [if_neg (by simp [hx.1]),if_neg (by simp [hx.2])]
  split at hw
  ·rename_i hc
   have a0:3<n:=hw
   have e1:=hg 1 (by omega)
   have e2:=hg 2 (by omega)
   have e3:=hg 3 a0
   rw [e1,e2,e3] at h4 hc ⊢
   simp only [Bool.and_eq_true,decide_eq_true_eq,beq_iff_eq] at h4
   rw [if_pos (by simp [h4,a0];omega)]
  ·rename_i hc
   rw [if_neg hc] at hr
   exact absurd rfl hr
 ·rw [if_neg h4] at hr
  exact absurd rfl hr
theorem lO {b:UInt8} {r:List UInt8} (hb:b.toNat<128):bX (b::r)=(b.toNat,1):=by
 unfold bX dec
 simp only [List.getD_cons_zero]
 rw [if_pos hb]
theorem dec_lt {g:Nat→Nat} {n:Nat} (h:(dec g n 0).1<128):g 0=(dec g n 0).1∧(dec g n 0).2=1:=by
 unfold dec at h ⊢
 simp only at h ⊢
 repeat' split at h
 all_goals first
  |(rename_i h1;rw [if_pos h1];exact ⟨rfl,rfl⟩)
  |(exfalso;simp only [runeError,Bool.and_eq_true,decide_eq_true_eq,beq_iff_eq,ge_iff_le] at*;omega)
theorem xQ {L:List UInt8} (hL:L≠[]) (h:(bX L).1<128):∃ b r,L=b::r∧b.toNat=(bX L).1∧(bX L).2=1:=by
 obtain ⟨b,r,rfl⟩:∃ b r,L=b::r:=by
  cases L with
  |nil=>exact absurd rfl hL
  |cons b r=>exact ⟨b,r,rfl⟩
 unfold bX at h ⊢
 have:=dec_lt h
 exact ⟨b,r,rfl,this.1,this.2⟩
def runL (may:Nat→Bool):Nat→List UInt8→Nat
 |0,_=>0
 |f+1,L=>if L=[] then 0 else if may (bX L).1=true then (bX L).2+runL may f (L.drop (bX L).2) else 0
def run (may:Nat→Bool) (L:List UInt8):Nat:=runL may L.length L
section
variable {may:Nat→Bool}
theorem zt:∀ (f f':Nat) (L:List UInt8),L.length≤f→L.length≤f'→runL may f L=runL may f' L
 |0,f',L,h,_=>by
  have:L=[]:=List.eq_nil_of_length_eq_zero (by omega)
  subst this
  cases f'<;>simp [runL]
 |f+1,0,L,_,h=>by
  have:L=[]:=List.eq_nil_of_length_eq_zero (by omega)
  subst this
  simp [runL]
 |f+1,f'+1,L,h1,h2=>by
  unfold runL
  by_cases hL:L=[]
  ·rw [if_pos hL,if_pos hL]
  ·have:=eE hL
   rw [if_neg hL,if_neg hL,zt f f' _ (by rw [List.length_drop];omega) (by rw [List.length_drop];omega)]
theorem run_nil:run may []=0:=rfl
theorem gR {L:List UInt8} (hL:L≠[]):run may L=if may (bX L).1=true then (bX L).2+run may (L.drop (bX L).2) else 0:=by
 have hw:=eE hL
 unfold run
 obtain ⟨n,hn⟩:∃ n,L.length=n+1:=⟨L.length - 1,by have:=List.length_pos_iff.2 hL;omega⟩
 rw [hn]
 conv=>lhs;unfold runL
 rw [if_neg hL,zt n (L.drop (bX L).2).length _ (by rw [List.length_drop];omega) (Nat.le_refl _)]
theorem run_le:∀ (n:Nat) (L:List UInt8),L.length≤n→run may L≤L.length
 |0,L,h=>by
  have:L=[]:=List.eq_nil_of_length_eq_zero (by omega)
  subst this
  exact Nat.le_refl _
 |n+1,L,h=>by
  by_cases hL:L=[]
  ·subst hL;exact Nat.le_refl _
  ·have hw:=eE hL
   rw [gR hL]
   split
   ·have:=run_le n (L.drop (bX L).2) (by rw [List.length_drop];omega)
    rw [List.length_drop] at this
    omega
   ·omega
theorem qF (L:List UInt8):run may L≤L.length:=run_le _ L (Nat.le_refl _)
theorem run_stop {b:UInt8} {r:List UInt8} (hb:b.toNat<128) (hm:may b.toNat=false):run may (b::r)=0:=by
 rw [gR (by simp),lO hb]
 simp [hm]
theorem run_go {b:UInt8} {r:List UInt8} (hb:b.toNat<128) (hm:may b.toNat=true):run may (b::r)=1+run may r:=by
 rw [gR (by simp),lO hb]
 simp [hm]
end
def rmk:Nat→List UInt8→Int→Option Nat
 |0,_,_=>none
 |f+1,L,d=>match L with
  |[]=>none
  |a::r=>
   if a=40∧r.head?=some 42 then (if d+1=0 then some 2 else (rmk f (r.drop 1) (d+1)).map (· +2))
   else if a=42∧r.head?=some 41 then (if d - 1=0 then some 2 else (rmk f (r.drop 1) (d - 1)).map (· +2))
   else if d=0 then some 1 else (rmk f r d).map (· +1)
theorem oS:∀ (f f':Nat) (L:List UInt8) (d:Int),L.length≤f→L.length≤f'→rmk f L d=rmk f' L d
 |0,f',L,d,h,_=>by
  have:L=[]:=List.eq_nil_of_length_eq_zero (by omega)
  subst this
  cases f'<;>rfl
 |f+1,0,L,d,_,h=>by
  have:L=[]:=List.eq_nil_of_length_eq_zero (by omega)
  subst this
  rfl
 |f+1,f'+1,L,d,h1,h2=>by
  cases L with
  |nil=>rfl
  |cons a r=>
   simp only [List.length_cons] at h1 h2
   unfold rmk
   simp only
   rw [oS f f' (r.drop 1) (d+1) (by simp;omega) (by simp;omega),oS f f' (r.drop 1) (d - 1) (by simp;omega) (by simp;omega),oS f f' r d (by omega) (by omega)]
theorem iD:∀ (f:Nat) (L:List UInt8) (d:Int) (m:Nat),rmk f L d=some m→1≤m∧m≤L.length
 |0,L,d,m,h=>by cases h
 |f+1,L,d,m,h=>by
  cases L with
  |nil=>cases h
  |cons a r=>
   unfold rmk at h
   simp only at h
   split at h
   ·rename_i h1
    have hr:1≤r.length:=by
     cases r with
     |nil=>simp at h1
     |cons _ _=>simp
    split at h
    ·cases h;simp;omega
    ·obtain ⟨k,hk,rfl⟩:=Option.map_eq_some_iff.1 h
     have:=iD f _ _ _ hk
     simp at this ⊢
     omega
   ·split at h
    ·rename_i h1
     have hr:1≤r.length:=by
      cases r with
      |nil=>simp at h1
      |cons _ _=>simp
     split at h
     ·cases h;simp;omega
     ·obtain ⟨k,hk,rfl⟩:=Option.map_eq_some_iff.1 h
      have:=iD f _ _ _ hk
      simp at this ⊢
      omega
    ·split at h
     ·cases h;simp
     ·obtain ⟨k,hk,rfl⟩:=Option.map_eq_some_iff.1 h
      have:=iD f _ _ _ hk
      simp
      omega
end Go.Pg
namespace Go.Pg
open Go.Proofs Go.Utf8 Go.Lib
def marks:List Int:=[40,41,44,59,61,60,62,43,45,42,124,33,58]
def dW (r:Int):Int:=if r=95∨r=39∨isLetterU r=true then 1 else if 48≤r∧r≤57 then 2 else if r=32∨r=9∨r=10∨r=13 then 3 else if r∈marks then 4 else 0
theorem cls_1 {r:Int} (h:r=95∨r=39∨isLetterU r=true):dW r=1:=by unfold dW;rw [if_pos h]
theorem cls_2 {r:Int} (h:¬ (r=95∨r=39∨isLetterU r=true)) (h2:48≤r∧r≤57):dW r=2:=by unfold dW;rw [if_neg h,if_pos h2]
theorem cls_3 {r:Int} (h:¬ (r=95∨r=39∨isLetterU r=true)) (h2:¬ (48≤r∧r≤57)) (h3:r=32∨r=9∨r=10∨r=13):dW r=3:=by unfold dW;rw [if_neg h,if_neg h2,if_pos h3]
theorem cls_4 {r:Int} (h:¬ (r=95∨r=39∨isLetterU r=true)) (h2:¬ (48≤r∧r≤57)) (h3:¬ (r=32∨r=9∨r=10∨r=13)) (h4:r∈marks):dW r=4:=by unfold dW;rw [if_neg h,if_neg h2,if_neg h3,if_pos h4]
theorem cls_0 {r:Int} (h:¬ (r=95∨r=39∨isLetterU r=true)) (h2:¬ (48≤r∧r≤57)) (h3:¬ (r=32∨r=9∨r=10∨r=13)) (h4:¬ r∈marks):dW r=0:=by unfold dW;rw [if_neg h,if_neg h2,if_neg h3,if_neg h4]
theorem cls_dig {r:Nat}:dW r=2→48≤r∧r≤57:=by
 unfold dW
 split
 ·simp
 ·split
  ·omega
  ·split
   ·simp
   ·split<;>simp
theorem cls_mark {r:Nat}:dW r=4→(r:Int)∈marks:=by
 unfold dW
 split
 ·simp
 ·split
  ·simp
  ·split
   ·simp
   ·split
    ·rename_i h;exact fun _=>h
    ·simp
theorem mark_lt {r:Nat} (h:(r:Int)∈marks):r<128:=by
 unfold marks at h
 simp only [List.mem_cons,List.mem_nil_iff,or_false] at h
 omega
def blk (r:Nat):Bool:=dW r==3
def dig (r:Nat):Bool:=dW r==2
def lod (r:Nat):Bool:=dW r==1||dW r==2
theorem dig_digit {r:Nat} (h:48≤r∧r≤57):dig r=true:=by
 have:r=48∨r=49∨r=50∨r=51∨r=52∨r=53∨r=54∨r=55∨r=56∨r=57:=by omega
 rcases this with rfl|rfl|rfl|rfl|rfl|rfl|rfl|rfl|rfl|rfl<;>decide+kernel
def skpF:Nat→List UInt8→Nat × Bool
 |0,_=>(0,true)
 |f+1,L=>
  if (L.drop (run blk L)).take 2=[40,42] then
   match rmk (L.drop (run blk L)).length (L.drop (run blk L)) 0 with
   |none=>(run blk L,false)
   |some m=>(run blk L+m+(skpF f (L.drop (run blk L+m))).1,(skpF f (L.drop (run blk L+m))).2)
  else (run blk L,true)
def skp (L:List UInt8):Nat × Bool:=skpF (L.length+1) L
theorem zq:∀ (f f':Nat) (L:List UInt8),L.length<f→L.length<f'→skpF f L=skpF f' L
 |0,_,L,h,_=>by omega
 |_+1,0,L,_,h=>by omega
 |f+1,f'+1,L,h1,h2=>by
  unfold skpF
  split
  ·split
   ·rfl
   ·rename_i m hm
    have:=iD _ _ _ _ hm
    rw [List.length_drop] at this
    rw [zq f f' _ (by rw [List.length_drop];omega) (by rw [List.length_drop];omega)]
  ·rfl
theorem mZ (L:List UInt8):skp L=if (L.drop (run blk L)).take 2=[40,42] then
   match rmk (L.drop (run blk L)).length (L.drop (run blk L)) 0 with
   |none=>(run blk L,false)
   |some m=>(run blk L+m+(skp (L.drop (run blk L+m))).1,(skp (L.drop (run blk L+m))).2)
  else (run blk L,true):=by
 unfold skp
 conv=>lhs;unfold skpF
 split
 ·split
  ·rfl
  ·rename_i m hm
   have:=iD _ _ _ _ hm
   rw [List.length_drop] at this
   rw [zq L.length ((L.drop (run blk L+m)).length+1) _ (by rw [List.length_drop];omega) (by omega)]
 ·rfl
theorem skp_le:∀ (n:Nat) (L:List UInt8),L.length≤n→(skp L).1≤L.length
 |n,L,h=>by
  have hr:=qF (may:=blk) L
  rw [mZ]
  split
  ·split
   ·exact hr
   ·rename_i m hm
    have hb:=iD _ _ _ _ hm
    rw [List.length_drop] at hb
    cases n with
    |zero=>omega
    |succ n=>
     have:=skp_le n (L.drop (run blk L+m)) (by rw [List.length_drop];omega)
     rw [List.length_drop] at this
     simp only
     omega
  ·exact hr
theorem skp_len (L:List UInt8):(skp L).1≤L.length:=skp_le _ L (Nat.le_refl _)
def keys:List (List UInt8):=[[116,121,112,101],[111,102],[108,101,116],[114,101,99],[105,110],[102,117,110],[105,102],[116,104,101,110],[101,108,115,101],[109,97,116,99,104],[119,105,116,104],[101,110,100],[114,101,102],[112,114,105,110,116],[114,101,97,100],[114,97,105,115,101],[116,114,121],[116,114,117,101],[102,97,108,115,101]]
def iR (t:List UInt8):Bool:=keys.any (t== ·)
def mL:List UInt8→Int→Bool
 |[],_=>true
 |b::r,n=>if n>Int.tdiv (4611686018427387903 - ((b.toNat:Int) - 48)) 10 then false else mL r (10*n+((b.toNat:Int) - 48))
def uX (L:List UInt8):Int × List UInt8:=(if isUpperU (bX L).1=true then 3 else if iR (L.take (run lod L))=true then 4 else 2,L.take (run lod L))
def oK (L:List UInt8):Int × List UInt8:=
 if L.take 2=[58,61] then (5,[58,61]) else if L.take 2=[45,62] then (5,[45,62]) else if L.head?=some 62∨L.head?=some 58 then (0,[]) else (5,L.take 1)
def dC (L:List UInt8):Int × List UInt8:=
 if dW (bX L).1=1 then (if (bX L).1=39 then (0,[]) else uX L)
 else if dW (bX L).1=2 then (if mL (L.take (run dig L)) 0=true then (1,L.take (run dig L)) else (0,[]))
 else if dW (bX L).1=4 then oK L else (0,[])
inductive IsW (L:List UInt8):Int→List UInt8→Prop
 |name (h1:dW (bX L).1=1) (h2:(bX L).1≠39):IsW L (uX L).1 (L.take (run lod L))
 |num (h1:dW (bX L).1=2) (h2:mL (L.take (run dig L)) 0=true):IsW L 1 (L.take (run dig L))
 |asg (h1:dW (bX L).1=4) (h2:L.take 2=[58,61]):IsW L 5 [58,61]
 |arr (h1:dW (bX L).1=4) (h2:L.take 2=[45,62]):IsW L 5 [45,62]
 |mark (h1:dW (bX L).1=4) (h2:L.take 2≠[58,61]) (h3:L.take 2≠[45,62]) (h4:¬ (L.head?=some 62∨L.head?=some 58)):IsW L 5 (L.take 1)
theorem yU {L:List UInt8} (h:(dC L).1≠0):IsW L (dC L).1 (dC L).2:=by
 unfold dC at h ⊢
 by_cases h1:dW (bX L).1=1
 ·rw [if_pos h1] at h ⊢
  by_cases h2:(bX L).1=39
  ·rw [if_pos h2] at h;exact absurd rfl h
  ·rw [if_neg h2];exact .name h1 h2
 rw [if_neg h1] at h ⊢
 by_cases h2:dW (bX L).1=2
 ·rw [if_pos h2] at h ⊢
  by_cases h3:mL (L.take (run dig L)) 0=true
  ·rw [if_pos h3];exact .num h2 h3
  ·rw [if_neg h3] at h;exact absurd rfl h
 rw [if_neg h2] at h ⊢
 by_cases h3:dW (bX L).1=4
 ·rw [if_pos h3] at h ⊢
  unfold oK at h ⊢
  by_cases h4:L.take 2=[58,61]
  ·rw [if_pos h4];exact .asg h3 h4
  rw [if_neg h4] at h ⊢
  by_cases h5:L.take 2=[45,62]
  ·rw [if_pos h5];exact .arr h3 h5
  rw [if_neg h5] at h ⊢
  by_cases h6:L.head?=some 62∨L.head?=some 58
  ·rw [if_pos h6] at h;exact absurd rfl h
  ·rw [if_neg h6];exact .mark h3 h4 h5 h6
 ·rw [if_neg h3] at h;exact absurd rfl h
theorem IsW.eq {L:List UInt8} {k:Int} {t:List UInt8} (h:IsW L k t):dC L=(k,t):=by
 unfold dC
 cases h with
 |name h1 h2=>rw [if_pos h1,if_neg h2];try rfl
 |num h1 h2=>rw [if_neg (by rw [h1];decide),if_pos h1,if_pos h2]
 |asg h1 h2=>rw [if_neg (by rw [h1];decide),if_neg (by rw [h1];decide),if_pos h1,oK,if_pos h2]
 |arr h1 h2=>rw [if_neg (by rw [h1];decide),if_neg (by rw [h1];decide),if_pos h1,oK,if_neg (by rw [h2];decide),if_pos h2]
 |mark h1 h2 h3 h4=>rw [if_neg (by rw [h1];decide),if_neg (by rw [h1];decide),if_pos h1,oK,if_neg h2,if_neg h3,if_neg h4]
theorem pY {L:List UInt8} (hL:L≠[]) (h:dW (bX L).1=4):∃ b r,L=b::r∧b.toNat<128∧dW b.toNat=4:=by
 have h1:=mark_lt (cls_mark h)
 obtain ⟨b,r,e,hb,_⟩:=xQ hL h1
 exact ⟨b,r,e,by omega,by rw [hb];exact h⟩
theorem IsW.ne {L:List UInt8} {k:Int} {t:List UInt8} (hL:L≠[]) (h:IsW L k t):t≠[]∧t.length≤L.length∧L=t++L.drop t.length:=by
 have hw:=eE hL
 have key:∀ may:Nat→Bool,may (bX L).1=true→L.take (run may L)≠[]∧(L.take (run may L)).length≤L.length∧L=L.take (run may L)++L.drop (L.take (run may L)).length:=by
  intro may hm
  have h1:1≤run may L:=by rw [gR hL,if_pos hm];omega
  have h2:=qF (may:=may) L
  have e:(L.take (run may L)).length=run may L:=by rw [List.length_take];omega
  refine ⟨fun e2=>?_,by omega,by rw [e,List.take_append_drop]⟩
  rw [e2] at e
  simp at e
  omega
 cases h with
 |name h1 h2=>exact key lod (by simp [lod,h1])
 |num h1 h2=>exact key dig (by simp [dig,h1])
 |asg h1 h2=>
  obtain ⟨b,r,rfl,_⟩:=pY hL h1
  cases r with
  |nil=>simp at h2
  |cons c r=>
   simp only [List.take_succ_cons,List.take_zero,List.cons.injEq,and_true] at h2
   obtain ⟨rfl,rfl⟩:=h2
   simp
 |arr h1 h2=>
  obtain ⟨b,r,rfl,_⟩:=pY hL h1
  cases r with
  |nil=>simp at h2
  |cons c r=>
   simp only [List.take_succ_cons,List.take_zero,List.cons.injEq,and_true] at h2
   obtain ⟨rfl,rfl⟩:=h2
   simp
 |mark h1 h2 h3 h4=>
  obtain ⟨b,r,rfl,_⟩:=pY hL h1
  simp
end Go.Pg
namespace Go.Pg
open Go.Proofs Go.Utf8 Go.Lib
structure Wd where
 k:Int
 t:List UInt8
 fr:Nat
 to:Nat
def mJ:Nat→List UInt8→Nat→Nat→Except (Int × Nat) (List Wd)
 |0,_,_,_=>.ok []
 |f+1,L,at',c=>
  if (skp L).2=true then
   if L.drop (skp L).1=[] then .ok []
   else if (dC (L.drop (skp L).1)).1=0 then .error (3,at'+(skp L).1)
   else if 2000≤c then .error (2,at'+(skp L).1)
   else match mJ f ((L.drop (skp L).1).drop (dC (L.drop (skp L).1)).2.length) (at'+(skp L).1+(dC (L.drop (skp L).1)).2.length) (c+1) with
    | .ok l=>.ok (⟨(dC (L.drop (skp L).1)).1,(dC (L.drop (skp L).1)).2,at'+(skp L).1,at'+(skp L).1+(dC (L.drop (skp L).1)).2.length⟩::l)
    | .error e=>.error e
  else .error (3,at'+(skp L).1)
theorem vj:∀ (f f':Nat) (L:List UInt8) (at' c:Nat),L.length<f→L.length<f'→mJ f L at' c=mJ f' L at' c
 |0,_,L,_,_,h,_=>by omega
 |_+1,0,L,_,_,_,h=>by omega
 |f+1,f'+1,L,at',c,h1,h2=>by
  have hs:=skp_len L
  unfold mJ
  by_cases h3:(skp L).2=true
  ·rw [if_pos h3,if_pos h3]
   by_cases h4:L.drop (skp L).1=[]
   ·rw [if_pos h4,if_pos h4]
   ·rw [if_neg h4,if_neg h4]
    by_cases h5:(dC (L.drop (skp L).1)).1=0
    ·rw [if_pos h5,if_pos h5]
    ·rw [if_neg h5,if_neg h5]
     have hn:=(yU h5).ne h4
     have hl:1≤(dC (L.drop (skp L).1)).2.length:=List.length_pos_iff.2 hn.1
     have a0:(L.drop (skp L).1).length=L.length - (skp L).1:=List.length_drop
     rw [vj f f' _ _ _ (by rw [List.length_drop];omega) (by rw [List.length_drop];omega)]
  ·rw [if_neg h3,if_neg h3]
def yl (L:List UInt8):Except (Int × Nat) (List Wd):=mJ (L.length+1) L 0 0
def chain (S:List UInt8):Nat→List Wd→Prop
 |_,[]=>True
 |a,w::r=>a≤w.fr∧w.to=w.fr+w.t.length∧w.t≠[]∧w.to≤S.length∧S.drop w.fr=w.t++S.drop w.to∧IsW (S.drop w.fr) w.k w.t∧chain S w.to r
theorem rU (S:List UInt8):∀ (f at' c:Nat) (ws:List Wd),at'≤S.length→mJ f (S.drop at') at' c=.ok ws→chain S at' ws∧(ws=[]∨c+ws.length≤2000)
 |0,at',c,ws,_,h=>by
  cases h
  exact ⟨trivial,.inl rfl⟩
 |f+1,at',c,ws,ha,h=>by
  have hs:=skp_len (S.drop at')
  unfold mJ at h
  split at h
  ·split at h
   ·cases h
    exact ⟨trivial,.inl rfl⟩
   ·rename_i h4
    split at h
    ·cases h
    ·rename_i h5
     split at h
     ·cases h
     ·rename_i h6
      have hn:=(yU h5).ne h4
      have hw:=yU h5
      rw [List.length_drop] at hs
      simp only [List.drop_drop,List.length_drop] at h hn hw h4
      generalize (skp (S.drop at')).1=k at h hn hw h4 hs
      generalize hk:(dC (S.drop (at'+k))).1=kd at h hw
      generalize ht:(dC (S.drop (at'+k))).2=t at h hn hw
      have a0:at'+k+t.length≤S.length:=by omega
      split at h
      ·rename_i l hl
       cases h
       obtain ⟨i1,i2⟩:=rU S f _ _ _ a0 hl
       refine ⟨⟨by simp only;omega,rfl,hn.1,a0,hn.2.2,hw,i1⟩,.inr ?_⟩
       rcases i2 with rfl|i2
       ·simp;omega
       ·simp only [List.length_cons];omega
      ·cases h
  ·cases h
def shw (δ:Nat) (w:Wd):Wd:=⟨w.k,w.t,w.fr+δ,w.to+δ⟩
def shr (δ:Nat):Except (Int × Nat) (List Wd)→Except (Int × Nat) (List Wd)
 | .ok l=>.ok (l.map (shw δ))
 | .error (e,p)=>.error (e,p+δ)
end Go.Pg
namespace Go.Pg
section
variable {P:Program} {ov:Ov}
abbrev NoB:Nat→Prop:=fun _=>False
theorem Frm.fresh {σ σ' σ'':aB} {S:Nat→Prop} (h:Frm σ σ' NoB) (k:Frm σ' σ'' S) (hS:∀ j,j<σ.n→¬ S j):Frm σ σ'' NoB:=
 h.trans k (fun _ _ h=>h) fun j hj hs=>hS j hj hs
theorem Frm.seq {σ σ' σ'':aB} {S:Nat→Prop} (h:Frm σ σ' S) (k:Frm σ' σ'' S):Frm σ σ'' S:=h.trans k (fun _ _ h=>h) fun _ _ h=>h
theorem Frm.no {σ σ':aB} {S:Nat→Prop} (h:Frm σ σ' NoB):Frm σ σ' S:=h.mono fun _ _ h=>h.elim
theorem Frm.stN {σ σ':aB} {b:Nat} {cs:List Value} (h:Frm σ σ' NoB) (k:St σ b cs):St σ' b cs:=h.st k fun h=>h
theorem Frm.rowN {σ σ':aB} {b off s cap esz:Nat} {xs:List Value} (h:Frm σ σ' NoB) (k:Row σ b off s cap esz xs):Row σ' b off s cap esz xs:=h.row k fun h=>h
theorem aP {cs:List Value} {σ:aB} {f:Addr→Pg} {Q:cN} (h:∀ σ',Frm σ σ' NoB→σ'.n=σ.n+1→St σ' σ.n cs→Wp P ov (f ⟨σ.n,0,some 0⟩) σ' Q):
  Wp P ov (.act (newC cs) fun v=>aK v fun p=>aF p f) σ Q:=by
 rw [aY,newC_eq]
 simp only [jG,bO]
 exact h _ (Frm.new _ _ _ _) rfl (St.new _ _)
theorem St.stAll {σ:aB} {b:Nat} {cs vs:List Value} (h:St σ b cs) (hl:vs.length=cs.length) (hv:vs.all one=true):
  Go.Pg.stC ⟨b,0,some 0⟩ vs σ=some (.tuple #[],σ.put b (.blk ⟨vs,0,[cs.length],0⟩)):=by
 obtain ⟨_,h⟩:=h
 unfold Go.Pg.stC aB.wrN
 simp only [h,Nat.zero_div]
 have:(Nat.beq (0+1) [cs.length].length&&Nat.ble (0+vs.length) cs.length&&vs.all one)=true:=by simp [hv];omega
 rw [this,cond_true]
 simp [hl]
theorem bC {σ:aB} {b:Nat} {cs vs:List Value} {p:Pg} {Q:cN} (h:St σ b cs) (hl:vs.length=cs.length) (hv:vs.all one=true)
  (k:∀ σ',Frm σ σ' (· =b)→σ'.n=σ.n→St σ' b vs→Wp P ov p σ' Q):Wp P ov (.act (stC ⟨b,0,some 0⟩ vs) fun v=>cE v fun l=>aA l p) σ Q:=by
 rw [aY,h.stAll hl hv]
 simp only [dA,aJ]
 exact k _ (Frm.put _ _ _ h.1) rfl (h.put hl)
theorem bB {σ:aB} {b i:Nat} {cs:List Value} {x:Value} {p:Pg} {Q:cN} (h:St σ b cs) (hi:i<cs.length) (hx:one x=true)
  (k:∀ σ',Frm σ σ' (· =b)→σ'.n=σ.n→St σ' b (cs.set i x)→Wp P ov p σ' Q):Wp P ov (.act (stC (aadd ⟨b,0,some 0⟩ i) [x]) fun v=>cE v fun l=>aA l p) σ Q:=by
 have e:=h.stC (off:=0+i) (v:=x) (by omega) hx
 rw [aY,show aadd ⟨b,0,some 0⟩ i=⟨b,0+i,some 0⟩ from rfl,e]
 simp only [dA,aJ,Nat.zero_add]
 exact k _ (Frm.put _ _ _ h.1) rfl (h.put (by simp))
theorem aS {σ:aB} {b:Nat} {cs:List Value} (h:St σ b cs) (n:Nat) (hn:n=cs.length) (g:Value→Pg) (Q:cN):
  Wp P ov (.act (ldN n ⟨b,0,some 0⟩) g) σ Q=Wp P ov (g (.agg cs.toArray)) σ Q:=by
 subst hn
 rw [aY,h.ldN (by omega)]
 simp
theorem aE {σ:aB} {b i:Nat} {cs:List Value} {v:Value} (h:St σ b cs) (hv:cs[i]?=some v) (g:Value→Pg) (Q:cN):
  Wp P ov (.act (ld1 (aadd ⟨b,0,some 0⟩ i)) g) σ Q=Wp P ov (g v) σ Q:=by
 have e:=h.ld (off:=0+i) (v:=v) (by rw [Nat.zero_add];exact hv)
 rw [aY,show aadd ⟨b,0,some 0⟩ i=⟨b,0+i,some 0⟩ from rfl,e]
theorem St.ldAll {σ:aB} {b:Nat} {cs:List Value} (h:St σ b cs) (n:Nat) (hn:n=cs.length):Go.Pg.ldN n ⟨b,0,some 0⟩ σ=some (.agg cs.toArray,σ):=by
 subst hn
 rw [h.ldN (by omega)]
 simp
theorem St.ldF {σ:aB} {b i:Nat} {cs:List Value} {v:Value} (h:St σ b cs) (hv:cs[i]?=some v):ld1 (aadd ⟨b,0,some 0⟩ i) σ=some (v,σ):=by
 have e:=h.ld (off:=0+i) (v:=v) (by rw [Nat.zero_add];exact hv)
 exact e
end
theorem lG (v:Value):eqv v v=true:=by simp [eqv,sameV]
theorem past_ok {h:Act} {v:Value} {σ τ:aB} (e:h σ=some (v,τ)):past h v [σ]=true:=by
 simp [past,pJ,e,lG]
end Go.Pg
