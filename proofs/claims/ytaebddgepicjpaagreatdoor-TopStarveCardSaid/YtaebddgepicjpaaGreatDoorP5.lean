/- TTs -/
import Derived.Test.YtaebddgepicjpaaGreatDoorProg
import Derived.KernelRfl
import Derived.Test.YtaebddgepicjpaaGreatDoorP4
set_option maxHeartbeats 1000000
namespace Go.Pg
open Go.Proofs
set_option linter.unusedVariables false
set_option maxRecDepth 100000
noncomputable def T321k0 (A:Int):TK:=
 Ka A
noncomputable def T321k1 (A:Option Addr) (B:Int) (C:Nat):TK:=
 fun a b=>sw a .normal (Xa b fun a=>iB a (.join (asSome A fun a=>grd ((decide (0≤(wi64 (B - 1))))&&(decide ((wi64 (B - 1))<(C:Int)))) (lI (aadd a ((Int.toNat (wi64 (B - 1)))*1)) fun a=>asSome A fun b=>ix B C (lI (aadd b ((Int.toNat B)*1)) fun b=>asSome A fun c=>ix B C (sC (aadd c ((Int.toNat B)*1)) [nI a] (asSome A fun a=>grd ((decide (0≤(wi64 (B - 1))))&&(decide ((wi64 (B - 1))<(C:Int)))) (sC (aadd a ((Int.toNat (wi64 (B - 1)))*1)) [nI b] (rn []))))))) (T321k0 B)) (re 2 [nI B])) (.fail)
noncomputable def T321b0 (A:Int) (B:Option Addr) (C:Nat):TB:=
 fun a=>Xd a fun a=>.join (iB ((decide (a>A))==true) (asSome B fun b=>ix a C (lI (aadd b ((Int.toNat a)*1)) fun b=>asSome B fun c=>grd ((decide (0≤(wi64 (a - 1))))&&(decide ((wi64 (a - 1))<(C:Int)))) (lI (aadd c ((Int.toNat (wi64 (a - 1)))*1)) fun a=>qB 327 (Wh b a) fun a=>rn [.bool a]))) (rn [.bool false])) (T321k1 B a C)
noncomputable def T321k2:TK:=
 Vu
noncomputable def T321k3 (A:Int):TK:=
 Vm A
noncomputable def T321b1 (A B:Int) (C:Option Addr) (D:Nat):TB:=
 fun a=>Xd a fun a=>iB (decide (a<A)) (.join (.loop [nI a] (T321b0 B C D) (T321k2)) (T321k3 a)) (re 0 [nI a])
noncomputable def T321k4:TK:=
 Uc
noncomputable def T321 (A:Option Addr) (B C:Nat) (D E:Int):Pg:=
 .loop [(nI (wi64 (D+1)))] (T321b1 E D A B) (T321k4)
theorem T321_eq (A:Option Addr) (B C:Nat) (D E:Int):progOf PROG false 321 [.slice A B C,(.int .i64 D),(.int .i64 E)]=T321 A B C D E:=by kernel_rfl
noncomputable def T327k0:TK:=
 Vn
noncomputable def T327 (A B:Int):Pg:=
 .join (qB 199 [nI A] fun a=>iB (a==true) (qB 199 [nI B] fun a=>rn [(.bool ((!a)||(decide (A<B))))]) (rn [(.bool (decide (A<B)))])) (T327k0)
theorem T327_eq (A B:Int):progOf PROG false 327 [(.int .i64 A),(.int .i64 B)]=T327 A B:=by kernel_rfl
noncomputable def T341k0:TK:=
 Ug
noncomputable def T341k1:TK:=
 Ug
noncomputable def T341k2:TK:=
 Ug
noncomputable def T341k3 (A:Option Addr):TK:=
 fun a b=>sw a .normal (asCons b fun a b=>asPtr a fun _=>Xd b fun a=>qA 75 [.pointer A] fun b=>Xi b fun b c d f=>nw Zt fun g=>sC g (Vb b c d f) (.act (ld1 (aadd g 2)) fun b=>asInt .i64 b fun c=>.call 341 [.pointer A] fun d=>asPtr d fun d=>.get fun f=>grd (chks [((ld1 (aadd g 2)),b)] f) (bL 1 1 [.pointer d] fun d f h=>.get fun i=>grd (chks [((ld1 (aadd g 2)),b)] i) (.call 80 (Wz a c d f h) fun a=>asPtr a fun a=>rr [.pointer a])))) (sw a .ret (Xn b fun a _=>rr [.pointer a]) (.fail))
noncomputable def T341 (A:Option Addr):Pg:=
 .join (qB 37 (Wm A 0 (bs [114,101,102])) fun a=>.join (iB a (rn (Wu none 15)) (qB 37 (Wm A 0 (bs [33])) fun a=>.join (iB a (rn (Wu none 16)) (qB 37 (Wm A 0 (bs [112,114,105,110,116])) fun a=>.join (iB a (rn (Wu none 17)) (qB 37 (Wm A 0 (bs [114,97,105,115,101])) fun a=>iB a (rn (Wu none 19)) (.call 359 [.pointer A] fun a=>asPtr a fun a=>rr (Wu a 0)))) (T341k0))) (T341k1))) (T341k2)) (T341k3 A)
theorem T341_eq (A:Option Addr):progOf PROG false 341 [(.pointer A)]=T341 A:=by kernel_rfl
noncomputable def T342k0:TK:=
 Vn
noncomputable def T342k1:TK:=
 Vk
noncomputable def T342k2:TK:=
 Vk
noncomputable def T342k3:TK:=
 Vk
noncomputable def T342k4:TK:=
 Vk
noncomputable def T342k5:TK:=
 Vk
noncomputable def T342k6:TK:=
 Vk
noncomputable def T342k7:TK:=
 Vk
noncomputable def T342k8:TK:=
 Vk
noncomputable def T342k9:TK:=
 Vk
noncomputable def T342k10:TK:=
 Ua
noncomputable def T342k11:TK:=
 Kc
noncomputable def T342k12:TK:=
 Kc
noncomputable def T342k13 (A:Int) (B:Option Addr):TK:=
 fun a b=>sw a .normal (Xa b fun a=>iB a (rr [.bool true]) (iB (A==2) (qB 155 [.pointer B] fun a=>rr [(.bool (!a))]) (iB (A==5) (.join (qB 37 (Wm B 0 (bs [40])) fun a=>iB (a==false) (qB 37 (Wm B 0 (bs [33])) fun a=>rn [.bool a]) (rn [.bool true])) (T342k0)) (.join (iB (A==4) (asSome B fun a=>lL (aadd a 0) fun a b _=>asSome B fun c=>lI (aadd c 2) fun c=>asSome a fun a=>ix c b (lS (aadd (aadd a ((Int.toNat c)*4)) 1) fun a=>.join (.join (iB (a.toList==(bs [114,101,102]).toList) (rn [(.bool (a.toList==(bs [114,101,102]).toList))]) (.join (iB (a.toList==(bs [112,114,105,110,116]).toList) (rn [(.bool (a.toList==(bs [112,114,105,110,116]).toList))]) (.join (iB (a.toList==(bs [114,97,105,115,101]).toList) (rn [(.bool (a.toList==(bs [114,97,105,115,101]).toList))]) (.join (iB (a.toList==(bs [116,114,117,101]).toList) (rn [(.bool (a.toList==(bs [116,114,117,101]).toList))]) (.join (iB (a.toList==(bs [102,97,108,115,101]).toList) (rn [(.bool (a.toList==(bs [102,97,108,115,101]).toList))]) (.join (iB (a.toList==(bs [114,101,97,100]).toList) (rn [(.bool (a.toList==(bs [114,101,97,100]).toList))]) (.join (iB (a.toList==(bs [102,117,110]).toList) (rn [(.bool (a.toList==(bs [102,117,110]).toList))]) (.join (iB (a.toList==(bs [108,101,116]).toList) (rn [(.bool (a.toList==(bs [108,101,116]).toList))]) (.join (iB (a.toList==(bs [105,102]).toList) (rn [(.bool (a.toList==(bs [105,102]).toList))]) (.join (iB (a.toList==(bs [109,97,116,99,104]).toList) (rn [(.bool (a.toList==(bs [109,97,116,99,104]).toList))]) (rn [(.bool (a.toList==(bs [116,114,121]).toList))])) (T342k1))) (T342k2))) (T342k3))) (T342k4))) (T342k5))) (T342k6))) (T342k7))) (T342k8))) (T342k9))) (T342k10)) (T342k11))) (rn [.bool false])) (T342k12))))) (.fail)
noncomputable def T342k14:TK:=
 Ub
noncomputable def T342 (A:Option Addr):Pg:=
 qI 154 [.pointer A] fun a=>.join (.join (iB (a==1) (rn [(.bool (a==1))]) (rn [(.bool (a==3))])) (T342k13 a A)) (T342k14)
theorem T342_eq (A:Option Addr):progOf PROG false 342 [(.pointer A)]=T342 A:=by kernel_rfl
noncomputable def T343k0:TK:=
 Vn
noncomputable def T343k1 (A:Int):TK:=
 Vr A
noncomputable def T343b0 (A:Nat) (B C:Option Addr) (D:Int) (E:Option Nat):TB:=
 fun a=>Xg a fun a b=>iB (decide (a<(A:Int))) (.join (asSome B fun c=>ix a A (Yz (aadd c ((Int.toNat a)*4)) fun a c d f g h=>nw Zp fun i=>sC i (Wo a c d f g h) (Yz i fun a c d f g h=>qB 343 [.pointer C,nI D,(Wl a c d f g h),.map E] fun a=>iB a (rr [.bool true]) (rn [.bool b])))) (T343k1 a)) (re 0 (Wd a b))
noncomputable def T343k2:TK:=
 Uo
noncomputable def T343 (A:Option Addr) (B C:Int) (D:ByteArray) (E:Int) (F:Option Addr) (G H:Nat) (I:Option Nat):Pg:=
 nw (Wo C D E F G H) fun a=>lI (aadd a 0) fun b=>iB (b==7) (lI (aadd a 2) fun b=>.act (lkp (.int .i64) (.bool false) I (nI b) false) fun b=>asBool b fun b=>iB b (rr [.bool false]) (lI (aadd a 2) fun b=>.act (mup (.int .i64) I (nI b) (.bool true)) fun b=>asTuple b fun b=>asNil b (asSome A fun b=>.act (ld1 (aadd b 1)) fun c=>asMap c fun d=>.act (ld1 (aadd a 2)) fun f=>asInt .i64 f fun g=>.act (lkp (.int .i64) Zz d (nI g) true) fun h=>asTuple h fun i=>asCons i fun i j=>asAgg i fun i=>Xb i fun i k l m n o=>Xa j fun j=>nw Zp fun p=>.get fun q=>grd (chks [((lkp (.int .i64) Zz d (nI g) true),h),((ld1 (aadd a 2)),f),((ld1 (aadd b 1)),c)] q) (sC p (Wo i k l m n o) (.join (lI (aadd a 2) fun a=>iB ((a==B)==false) (iB (j==true) (Yz p fun a b c d f g=>qB 343 [.pointer A,nI B,(Wl a b c d f g),.map I] fun a=>rn [.bool a]) (rn [.bool false])) (rn [.bool true])) (T343k0)))))) (lL (aadd a 3) fun a b _=>.loop Zi (T343b0 b a A B I) (T343k2))
theorem T343_eq (A:Option Addr) (B C:Int) (D:ByteArray) (E:Int) (F:Option Addr) (G H:Nat) (I:Option Nat):progOf PROG false 343 [(.pointer A),(.int .i64 B),(.agg #[(.int .i64 C),.string D,(.int .i64 E),.slice F G H]),(.map I)]=T343 A B C D E F G H I:=by kernel_rfl
noncomputable def T359k0 (A:Option Addr):TK:=
 fun a b=>sw a .normal (Xa b fun a=>iB a (qA 75 [.pointer A] fun a=>Xi a fun a b c d=>.call 371 [nI 4,(.agg #[nI a,.string b,nI c,nI d])] fun a=>asPtr a fun a=>asSome A fun b=>lL (aadd b 0) fun b c _=>asSome A fun d=>lI (aadd d 2) fun d=>asSome b fun b=>grd ((decide (0≤(wi64 (d - 1))))&&(decide ((wi64 (d - 1))<(c:Int)))) (lS (aadd (aadd b ((Int.toNat (wi64 (d - 1)))*4)) 1) fun b=>asSome a fun c=>sC (aadd (aadd c 0) 2) [.string b] (rr [.pointer a]))) (qI 154 [.pointer A] fun a=>iB (a==3) (.call 372 [.pointer A,nI 5,(.func (.func 39) #[.pointer A] #[])] fun a=>asPtr a fun a=>rr [.pointer a]) (rn [.pointer none]))) (.fail)
noncomputable def T359k1 (A:Option Addr):TK:=
 fun a b=>sw a .ret (Xo b fun a=>rr [.pointer a]) (sw a .normal (asCons b fun a b=>asPtr a fun _=>asNil b (.call 373 [.pointer A,nI 1,nI 2] fun a=>asPtr a fun a=>rr [.pointer a])) (.fail))
noncomputable def T359 (A:Option Addr):Pg:=
 .join (qB 37 (Wm A 0 (bs [40])) fun a=>iB a (.call 365 [.pointer A] fun a=>asPtr a fun a=>rr [.pointer a]) (qB 37 (Wm A 0 (bs [102,117,110])) fun a=>iB a (.call 366 [.pointer A] fun a=>asPtr a fun a=>rr [.pointer a]) (qB 37 (Wm A 0 (bs [108,101,116])) fun a=>iB a (.call 367 [.pointer A] fun a=>asPtr a fun a=>rr [.pointer a]) (qB 37 (Wm A 0 (bs [105,102])) fun a=>iB a (.call 368 [.pointer A] fun a=>asPtr a fun a=>rr [.pointer a]) (qB 37 (Wm A 0 (bs [109,97,116,99,104])) fun a=>iB a (.call 369 [.pointer A] fun a=>asPtr a fun a=>rr [.pointer a]) (qB 37 (Wm A 0 (bs [116,114,121])) fun a=>iB a (.call 370 [.pointer A] fun a=>asPtr a fun a=>rr [.pointer a]) (qB 37 (Wm A 0 (bs [114,101,97,100])) fun a=>iB a (qA 75 [.pointer A] fun a=>Xi a fun a b c d=>.call 371 [nI 18,(.agg #[nI a,.string b,nI c,nI d])] fun a=>asPtr a fun a=>rr [.pointer a]) (.join (qI 154 [.pointer A] fun a=>iB ((a==2)==true) (qB 155 [.pointer A] fun a=>rn [(.bool (!a))]) (rn [.bool false])) (T359k0 A))))))))) (T359k1 A)
theorem T359_eq (A:Option Addr):progOf PROG false 359 [(.pointer A)]=T359 A:=by kernel_rfl
noncomputable def T365 (A:Option Addr):Pg:=
 qA 75 [.pointer A] fun a=>Xi a fun a b c d=>nw Zt fun f=>sC f (Vb a b c d) (qB 37 (Wm A 0 (bs [41])) fun a=>iB a (.act (ld1 (aadd f 2)) fun a=>asInt .i64 a fun b=>qA 75 [.pointer A] fun c=>Xi c fun _ _ _ c=>.get fun d=>grd (chks [((ld1 (aadd f 2)),a)] d) (nw [nI 3,nI 0,(.string (bs [])),(.string (bs [])),.slice none 0 0,nI b,nI c,.slice none 0 0] fun a=>rr [(.pointer (some a))])) (.call 39 [.pointer A] fun a=>asPtr a fun a=>qA 77 [.pointer A,(.string (bs [41]))] fun b=>Xi b fun _ _ _ _=>rr [.pointer a]))
theorem T365_eq (A:Option Addr):progOf PROG false 365 [(.pointer A)]=T365 A:=by kernel_rfl
noncomputable def T366 (A:Option Addr):Pg:=
 qA 75 [.pointer A] fun a=>Xi a fun a b c d=>nw Zt fun f=>sC f (Vb a b c d) (qS 76 [.pointer A] fun a=>qA 77 [.pointer A,(.string (bs [45,62]))] fun b=>Xi b fun _ _ _ _=>.act (ld1 (aadd f 2)) fun b=>asInt .i64 b fun c=>.call 39 [.pointer A] fun d=>asPtr d fun d=>.get fun g=>grd (chks [((ld1 (aadd f 2)),b)] g) (bL 1 1 [.pointer d] fun d g h=>.get fun i=>grd (chks [((ld1 (aadd f 2)),b)] i) (.call 80 (Wz 6 c d g h) fun b=>asPtr b fun b=>asSome b fun c=>sC (aadd (aadd c 0) 3) [.string a] (rr [.pointer b]))))
theorem T366_eq (A:Option Addr):progOf PROG false 366 [(.pointer A)]=T366 A:=by kernel_rfl
noncomputable def T367k0 (A:Option Addr) (B:Addr) (C:Int) (D:ByteArray):TK:=
 fun a b=>sw a .normal (Yh b fun a=>qA 77 [.pointer A,(.string (bs [61]))] fun b=>Xi b fun _ _ _ _=>.call 39 [.pointer A] fun b=>asPtr b fun b=>qA 77 [.pointer A,(.string (bs [105,110]))] fun c=>Xi c fun _ _ _ _=>.act (ld1 (aadd B 2)) fun c=>asInt .i64 c fun d=>.call 39 [.pointer A] fun f=>asPtr f fun f=>.get fun g=>grd (chks [((ld1 (aadd B 2)),c)] g) (bL 1 2 [.pointer b,.pointer f] fun b f g=>.get fun h=>grd (chks [((ld1 (aadd B 2)),c)] h) (.call 80 (Wz C d b f g) fun b=>asPtr b fun b=>asSome b fun c=>sC (aadd (aadd c 0) 2) [.string D] (asSome b fun c=>sC (aadd (aadd c 0) 3) [.string a] (rr [.pointer b]))))) (.fail)
noncomputable def T367k1 (A:Option Addr) (B:Addr):TK:=
 fun a b=>sw a .normal (Xd b fun a=>qS 76 [.pointer A] fun b=>.join (iB (a==9) (qS 76 [.pointer A] fun a=>rn [.string a]) (rn [(.string (bs []))])) (T367k0 A B a b)) (.fail)
noncomputable def T367 (A:Option Addr):Pg:=
 qA 75 [.pointer A] fun a=>Xi a fun a b c d=>nw Zt fun f=>sC f (Vb a b c d) (qB 37 (Wm A 0 (bs [114,101,99])) fun a=>.join (iB a (qA 75 [.pointer A] fun a=>Xi a fun _ _ _ _=>rn [nI 9]) (rn [nI 8])) (T367k1 A f))
theorem T367_eq (A:Option Addr):progOf PROG false 367 [(.pointer A)]=T367 A:=by kernel_rfl
noncomputable def T371 (A B:Int) (C:ByteArray) (D E:Int):Pg:=
 nw (Vb B C D E) fun a=>lI (aadd a 2) fun b=>lI (aadd a 3) fun a=>nw [nI A,nI 0,(.string (bs [])),(.string (bs [])),.slice none 0 0,nI b,nI a,.slice none 0 0] fun a=>rr [(.pointer (some a))]
theorem T371_eq (A B:Int) (C:ByteArray) (D E:Int):progOf PROG false 371 [(.int .i64 A),(.agg #[(.int .i64 B),.string C,(.int .i64 D),(.int .i64 E)])]=T371 A B C D E:=by kernel_rfl
noncomputable def A3:List Value→Option Pg
 |[.slice p0 n1 n2]=>some (T3 p0 n1 n2)
 |_=>none
theorem A3_ok:∀ args p,A3 args=some p→progOf PROG false 3 args=p:=by
 intro args p h
 unfold A3 at h
 split at h
 ·cases h;exact T3_eq _ _ _
 ·cases h
noncomputable def A4:List Value→Option Pg
 |[]=>some (T4)
 |_=>none
theorem A4_ok:∀ args p,A4 args=some p→progOf PROG false 4 args=p:=by
 intro args p h
 unfold A4 at h
 split at h
 ·cases h;exact T4_eq
 ·cases h
noncomputable def A5:List Value→Option Pg
 |[.slice p0 n1 n2]=>some (T5 p0 n1 n2)
 |_=>none
theorem A5_ok:∀ args p,A5 args=some p→progOf PROG false 5 args=p:=by
 intro args p h
 unfold A5 at h
 split at h
 ·cases h;exact T5_eq _ _ _
 ·cases h
noncomputable def A6:List Value→Option Pg
 |[.string s0]=>some (T6 s0)
 |_=>none
theorem A6_ok:∀ args p,A6 args=some p→progOf PROG false 6 args=p:=by
 intro args p h
 unfold A6 at h
 split at h
 ·cases h;exact T6_eq _
 ·cases h
noncomputable def A7:List Value→Option Pg
 |[(.agg c0),.slice p40 n41 n42,(.int .i64 i43),(.int .i64 i44)]=>(match c0.toList with
  |[.string s0,.slice p1 n2 n3,.slice p4 n5 n6,.slice p7 n8 n9,.slice p10 n11 n12,.slice p13 n14 n15,(.int .i64 i16),.string s17,(.int .i64 i18),.slice p19 n20 n21,.slice p22 n23 n24,.slice p25 n26 n27,.slice p28 n29 n30,.slice p31 n32 n33,.slice p34 n35 n36,.slice p37 n38 n39]=>some (T7 s0 p1 n2 n3 p4 n5 n6 p7 n8 n9 p10 n11 n12 p13 n14 n15 i16 s17 i18 p19 n20 n21 p22 n23 n24 p25 n26 n27 p28 n29 n30 p31 n32 n33 p34 n35 n36 p37 n38 n39 p40 n41 n42 i43 i44)
  |_=>none)
 |_=>none
theorem A7_ok:∀ args p,A7 args=some p→progOf PROG false 7 args=p:=by
 intro args p h
 unfold A7 at h
 split at h
 ·split at h
  ·rename_i e0
   have f0:=agg_of e0
   subst f0
   cases h
   exact T7_eq _ _ _ _ _ _ _ _ _ _ _ _ _ _ _ _ _ _ _ _ _ _ _ _ _ _ _ _ _ _ _ _ _ _ _ _ _ _ _ _ _ _ _ _ _
  ·cases h
 ·cases h
noncomputable def A8:List Value→Option Pg
 |[(.pointer p0)]=>some (T8 p0)
 |_=>none
theorem A8_ok:∀ args p,A8 args=some p→progOf PROG false 8 args=p:=by
 intro args p h
 unfold A8 at h
 split at h
 ·cases h;exact T8_eq _
 ·cases h
noncomputable def A9:List Value→Option Pg
 |[(.pointer p0)]=>some (T9 p0)
 |_=>none
theorem A9_ok:∀ args p,A9 args=some p→progOf PROG false 9 args=p:=by
 intro args p h
 unfold A9 at h
 split at h
 ·cases h;exact T9_eq _
 ·cases h
noncomputable def A10:List Value→Option Pg
 |[.slice p0 n1 n2,.slice p3 n4 n5]=>some (T10 p0 n1 n2 p3 n4 n5)
 |_=>none
theorem A10_ok:∀ args p,A10 args=some p→progOf PROG false 10 args=p:=by
 intro args p h
 unfold A10 at h
 split at h
 ·cases h;exact T10_eq _ _ _ _ _ _
 ·cases h
noncomputable def A11:List Value→Option Pg
 |[(.pointer p0)]=>some (T11 p0)
 |_=>none
theorem A11_ok:∀ args p,A11 args=some p→progOf PROG false 11 args=p:=by
 intro args p h
 unfold A11 at h
 split at h
 ·cases h;exact T11_eq _
 ·cases h
noncomputable def A12:List Value→Option Pg
 |[(.pointer p0)]=>some (T12 p0)
 |_=>none
theorem A12_ok:∀ args p,A12 args=some p→progOf PROG false 12 args=p:=by
 intro args p h
 unfold A12 at h
 split at h
 ·cases h;exact T12_eq _
 ·cases h
noncomputable def A13:List Value→Option Pg
 |[(.int .i64 i0)]=>some (T13 i0)
 |_=>none
theorem A13_ok:∀ args p,A13 args=some p→progOf PROG false 13 args=p:=by
 intro args p h
 unfold A13 at h
 split at h
 ·cases h;exact T13_eq _
 ·cases h
noncomputable def A14:List Value→Option Pg
 |[(.pointer p0)]=>some (T14 p0)
 |_=>none
theorem A14_ok:∀ args p,A14 args=some p→progOf PROG false 14 args=p:=by
 intro args p h
 unfold A14 at h
 split at h
 ·cases h;exact T14_eq _
 ·cases h
noncomputable def A15:List Value→Option Pg
 |[.string s0]=>some (T15 s0)
 |_=>none
theorem A15_ok:∀ args p,A15 args=some p→progOf PROG false 15 args=p:=by
 intro args p h
 unfold A15 at h
 split at h
 ·cases h;exact T15_eq _
 ·cases h
noncomputable def A16:List Value→Option Pg
 |[(.int .i64 i0)]=>some (T16 i0)
 |_=>none
theorem A16_ok:∀ args p,A16 args=some p→progOf PROG false 16 args=p:=by
 intro args p h
 unfold A16 at h
 split at h
 ·cases h;exact T16_eq _
 ·cases h
noncomputable def A17:List Value→Option Pg
 |[.string s0]=>some (T17 s0)
 |_=>none
theorem A17_ok:∀ args p,A17 args=some p→progOf PROG false 17 args=p:=by
 intro args p h
 unfold A17 at h
 split at h
 ·cases h;exact T17_eq _
 ·cases h
noncomputable def A18:List Value→Option Pg
 |[(.agg c0)]=>(match c0.toList with
  |[.slice p0 n1 n2,.slice p3 n4 n5]=>some (T18 p0 n1 n2 p3 n4 n5)
  |_=>none)
 |_=>none
theorem A18_ok:∀ args p,A18 args=some p→progOf PROG false 18 args=p:=by
 intro args p h
 unfold A18 at h
 split at h
 ·split at h
  ·rename_i e0
   have f0:=agg_of e0
   subst f0
   cases h
   exact T18_eq _ _ _ _ _ _
  ·cases h
 ·cases h
noncomputable def A19:List Value→Option Pg
 |[(.agg c0)]=>(match c0.toList with
  |[.slice p0 n1 n2,.slice p3 n4 n5]=>some (T19 p0 n1 n2 p3 n4 n5)
  |_=>none)
 |_=>none
theorem A19_ok:∀ args p,A19 args=some p→progOf PROG false 19 args=p:=by
 intro args p h
 unfold A19 at h
 split at h
 ·split at h
  ·rename_i e0
   have f0:=agg_of e0
   subst f0
   cases h
   exact T19_eq _ _ _ _ _ _
  ·cases h
 ·cases h
noncomputable def A20:List Value→Option Pg
 |[(.agg c0)]=>(match c0.toList with
  |[.slice p0 n1 n2,.slice p3 n4 n5]=>some (T20 p0 n1 n2 p3 n4 n5)
  |_=>none)
 |_=>none
theorem A20_ok:∀ args p,A20 args=some p→progOf PROG false 20 args=p:=by
 intro args p h
 unfold A20 at h
 split at h
 ·split at h
  ·rename_i e0
   have f0:=agg_of e0
   subst f0
   cases h
   exact T20_eq _ _ _ _ _ _
  ·cases h
 ·cases h
noncomputable def A21:List Value→Option Pg
 |[(.agg c0)]=>(match c0.toList with
  |[.string s0,.slice p1 n2 n3,.slice p4 n5 n6,.slice p7 n8 n9,.slice p10 n11 n12,.slice p13 n14 n15,(.int .i64 i16),.string s17,(.int .i64 i18),.slice p19 n20 n21,.slice p22 n23 n24,.slice p25 n26 n27,.slice p28 n29 n30,.slice p31 n32 n33,.slice p34 n35 n36,.slice p37 n38 n39]=>some (T21 s0 p1 n2 n3 p4 n5 n6 p7 n8 n9 p10 n11 n12 p13 n14 n15 i16 s17 i18 p19 n20 n21 p22 n23 n24 p25 n26 n27 p28 n29 n30 p31 n32 n33 p34 n35 n36 p37 n38 n39)
  |_=>none)
 |_=>none
theorem A21_ok:∀ args p,A21 args=some p→progOf PROG false 21 args=p:=by
 intro args p h
 unfold A21 at h
 split at h
 ·split at h
  ·rename_i e0
   have f0:=agg_of e0
   subst f0
   cases h
   exact T21_eq _ _ _ _ _ _ _ _ _ _ _ _ _ _ _ _ _ _ _ _ _ _ _ _ _ _ _ _ _ _ _ _ _ _ _ _ _ _ _ _
  ·cases h
 ·cases h
noncomputable def A22:List Value→Option Pg
 |[(.int .i64 i0)]=>some (T22 i0)
 |_=>none
theorem A22_ok:∀ args p,A22 args=some p→progOf PROG false 22 args=p:=by
 intro args p h
 unfold A22 at h
 split at h
 ·cases h;exact T22_eq _
 ·cases h
noncomputable def A23:List Value→Option Pg
 |[(.int .i64 i0)]=>some (T23 i0)
 |_=>none
theorem A23_ok:∀ args p,A23 args=some p→progOf PROG false 23 args=p:=by
 intro args p h
 unfold A23 at h
 split at h
 ·cases h;exact T23_eq _
 ·cases h
noncomputable def A24:List Value→Option Pg
 |[(.int .i64 i0)]=>some (T24 i0)
 |_=>none
theorem A24_ok:∀ args p,A24 args=some p→progOf PROG false 24 args=p:=by
 intro args p h
 unfold A24 at h
 split at h
 ·cases h;exact T24_eq _
 ·cases h
noncomputable def A25:List Value→Option Pg
 |[(.int .i64 i0)]=>some (T25 i0)
 |_=>none
theorem A25_ok:∀ args p,A25 args=some p→progOf PROG false 25 args=p:=by
 intro args p h
 unfold A25 at h
 split at h
 ·cases h;exact T25_eq _
 ·cases h
noncomputable def A26:List Value→Option Pg
 |[.slice p0 n1 n2]=>some (T26 p0 n1 n2)
 |_=>none
theorem A26_ok:∀ args p,A26 args=some p→progOf PROG false 26 args=p:=by
 intro args p h
 unfold A26 at h
 split at h
 ·cases h;exact T26_eq _ _ _
 ·cases h
noncomputable def A27:List Value→Option Pg
 |[.slice p0 n1 n2,v3]=>some (T27 p0 n1 n2 v3)
 |_=>none
theorem A27_ok:∀ args p,A27 args=some p→progOf PROG false 27 args=p:=by
 intro args p h
 unfold A27 at h
 split at h
 ·cases h;exact T27_eq _ _ _ _
 ·cases h
noncomputable def A28:List Value→Option Pg
 |[.slice p0 n1 n2]=>some (T28 p0 n1 n2)
 |_=>none
theorem A28_ok:∀ args p,A28 args=some p→progOf PROG false 28 args=p:=by
 intro args p h
 unfold A28 at h
 split at h
 ·cases h;exact T28_eq _ _ _
 ·cases h
noncomputable def A29:List Value→Option Pg
 |[.slice p0 n1 n2]=>some (T29 p0 n1 n2)
 |_=>none
theorem A29_ok:∀ args p,A29 args=some p→progOf PROG false 29 args=p:=by
 intro args p h
 unfold A29 at h
 split at h
 ·cases h;exact T29_eq _ _ _
 ·cases h
noncomputable def A30:List Value→Option Pg
 |[(.agg c0)]=>(match c0.toList with
  |[(.int .i64 i0),(.int .i64 i1),(.int .i64 i2)]=>some (T30 i0 i1 i2)
  |_=>none)
 |_=>none
theorem A30_ok:∀ args p,A30 args=some p→progOf PROG false 30 args=p:=by
 intro args p h
 unfold A30 at h
 split at h
 ·split at h
  ·rename_i e0
   have f0:=agg_of e0
   subst f0
   cases h
   exact T30_eq _ _ _
  ·cases h
 ·cases h
noncomputable def A31:List Value→Option Pg
 |[(.pointer p0),(.agg c0)]=>(match c0.toList with
  |[(.int .i64 i1),(.int .i64 i2),(.int .i64 i3)]=>some (T31 p0 i1 i2 i3)
  |_=>none)
 |_=>none
theorem A31_ok:∀ args p,A31 args=some p→progOf PROG false 31 args=p:=by
 intro args p h
 unfold A31 at h
 split at h
 ·split at h
  ·rename_i e0
   have f0:=agg_of e0
   subst f0
   cases h
   exact T31_eq _ _ _ _
  ·cases h
 ·cases h
noncomputable def A32:List Value→Option Pg
 |[(.pointer p0)]=>some (T32 p0)
 |_=>none
theorem A32_ok:∀ args p,A32 args=some p→progOf PROG false 32 args=p:=by
 intro args p h
 unfold A32 at h
 split at h
 ·cases h;exact T32_eq _
 ·cases h
noncomputable def A33:List Value→Option Pg
 |[(.pointer p0)]=>some (T33 p0)
 |_=>none
theorem A33_ok:∀ args p,A33 args=some p→progOf PROG false 33 args=p:=by
 intro args p h
 unfold A33 at h
 split at h
 ·cases h;exact T33_eq _
 ·cases h
noncomputable def A34:List Value→Option Pg
 |[.string s0]=>some (T34 s0)
 |_=>none
theorem A34_ok:∀ args p,A34 args=some p→progOf PROG false 34 args=p:=by
 intro args p h
 unfold A34 at h
 split at h
 ·cases h;exact T34_eq _
 ·cases h
noncomputable def A35:List Value→Option Pg
 |[(.agg c0)]=>(match c0.toList with
  |[(.int .i64 i0),.string s1,(.int .i64 i2),.slice p3 n4 n5]=>some (T35 i0 s1 i2 p3 n4 n5)
  |_=>none)
 |_=>none
theorem A35_ok:∀ args p,A35 args=some p→progOf PROG false 35 args=p:=by
 intro args p h
 unfold A35 at h
 split at h
 ·split at h
  ·rename_i e0
   have f0:=agg_of e0
   subst f0
   cases h
   exact T35_eq _ _ _ _ _ _
  ·cases h
 ·cases h
noncomputable def A36:List Value→Option Pg
 |[.string s0]=>some (T36 s0)
 |_=>none
theorem A36_ok:∀ args p,A36 args=some p→progOf PROG false 36 args=p:=by
 intro args p h
 unfold A36 at h
 split at h
 ·cases h;exact T36_eq _
 ·cases h
noncomputable def A37:List Value→Option Pg
 |[(.pointer p0),(.int .i64 i1),.string s2]=>some (T37 p0 i1 s2)
 |_=>none
theorem A37_ok:∀ args p,A37 args=some p→progOf PROG false 37 args=p:=by
 intro args p h
 unfold A37 at h
 split at h
 ·cases h;exact T37_eq _ _ _
 ·cases h
noncomputable def A39:List Value→Option Pg
 |[(.pointer p0)]=>some (T39 p0)
 |_=>none
theorem A39_ok:∀ args p,A39 args=some p→progOf PROG false 39 args=p:=by
 intro args p h
 unfold A39 at h
 split at h
 ·cases h;exact T39_eq _
 ·cases h
noncomputable def A41:List Value→Option Pg
 |[(.pointer p0),(.pointer p1),(.int .i64 i2),(.pointer p3)]=>some (T41 p0 p1 i2 p3)
 |_=>none
theorem A41_ok:∀ args p,A41 args=some p→progOf PROG false 41 args=p:=by
 intro args p h
 unfold A41 at h
 split at h
 ·cases h;exact T41_eq _ _ _ _
 ·cases h
noncomputable def A42:List Value→Option Pg
 |[(.agg c0)]=>(match c0.toList with
  |[.slice p0 n1 n2,.slice p3 n4 n5]=>some (T42 p0 n1 n2 p3 n4 n5)
  |_=>none)
 |_=>none
theorem A42_ok:∀ args p,A42 args=some p→progOf PROG false 42 args=p:=by
 intro args p h
 unfold A42 at h
 split at h
 ·split at h
  ·rename_i e0
   have f0:=agg_of e0
   subst f0
   cases h
   exact T42_eq _ _ _ _ _ _
  ·cases h
 ·cases h
noncomputable def A43:List Value→Option Pg
 |[]=>some (T43)
 |_=>none
theorem A43_ok:∀ args p,A43 args=some p→progOf PROG false 43 args=p:=by
 intro args p h
 unfold A43 at h
 split at h
 ·cases h;exact T43_eq
 ·cases h
noncomputable def A44:List Value→Option Pg
 |[(.pointer p0),(.int .i64 i1),(.pointer p2)]=>some (T44 p0 i1 p2)
 |_=>none
theorem A44_ok:∀ args p,A44 args=some p→progOf PROG false 44 args=p:=by
 intro args p h
 unfold A44 at h
 split at h
 ·cases h;exact T44_eq _ _ _
 ·cases h
noncomputable def A45:List Value→Option Pg
 |[(.pointer p0),(.agg c0)]=>(match c0.toList with
  |[(.int .i64 i1),.string s2,(.int .i64 i3),.slice p4 n5 n6]=>some (T45 p0 i1 s2 i3 p4 n5 n6)
  |_=>none)
 |_=>none
theorem A45_ok:∀ args p,A45 args=some p→progOf PROG false 45 args=p:=by
 intro args p h
 unfold A45 at h
 split at h
 ·split at h
  ·rename_i e0
   have f0:=agg_of e0
   subst f0
   cases h
   exact T45_eq _ _ _ _ _ _ _
  ·cases h
 ·cases h
noncomputable def A47:List Value→Option Pg
 |[(.agg c0)]=>(match c0.toList with
  |[.slice p0 n1 n2,.slice p3 n4 n5]=>some (T47 p0 n1 n2 p3 n4 n5)
  |_=>none)
 |_=>none
theorem A47_ok:∀ args p,A47 args=some p→progOf PROG false 47 args=p:=by
 intro args p h
 unfold A47 at h
 split at h
 ·split at h
  ·rename_i e0
   have f0:=agg_of e0
   subst f0
   cases h
   exact T47_eq _ _ _ _ _ _
  ·cases h
 ·cases h
noncomputable def A48:List Value→Option Pg
 |[(.agg c0)]=>(match c0.toList with
  |[.slice p0 n1 n2,.slice p3 n4 n5]=>some (T48 p0 n1 n2 p3 n4 n5)
  |_=>none)
 |_=>none
theorem A48_ok:∀ args p,A48 args=some p→progOf PROG false 48 args=p:=by
 intro args p h
 unfold A48 at h
 split at h
 ·split at h
  ·rename_i e0
   have f0:=agg_of e0
   subst f0
   cases h
   exact T48_eq _ _ _ _ _ _
  ·cases h
 ·cases h
noncomputable def A49:List Value→Option Pg
 |[(.pointer p0)]=>some (T49 p0)
 |_=>none
theorem A49_ok:∀ args p,A49 args=some p→progOf PROG false 49 args=p:=by
 intro args p h
 unfold A49 at h
 split at h
 ·cases h;exact T49_eq _
 ·cases h
noncomputable def A50:List Value→Option Pg
 |[(.pointer p0),(.int .i64 i1)]=>some (T50 p0 i1)
 |_=>none
theorem A50_ok:∀ args p,A50 args=some p→progOf PROG false 50 args=p:=by
 intro args p h
 unfold A50 at h
 split at h
 ·cases h;exact T50_eq _ _
 ·cases h
noncomputable def A51:List Value→Option Pg
 |[(.pointer p0)]=>some (T51 p0)
 |_=>none
theorem A51_ok:∀ args p,A51 args=some p→progOf PROG false 51 args=p:=by
 intro args p h
 unfold A51 at h
 split at h
 ·cases h;exact T51_eq _
 ·cases h
noncomputable def A52:List Value→Option Pg
 |[.string s0,(.int .i64 i1)]=>some (T52 s0 i1)
 |_=>none
theorem A52_ok:∀ args p,A52 args=some p→progOf PROG false 52 args=p:=by
 intro args p h
 unfold A52 at h
 split at h
 ·cases h;exact T52_eq _ _
 ·cases h
noncomputable def A53:List Value→Option Pg
 |[(.agg c0),(.agg c1)]=>(match c0.toList with
  |[.string s0,.slice p1 n2 n3,.slice p4 n5 n6,.slice p7 n8 n9,.slice p10 n11 n12,.slice p13 n14 n15,(.int .i64 i16),.string s17,(.int .i64 i18),.slice p19 n20 n21,.slice p22 n23 n24,.slice p25 n26 n27,.slice p28 n29 n30,.slice p31 n32 n33,.slice p34 n35 n36,.slice p37 n38 n39]=>(match c1.toList with
  |[(.int .i64 i40),(.int .i64 i41)]=>some (T53 s0 p1 n2 n3 p4 n5 n6 p7 n8 n9 p10 n11 n12 p13 n14 n15 i16 s17 i18 p19 n20 n21 p22 n23 n24 p25 n26 n27 p28 n29 n30 p31 n32 n33 p34 n35 n36 p37 n38 n39 i40 i41)
  |_=>none)
  |_=>none)
 |_=>none
theorem A53_ok:∀ args p,A53 args=some p→progOf PROG false 53 args=p:=by
 intro args p h
 unfold A53 at h
 split at h
 ·split at h
  ·split at h
   ·rename_i e0 d1 x1_0 x1_1 e1
    have f0:=agg_of e0
    subst f0
    have f1:=agg_of e1
    subst f1
    cases h
    exact T53_eq _ _ _ _ _ _ _ _ _ _ _ _ _ _ _ _ _ _ _ _ _ _ _ _ _ _ _ _ _ _ _ _ _ _ _ _ _ _ _ _ _ _
   ·cases h
  ·cases h
 ·cases h
noncomputable def A54:List Value→Option Pg
 |[.slice p0 n1 n2,v3]=>some (T54 p0 n1 n2 v3)
 |_=>none
theorem A54_ok:∀ args p,A54 args=some p→progOf PROG false 54 args=p:=by
 intro args p h
 unfold A54 at h
 split at h
 ·cases h;exact T54_eq _ _ _ _
 ·cases h
noncomputable def A55:List Value→Option Pg
 |[(.agg c0),(.pointer (some a6))]=>(match c0.toList with
  |[(.int .i64 i0),(.int .i64 i1),.string s2,(.int .i64 i3),(.int .i64 i4),.string s5]=>some (T55 i0 i1 s2 i3 i4 s5 a6)
  |_=>none)
 |_=>none
theorem A55_ok:∀ args p,A55 args=some p→progOf PROG false 55 args=p:=by
 intro args p h
 unfold A55 at h
 split at h
 ·split at h
  ·rename_i e0
   have f0:=agg_of e0
   subst f0
   cases h
   exact T55_eq _ _ _ _ _ _ _
  ·cases h
 ·cases h
noncomputable def A56:List Value→Option Pg
 |[(.agg c0),(.agg c1)]=>(match c0.toList with
  |[(.int .i64 i0),(.int .i64 i1),.string s2,(.int .i64 i3),(.int .i64 i4),.string s5]=>(match c1.toList with
  |[(.int .i64 i6),(.int .i64 i7),.string s8,(.int .i64 i9),(.int .i64 i10),.string s11]=>some (T56 i0 i1 s2 i3 i4 s5 i6 i7 s8 i9 i10 s11)
  |_=>none)
  |_=>none)
 |_=>none
theorem A56_ok:∀ args p,A56 args=some p→progOf PROG false 56 args=p:=by
 intro args p h
 unfold A56 at h
 split at h
 ·split at h
  ·split at h
   ·rename_i e0 d1 x1_0 x1_1 x1_2 x1_3 x1_4 x1_5 e1
    have f0:=agg_of e0
    subst f0
    have f1:=agg_of e1
    subst f1
    cases h
    exact T56_eq _ _ _ _ _ _ _ _ _ _ _ _
   ·cases h
  ·cases h
 ·cases h
noncomputable def A57:List Value→Option Pg
 |[.slice p0 n1 n2,(.int .i64 i3),(.int .i64 i4)]=>some (T57 p0 n1 n2 i3 i4)
 |_=>none
theorem A57_ok:∀ args p,A57 args=some p→progOf PROG false 57 args=p:=by
 intro args p h
 unfold A57 at h
 split at h
 ·cases h;exact T57_eq _ _ _ _ _
 ·cases h
noncomputable def A58:List Value→Option Pg
 |[.slice p0 n1 n2,v3]=>some (T58 p0 n1 n2 v3)
 |_=>none
theorem A58_ok:∀ args p,A58 args=some p→progOf PROG false 58 args=p:=by
 intro args p h
 unfold A58 at h
 split at h
 ·cases h;exact T58_eq _ _ _ _
 ·cases h
noncomputable def A59:List Value→Option Pg
 |[.slice p0 n1 n2]=>some (T59 p0 n1 n2)
 |_=>none
theorem A59_ok:∀ args p,A59 args=some p→progOf PROG false 59 args=p:=by
 intro args p h
 unfold A59 at h
 split at h
 ·cases h;exact T59_eq _ _ _
 ·cases h
noncomputable def A60:List Value→Option Pg
 |[.slice p0 n1 n2,(.agg c0)]=>(match c0.toList with
  |[(.int .i64 i3),(.int .i64 i4),(.int .i64 i5)]=>some (T60 p0 n1 n2 i3 i4 i5)
  |_=>none)
 |_=>none
theorem A60_ok:∀ args p,A60 args=some p→progOf PROG false 60 args=p:=by
 intro args p h
 unfold A60 at h
 split at h
 ·split at h
  ·rename_i e0
   have f0:=agg_of e0
   subst f0
   cases h
   exact T60_eq _ _ _ _ _ _
  ·cases h
 ·cases h
noncomputable def A61:List Value→Option Pg
 |[(.pointer p0),(.agg c0)]=>(match c0.toList with
  |[(.int .i64 i1),(.int .i64 i2),(.int .i64 i3)]=>some (T61 p0 i1 i2 i3)
  |_=>none)
 |_=>none
theorem A61_ok:∀ args p,A61 args=some p→progOf PROG false 61 args=p:=by
 intro args p h
 unfold A61 at h
 split at h
 ·split at h
  ·rename_i e0
   have f0:=agg_of e0
   subst f0
   cases h
   exact T61_eq _ _ _ _
  ·cases h
 ·cases h
noncomputable def A62:List Value→Option Pg
 |[(.pointer p0),(.int .i64 i1),(.int .i64 i2),(.int .i64 i3),.slice p4 n5 n6]=>some (T62 p0 i1 i2 i3 p4 n5 n6)
 |_=>none
theorem A62_ok:∀ args p,A62 args=some p→progOf PROG false 62 args=p:=by
 intro args p h
 unfold A62 at h
 split at h
 ·cases h;exact T62_eq _ _ _ _ _ _ _
 ·cases h
noncomputable def A63:List Value→Option Pg
 |[(.int .i64 i0)]=>some (T63 i0)
 |_=>none
theorem A63_ok:∀ args p,A63 args=some p→progOf PROG false 63 args=p:=by
 intro args p h
 unfold A63 at h
 split at h
 ·cases h;exact T63_eq _
 ·cases h
noncomputable def A65:List Value→Option Pg
 |[(.pointer p0),(.int .i64 i1)]=>some (T65 p0 i1)
 |_=>none
theorem A65_ok:∀ args p,A65 args=some p→progOf PROG false 65 args=p:=by
 intro args p h
 unfold A65 at h
 split at h
 ·cases h;exact T65_eq _ _
 ·cases h
noncomputable def A69:List Value→Option Pg
 |[(.pointer p0),(.agg c0)]=>(match c0.toList with
  |[(.int .i64 i1),(.int .i64 i2),(.int .i64 i3)]=>some (T69 p0 i1 i2 i3)
  |_=>none)
 |_=>none
theorem A69_ok:∀ args p,A69 args=some p→progOf PROG false 69 args=p:=by
 intro args p h
 unfold A69 at h
 split at h
 ·split at h
  ·rename_i e0
   have f0:=agg_of e0
   subst f0
   cases h
   exact T69_eq _ _ _ _
  ·cases h
 ·cases h
noncomputable def A70:List Value→Option Pg
 |[(.agg c0)]=>(match c0.toList with
  |[(.int .i64 i0),.string s1,(.int .i64 i2),.slice p3 n4 n5]=>some (T70 i0 s1 i2 p3 n4 n5)
  |_=>none)
 |_=>none
theorem A70_ok:∀ args p,A70 args=some p→progOf PROG false 70 args=p:=by
 intro args p h
 unfold A70 at h
 split at h
 ·split at h
  ·rename_i e0
   have f0:=agg_of e0
   subst f0
   cases h
   exact T70_eq _ _ _ _ _ _
  ·cases h
 ·cases h
noncomputable def A71:List Value→Option Pg
 |[(.int .i64 i0)]=>some (T71 i0)
 |_=>none
theorem A71_ok:∀ args p,A71 args=some p→progOf PROG false 71 args=p:=by
 intro args p h
 unfold A71 at h
 split at h
 ·cases h;exact T71_eq _
 ·cases h
noncomputable def A72:List Value→Option Pg
 |[(.agg c0),(.map m6)]=>(match c0.toList with
  |[(.int .i64 i0),.string s1,(.int .i64 i2),.slice p3 n4 n5]=>some (T72 i0 s1 i2 p3 n4 n5 m6)
  |_=>none)
 |_=>none
theorem A72_ok:∀ args p,A72 args=some p→progOf PROG false 72 args=p:=by
 intro args p h
 unfold A72 at h
 split at h
 ·split at h
  ·rename_i e0
   have f0:=agg_of e0
   subst f0
   cases h
   exact T72_eq _ _ _ _ _ _ _
  ·cases h
 ·cases h
noncomputable def A73:List Value→Option Pg
 |[.string s0]=>some (T73 s0)
 |_=>none
theorem A73_ok:∀ args p,A73 args=some p→progOf PROG false 73 args=p:=by
 intro args p h
 unfold A73 at h
 split at h
 ·cases h;exact T73_eq _
 ·cases h
noncomputable def A74:List Value→Option Pg
 |[.string s0]=>some (T74 s0)
 |_=>none
theorem A74_ok:∀ args p,A74 args=some p→progOf PROG false 74 args=p:=by
 intro args p h
 unfold A74 at h
 split at h
 ·cases h;exact T74_eq _
 ·cases h
noncomputable def A75:List Value→Option Pg
 |[(.pointer p0)]=>some (T75 p0)
 |_=>none
theorem A75_ok:∀ args p,A75 args=some p→progOf PROG false 75 args=p:=by
 intro args p h
 unfold A75 at h
 split at h
 ·cases h;exact T75_eq _
 ·cases h
noncomputable def A76:List Value→Option Pg
 |[(.pointer p0)]=>some (T76 p0)
 |_=>none
theorem A76_ok:∀ args p,A76 args=some p→progOf PROG false 76 args=p:=by
 intro args p h
 unfold A76 at h
 split at h
 ·cases h;exact T76_eq _
 ·cases h
noncomputable def A77:List Value→Option Pg
 |[(.pointer p0),.string s1]=>some (T77 p0 s1)
 |_=>none
theorem A77_ok:∀ args p,A77 args=some p→progOf PROG false 77 args=p:=by
 intro args p h
 unfold A77 at h
 split at h
 ·cases h;exact T77_eq _ _
 ·cases h
noncomputable def A79:List Value→Option Pg
 |[(.pointer p0)]=>some (T79 p0)
 |_=>none
theorem A79_ok:∀ args p,A79 args=some p→progOf PROG false 79 args=p:=by
 intro args p h
 unfold A79 at h
 split at h
 ·cases h;exact T79_eq _
 ·cases h
noncomputable def A80:List Value→Option Pg
 |[(.int .i64 i0),(.int .i64 i1),.slice p2 n3 n4]=>some (T80 i0 i1 p2 n3 n4)
 |_=>none
theorem A80_ok:∀ args p,A80 args=some p→progOf PROG false 80 args=p:=by
 intro args p h
 unfold A80 at h
 split at h
 ·cases h;exact T80_eq _ _ _ _ _
 ·cases h
noncomputable def A81:List Value→Option Pg
 |[.slice p0 n1 n2]=>some (T81 p0 n1 n2)
 |_=>none
theorem A81_ok:∀ args p,A81 args=some p→progOf PROG false 81 args=p:=by
 intro args p h
 unfold A81 at h
 split at h
 ·cases h;exact T81_eq _ _ _
 ·cases h
noncomputable def A82:List Value→Option Pg
 |[(.pointer p0),.bool b1,(.int .i64 i2)]=>some (T82 p0 b1 i2)
 |_=>none
theorem A82_ok:∀ args p,A82 args=some p→progOf PROG false 82 args=p:=by
 intro args p h
 unfold A82 at h
 split at h
 ·cases h;exact T82_eq _ _ _
 ·cases h
noncomputable def A83:List Value→Option Pg
 |[(.int .i64 i0)]=>some (T83 i0)
 |_=>none
theorem A83_ok:∀ args p,A83 args=some p→progOf PROG false 83 args=p:=by
 intro args p h
 unfold A83 at h
 split at h
 ·cases h;exact T83_eq _
 ·cases h
noncomputable def A84:List Value→Option Pg
 |[.slice p0 n1 n2]=>some (T84 p0 n1 n2)
 |_=>none
theorem A84_ok:∀ args p,A84 args=some p→progOf PROG false 84 args=p:=by
 intro args p h
 unfold A84 at h
 split at h
 ·cases h;exact T84_eq _ _ _
 ·cases h
noncomputable def A86:List Value→Option Pg
 |[(.int .i64 i0),.slice p1 n2 n3]=>some (T86 i0 p1 n2 n3)
 |_=>none
theorem A86_ok:∀ args p,A86 args=some p→progOf PROG false 86 args=p:=by
 intro args p h
 unfold A86 at h
 split at h
 ·cases h;exact T86_eq _ _ _ _
 ·cases h
noncomputable def A87:List Value→Option Pg
 |[(.pointer p0),(.int .i64 i1),(.agg c0),(.pointer p11)]=>(match c0.toList with
  |[(.int .i64 i2),(.int .i64 i3),.string s4,.string s5,.slice p6 n7 n8,(.int .i64 i9),(.int .i64 i10)]=>some (T87 p0 i1 i2 i3 s4 s5 p6 n7 n8 i9 i10 p11)
  |_=>none)
 |_=>none
theorem A87_ok:∀ args p,A87 args=some p→progOf PROG false 87 args=p:=by
 intro args p h
 unfold A87 at h
 split at h
 ·split at h
  ·rename_i e0
   have f0:=agg_of e0
   subst f0
   cases h
   exact T87_eq _ _ _ _ _ _ _ _ _ _ _ _
  ·cases h
 ·cases h
noncomputable def A88:List Value→Option Pg
 |[(.pointer p0),(.int .i64 i1),(.agg c0),(.pointer p11)]=>(match c0.toList with
  |[(.int .i64 i2),(.int .i64 i3),.string s4,.string s5,.slice p6 n7 n8,(.int .i64 i9),(.int .i64 i10)]=>some (T88 p0 i1 i2 i3 s4 s5 p6 n7 n8 i9 i10 p11)
  |_=>none)
 |_=>none
theorem A88_ok:∀ args p,A88 args=some p→progOf PROG false 88 args=p:=by
 intro args p h
 unfold A88 at h
 split at h
 ·split at h
  ·rename_i e0
   have f0:=agg_of e0
   subst f0
   cases h
   exact T88_eq _ _ _ _ _ _ _ _ _ _ _ _
  ·cases h
 ·cases h
noncomputable def A89:List Value→Option Pg
 |[(.pointer p0),(.agg c0),(.pointer p10)]=>(match c0.toList with
  |[(.int .i64 i1),(.int .i64 i2),.string s3,.string s4,.slice p5 n6 n7,(.int .i64 i8),(.int .i64 i9)]=>some (T89 p0 i1 i2 s3 s4 p5 n6 n7 i8 i9 p10)
  |_=>none)
 |_=>none
theorem A89_ok:∀ args p,A89 args=some p→progOf PROG false 89 args=p:=by
 intro args p h
 unfold A89 at h
 split at h
 ·split at h
  ·rename_i e0
   have f0:=agg_of e0
   subst f0
   cases h
   exact T89_eq _ _ _ _ _ _ _ _ _ _ _
  ·cases h
 ·cases h
noncomputable def A90:List Value→Option Pg
 |[(.agg c0)]=>(match c0.toList with
  |[(.int .i64 i0),.string s1,(.int .i64 i2),.slice p3 n4 n5]=>some (T90 i0 s1 i2 p3 n4 n5)
  |_=>none)
 |_=>none
theorem A90_ok:∀ args p,A90 args=some p→progOf PROG false 90 args=p:=by
 intro args p h
 unfold A90 at h
 split at h
 ·split at h
  ·rename_i e0
   have f0:=agg_of e0
   subst f0
   cases h
   exact T90_eq _ _ _ _ _ _
  ·cases h
 ·cases h
noncomputable def A91:List Value→Option Pg
 |[(.pointer p0),(.agg c0)]=>(match c0.toList with
  |[(.int .i64 i1),.string s2,(.int .i64 i3),.slice p4 n5 n6]=>some (T91 p0 i1 s2 i3 p4 n5 n6)
  |_=>none)
 |_=>none
theorem A91_ok:∀ args p,A91 args=some p→progOf PROG false 91 args=p:=by
 intro args p h
 unfold A91 at h
 split at h
 ·split at h
  ·rename_i e0
   have f0:=agg_of e0
   subst f0
   cases h
   exact T91_eq _ _ _ _ _ _ _
  ·cases h
 ·cases h
noncomputable def A95:List Value→Option Pg
 |[(.agg c0),(.int .i64 i6)]=>(match c0.toList with
  |[.slice p0 n1 n2,.slice p3 n4 n5]=>some (T95 p0 n1 n2 p3 n4 n5 i6)
  |_=>none)
 |_=>none
theorem A95_ok:∀ args p,A95 args=some p→progOf PROG false 95 args=p:=by
 intro args p h
 unfold A95 at h
 split at h
 ·split at h
  ·rename_i e0
   have f0:=agg_of e0
   subst f0
   cases h
   exact T95_eq _ _ _ _ _ _ _
  ·cases h
 ·cases h
noncomputable def A96:List Value→Option Pg
 |[(.int .i64 i0)]=>some (T96 i0)
 |_=>none
theorem A96_ok:∀ args p,A96 args=some p→progOf PROG false 96 args=p:=by
 intro args p h
 unfold A96 at h
 split at h
 ·cases h;exact T96_eq _
 ·cases h
noncomputable def A97:List Value→Option Pg
 |[(.agg c0),(.int .i64 i6)]=>(match c0.toList with
  |[.slice p0 n1 n2,.slice p3 n4 n5]=>some (T97 p0 n1 n2 p3 n4 n5 i6)
  |_=>none)
 |_=>none
theorem A97_ok:∀ args p,A97 args=some p→progOf PROG false 97 args=p:=by
 intro args p h
 unfold A97 at h
 split at h
 ·split at h
  ·rename_i e0
   have f0:=agg_of e0
   subst f0
   cases h
   exact T97_eq _ _ _ _ _ _ _
  ·cases h
 ·cases h
noncomputable def A98:List Value→Option Pg
 |[(.agg c0),(.int .i64 i6)]=>(match c0.toList with
  |[.slice p0 n1 n2,.slice p3 n4 n5]=>some (T98 p0 n1 n2 p3 n4 n5 i6)
  |_=>none)
 |_=>none
theorem A98_ok:∀ args p,A98 args=some p→progOf PROG false 98 args=p:=by
 intro args p h
 unfold A98 at h
 split at h
 ·split at h
  ·rename_i e0
   have f0:=agg_of e0
   subst f0
   cases h
   exact T98_eq _ _ _ _ _ _ _
  ·cases h
 ·cases h
noncomputable def A99:List Value→Option Pg
 |[(.pointer p0),(.int .i64 i1)]=>some (T99 p0 i1)
 |_=>none
theorem A99_ok:∀ args p,A99 args=some p→progOf PROG false 99 args=p:=by
 intro args p h
 unfold A99 at h
 split at h
 ·cases h;exact T99_eq _ _
 ·cases h
noncomputable def A100:List Value→Option Pg
 |[(.pointer p0),(.int .i64 i1),(.int .i64 i2),(.int .i64 i3)]=>some (T100 p0 i1 i2 i3)
 |_=>none
theorem A100_ok:∀ args p,A100 args=some p→progOf PROG false 100 args=p:=by
 intro args p h
 unfold A100 at h
 split at h
 ·cases h;exact T100_eq _ _ _ _
 ·cases h
noncomputable def A101:List Value→Option Pg
 |[(.pointer p0),(.int .i64 i1)]=>some (T101 p0 i1)
 |_=>none
theorem A101_ok:∀ args p,A101 args=some p→progOf PROG false 101 args=p:=by
 intro args p h
 unfold A101 at h
 split at h
 ·cases h;exact T101_eq _ _
 ·cases h
noncomputable def A102:List Value→Option Pg
 |[.slice p0 n1 n2]=>some (T102 p0 n1 n2)
 |_=>none
theorem A102_ok:∀ args p,A102 args=some p→progOf PROG false 102 args=p:=by
 intro args p h
 unfold A102 at h
 split at h
 ·cases h;exact T102_eq _ _ _
 ·cases h
noncomputable def A103:List Value→Option Pg
 |[(.agg c0)]=>(match c0.toList with
  |[.slice p0 n1 n2,.slice p3 n4 n5]=>some (T103 p0 n1 n2 p3 n4 n5)
  |_=>none)
 |_=>none
theorem A103_ok:∀ args p,A103 args=some p→progOf PROG false 103 args=p:=by
 intro args p h
 unfold A103 at h
 split at h
 ·split at h
  ·rename_i e0
   have f0:=agg_of e0
   subst f0
   cases h
   exact T103_eq _ _ _ _ _ _
  ·cases h
 ·cases h
noncomputable def A104:List Value→Option Pg
 |[(.pointer p0),(.agg c0)]=>(match c0.toList with
  |[(.int .i64 i1),(.int .i64 i2),(.int .i64 i3),(.int .i64 i4),(.int .i64 i5),(.int .i64 i6),(.int .i64 i7)]=>some (T104 p0 i1 i2 i3 i4 i5 i6 i7)
  |_=>none)
 |_=>none
theorem A104_ok:∀ args p,A104 args=some p→progOf PROG false 104 args=p:=by
 intro args p h
 unfold A104 at h
 split at h
 ·split at h
  ·rename_i e0
   have f0:=agg_of e0
   subst f0
   cases h
   exact T104_eq _ _ _ _ _ _ _ _
  ·cases h
 ·cases h
noncomputable def A105:List Value→Option Pg
 |[.slice p0 n1 n2,v3]=>some (T105 p0 n1 n2 v3)
 |_=>none
theorem A105_ok:∀ args p,A105 args=some p→progOf PROG false 105 args=p:=by
 intro args p h
 unfold A105 at h
 split at h
 ·cases h;exact T105_eq _ _ _ _
 ·cases h
noncomputable def A106:List Value→Option Pg
 |[(.agg c0),(.agg c1)]=>(match c0.toList with
  |[(.int .i64 i0),(.int .i64 i1)]=>(match c1.toList with
  |[(.int .i64 i2),(.int .i64 i3)]=>some (T106 i0 i1 i2 i3)
  |_=>none)
  |_=>none)
 |_=>none
theorem A106_ok:∀ args p,A106 args=some p→progOf PROG false 106 args=p:=by
 intro args p h
 unfold A106 at h
 split at h
 ·split at h
  ·split at h
   ·rename_i e0 d1 x1_0 x1_1 e1
    have f0:=agg_of e0
    subst f0
    have f1:=agg_of e1
    subst f1
    cases h
    exact T106_eq _ _ _ _
   ·cases h
  ·cases h
 ·cases h
noncomputable def A107:List Value→Option Pg
 |[(.int .i64 i0),(.int .i64 i1)]=>some (T107 i0 i1)
 |_=>none
theorem A107_ok:∀ args p,A107 args=some p→progOf PROG false 107 args=p:=by
 intro args p h
 unfold A107 at h
 split at h
 ·cases h;exact T107_eq _ _
 ·cases h
noncomputable def A108:List Value→Option Pg
 |[(.agg c0),(.int .i64 i6)]=>(match c0.toList with
  |[.slice p0 n1 n2,.slice p3 n4 n5]=>some (T108 p0 n1 n2 p3 n4 n5 i6)
  |_=>none)
 |_=>none
theorem A108_ok:∀ args p,A108 args=some p→progOf PROG false 108 args=p:=by
 intro args p h
 unfold A108 at h
 split at h
 ·split at h
  ·rename_i e0
   have f0:=agg_of e0
   subst f0
   cases h
   exact T108_eq _ _ _ _ _ _ _
  ·cases h
 ·cases h
noncomputable def A109:List Value→Option Pg
 |[(.agg c0),(.int .i64 i6),.string s7]=>(match c0.toList with
  |[.slice p0 n1 n2,.slice p3 n4 n5]=>some (T109 p0 n1 n2 p3 n4 n5 i6 s7)
  |_=>none)
 |_=>none
theorem A109_ok:∀ args p,A109 args=some p→progOf PROG false 109 args=p:=by
 intro args p h
 unfold A109 at h
 split at h
 ·split at h
  ·rename_i e0
   have f0:=agg_of e0
   subst f0
   cases h
   exact T109_eq _ _ _ _ _ _ _ _
  ·cases h
 ·cases h
noncomputable def A110:List Value→Option Pg
 |[(.agg c0),(.int .i64 i40),.string s41]=>(match c0.toList with
  |[.string s0,.slice p1 n2 n3,.slice p4 n5 n6,.slice p7 n8 n9,.slice p10 n11 n12,.slice p13 n14 n15,(.int .i64 i16),.string s17,(.int .i64 i18),.slice p19 n20 n21,.slice p22 n23 n24,.slice p25 n26 n27,.slice p28 n29 n30,.slice p31 n32 n33,.slice p34 n35 n36,.slice p37 n38 n39]=>some (T110 s0 p1 n2 n3 p4 n5 n6 p7 n8 n9 p10 n11 n12 p13 n14 n15 i16 s17 i18 p19 n20 n21 p22 n23 n24 p25 n26 n27 p28 n29 n30 p31 n32 n33 p34 n35 n36 p37 n38 n39 i40 s41)
  |_=>none)
 |_=>none
theorem A110_ok:∀ args p,A110 args=some p→progOf PROG false 110 args=p:=by
 intro args p h
 unfold A110 at h
 split at h
 ·split at h
  ·rename_i e0
   have f0:=agg_of e0
   subst f0
   cases h
   exact T110_eq _ _ _ _ _ _ _ _ _ _ _ _ _ _ _ _ _ _ _ _ _ _ _ _ _ _ _ _ _ _ _ _ _ _ _ _ _ _ _ _ _ _
  ·cases h
 ·cases h
noncomputable def A111:List Value→Option Pg
 |[.slice p0 n1 n2]=>some (T111 p0 n1 n2)
 |_=>none
theorem A111_ok:∀ args p,A111 args=some p→progOf PROG false 111 args=p:=by
 intro args p h
 unfold A111 at h
 split at h
 ·cases h;exact T111_eq _ _ _
 ·cases h
noncomputable def A112:List Value→Option Pg
 |[.slice p0 n1 n2]=>some (T112 p0 n1 n2)
 |_=>none
theorem A112_ok:∀ args p,A112 args=some p→progOf PROG false 112 args=p:=by
 intro args p h
 unfold A112 at h
 split at h
 ·cases h;exact T112_eq _ _ _
 ·cases h
noncomputable def A113:List Value→Option Pg
 |[(.agg c0)]=>(match c0.toList with
  |[(.int .i64 i0),(.int .i64 i1),(.int .i64 i2)]=>some (T113 i0 i1 i2)
  |_=>none)
 |_=>none
theorem A113_ok:∀ args p,A113 args=some p→progOf PROG false 113 args=p:=by
 intro args p h
 unfold A113 at h
 split at h
 ·split at h
  ·rename_i e0
   have f0:=agg_of e0
   subst f0
   cases h
   exact T113_eq _ _ _
  ·cases h
 ·cases h
noncomputable def A114:List Value→Option Pg
 |[.slice p0 n1 n2,(.int .i64 i3)]=>some (T114 p0 n1 n2 i3)
 |_=>none
theorem A114_ok:∀ args p,A114 args=some p→progOf PROG false 114 args=p:=by
 intro args p h
 unfold A114 at h
 split at h
 ·cases h;exact T114_eq _ _ _ _
 ·cases h
noncomputable def A115:List Value→Option Pg
 |[(.pointer p0),(.agg c0)]=>(match c0.toList with
  |[(.int .i64 i1),(.int .i64 i2)]=>some (T115 p0 i1 i2)
  |_=>none)
 |_=>none
theorem A115_ok:∀ args p,A115 args=some p→progOf PROG false 115 args=p:=by
 intro args p h
 unfold A115 at h
 split at h
 ·split at h
  ·rename_i e0
   have f0:=agg_of e0
   subst f0
   cases h
   exact T115_eq _ _ _
  ·cases h
 ·cases h
noncomputable def A116:List Value→Option Pg
 |[(.pointer p0),(.int .i64 i1)]=>some (T116 p0 i1)
 |_=>none
theorem A116_ok:∀ args p,A116 args=some p→progOf PROG false 116 args=p:=by
 intro args p h
 unfold A116 at h
 split at h
 ·cases h;exact T116_eq _ _
 ·cases h
noncomputable def A118:List Value→Option Pg
 |[(.pointer p0)]=>some (T118 p0)
 |_=>none
theorem A118_ok:∀ args p,A118 args=some p→progOf PROG false 118 args=p:=by
 intro args p h
 unfold A118 at h
 split at h
 ·cases h;exact T118_eq _
 ·cases h
noncomputable def A119:List Value→Option Pg
 |[(.pointer p0),(.int .u64 i1),(.int .i64 i2)]=>some (T119 p0 i1 i2)
 |_=>none
theorem A119_ok:∀ args p,A119 args=some p→progOf PROG false 119 args=p:=by
 intro args p h
 unfold A119 at h
 split at h
 ·cases h;exact T119_eq _ _ _
 ·cases h
noncomputable def A120:List Value→Option Pg
 |[(.pointer p0),(.int .u64 i1)]=>some (T120 p0 i1)
 |_=>none
theorem A120_ok:∀ args p,A120 args=some p→progOf PROG false 120 args=p:=by
 intro args p h
 unfold A120 at h
 split at h
 ·cases h;exact T120_eq _ _
 ·cases h
noncomputable def A121:List Value→Option Pg
 |[(.pointer p0),(.int .i64 i1)]=>some (T121 p0 i1)
 |_=>none
theorem A121_ok:∀ args p,A121 args=some p→progOf PROG false 121 args=p:=by
 intro args p h
 unfold A121 at h
 split at h
 ·cases h;exact T121_eq _ _
 ·cases h
noncomputable def A122:List Value→Option Pg
 |[(.pointer p0),(.int .i64 i1)]=>some (T122 p0 i1)
 |_=>none
theorem A122_ok:∀ args p,A122 args=some p→progOf PROG false 122 args=p:=by
 intro args p h
 unfold A122 at h
 split at h
 ·cases h;exact T122_eq _ _
 ·cases h
noncomputable def A127:List Value→Option Pg
 |[(.pointer p0),(.int .i64 i1),(.int .i64 i2),.slice p3 n4 n5]=>some (T127 p0 i1 i2 p3 n4 n5)
 |_=>none
theorem A127_ok:∀ args p,A127 args=some p→progOf PROG false 127 args=p:=by
 intro args p h
 unfold A127 at h
 split at h
 ·cases h;exact T127_eq _ _ _ _ _ _
 ·cases h
noncomputable def A128:List Value→Option Pg
 |[(.pointer p0),(.int .u64 i1)]=>some (T128 p0 i1)
 |_=>none
theorem A128_ok:∀ args p,A128 args=some p→progOf PROG false 128 args=p:=by
 intro args p h
 unfold A128 at h
 split at h
 ·cases h;exact T128_eq _ _
 ·cases h
noncomputable def A129:List Value→Option Pg
 |[(.int .u64 i0)]=>some (T129 i0)
 |_=>none
theorem A129_ok:∀ args p,A129 args=some p→progOf PROG false 129 args=p:=by
 intro args p h
 unfold A129 at h
 split at h
 ·cases h;exact T129_eq _
 ·cases h
noncomputable def A130:List Value→Option Pg
 |[(.pointer p0),(.int .i64 i1),(.int .i64 i2),(.int .i64 i3)]=>some (T130 p0 i1 i2 i3)
 |_=>none
theorem A130_ok:∀ args p,A130 args=some p→progOf PROG false 130 args=p:=by
 intro args p h
 unfold A130 at h
 split at h
 ·cases h;exact T130_eq _ _ _ _
 ·cases h
noncomputable def A131:List Value→Option Pg
 |[(.pointer p0),(.int .u64 i1)]=>some (T131 p0 i1)
 |_=>none
theorem A131_ok:∀ args p,A131 args=some p→progOf PROG false 131 args=p:=by
 intro args p h
 unfold A131 at h
 split at h
 ·cases h;exact T131_eq _ _
 ·cases h
noncomputable def A132:List Value→Option Pg
 |[(.pointer p0),(.int .i64 i1),(.int .u64 i2)]=>some (T132 p0 i1 i2)
 |_=>none
theorem A132_ok:∀ args p,A132 args=some p→progOf PROG false 132 args=p:=by
 intro args p h
 unfold A132 at h
 split at h
 ·cases h;exact T132_eq _ _ _
 ·cases h
noncomputable def A135:List Value→Option Pg
 |[(.pointer p0)]=>some (T135 p0)
 |_=>none
theorem A135_ok:∀ args p,A135 args=some p→progOf PROG false 135 args=p:=by
 intro args p h
 unfold A135 at h
 split at h
 ·cases h;exact T135_eq _
 ·cases h
noncomputable def A138:List Value→Option Pg
 |[(.pointer p0)]=>some (T138 p0)
 |_=>none
theorem A138_ok:∀ args p,A138 args=some p→progOf PROG false 138 args=p:=by
 intro args p h
 unfold A138 at h
 split at h
 ·cases h;exact T138_eq _
 ·cases h
noncomputable def A140:List Value→Option Pg
 |[(.pointer p0),(.int .i64 i1)]=>some (T140 p0 i1)
 |_=>none
theorem A140_ok:∀ args p,A140 args=some p→progOf PROG false 140 args=p:=by
 intro args p h
 unfold A140 at h
 split at h
 ·cases h;exact T140_eq _ _
 ·cases h
noncomputable def A142:List Value→Option Pg
 |[(.agg c0),.slice p6 n7 n8]=>(match c0.toList with
  |[(.int .i64 i0),.string s1,(.int .i64 i2),.slice p3 n4 n5]=>some (T142 i0 s1 i2 p3 n4 n5 p6 n7 n8)
  |_=>none)
 |_=>none
theorem A142_ok:∀ args p,A142 args=some p→progOf PROG false 142 args=p:=by
 intro args p h
 unfold A142 at h
 split at h
 ·split at h
  ·rename_i e0
   have f0:=agg_of e0
   subst f0
   cases h
   exact T142_eq _ _ _ _ _ _ _ _ _
  ·cases h
 ·cases h
noncomputable def A144:List Value→Option Pg
 |[.string s0,v1]=>some (T144 s0 v1)
 |_=>none
theorem A144_ok:∀ args p,A144 args=some p→progOf PROG false 144 args=p:=by
 intro args p h
 unfold A144 at h
 split at h
 ·cases h;exact T144_eq _ _
 ·cases h
noncomputable def A145:List Value→Option Pg
 |[(.int .i32 i0)]=>some (T145 i0)
 |_=>none
theorem A145_ok:∀ args p,A145 args=some p→progOf PROG false 145 args=p:=by
 intro args p h
 unfold A145 at h
 split at h
 ·cases h;exact T145_eq _
 ·cases h
noncomputable def A146:List Value→Option Pg
 |[(.int .i32 i0)]=>some (T146 i0)
 |_=>none
theorem A146_ok:∀ args p,A146 args=some p→progOf PROG false 146 args=p:=by
 intro args p h
 unfold A146 at h
 split at h
 ·cases h;exact T146_eq _
 ·cases h
noncomputable def A147:List Value→Option Pg
 |[.string s0,.string s1]=>some (T147 s0 s1)
 |_=>none
theorem A147_ok:∀ args p,A147 args=some p→progOf PROG false 147 args=p:=by
 intro args p h
 unfold A147 at h
 split at h
 ·cases h;exact T147_eq _ _
 ·cases h
noncomputable def A149:List Value→Option Pg
 |[.string s0]=>some (T149 s0)
 |_=>none
theorem A149_ok:∀ args p,A149 args=some p→progOf PROG false 149 args=p:=by
 intro args p h
 unfold A149 at h
 split at h
 ·cases h;exact T149_eq _
 ·cases h
noncomputable def A150:List Value→Option Pg
 |[.string s0]=>some (T150 s0)
 |_=>none
theorem A150_ok:∀ args p,A150 args=some p→progOf PROG false 150 args=p:=by
 intro args p h
 unfold A150 at h
 split at h
 ·cases h;exact T150_eq _
 ·cases h
noncomputable def A153:List Value→Option Pg
 |[.string s0]=>some (T153 s0)
 |_=>none
theorem A153_ok:∀ args p,A153 args=some p→progOf PROG false 153 args=p:=by
 intro args p h
 unfold A153 at h
 split at h
 ·cases h;exact T153_eq _
 ·cases h
noncomputable def A154:List Value→Option Pg
 |[(.pointer p0)]=>some (T154 p0)
 |_=>none
theorem A154_ok:∀ args p,A154 args=some p→progOf PROG false 154 args=p:=by
 intro args p h
 unfold A154 at h
 split at h
 ·cases h;exact T154_eq _
 ·cases h
noncomputable def A155:List Value→Option Pg
 |[(.pointer p0)]=>some (T155 p0)
 |_=>none
theorem A155_ok:∀ args p,A155 args=some p→progOf PROG false 155 args=p:=by
 intro args p h
 unfold A155 at h
 split at h
 ·cases h;exact T155_eq _
 ·cases h
noncomputable def A157:List Value→Option Pg
 |[(.pointer p0)]=>some (T157 p0)
 |_=>none
theorem A157_ok:∀ args p,A157 args=some p→progOf PROG false 157 args=p:=by
 intro args p h
 unfold A157 at h
 split at h
 ·cases h;exact T157_eq _
 ·cases h
noncomputable def A158:List Value→Option Pg
 |[.string s0]=>some (T158 s0)
 |_=>none
theorem A158_ok:∀ args p,A158 args=some p→progOf PROG false 158 args=p:=by
 intro args p h
 unfold A158 at h
 split at h
 ·cases h;exact T158_eq _
 ·cases h
noncomputable def A162:List Value→Option Pg
 |[.slice p0 n1 n2,.string s3]=>some (T162 p0 n1 n2 s3)
 |_=>none
theorem A162_ok:∀ args p,A162 args=some p→progOf PROG false 162 args=p:=by
 intro args p h
 unfold A162 at h
 split at h
 ·cases h;exact T162_eq _ _ _ _
 ·cases h
noncomputable def A164:List Value→Option Pg
 |[.slice p0 n1 n2,v3]=>some (T164 p0 n1 n2 v3)
 |_=>none
theorem A164_ok:∀ args p,A164 args=some p→progOf PROG false 164 args=p:=by
 intro args p h
 unfold A164 at h
 split at h
 ·cases h;exact T164_eq _ _ _ _
 ·cases h
noncomputable def A165:List Value→Option Pg
 |[(.agg c0),(.agg c1)]=>(match c0.toList with
  |[.slice p0 n1 n2,.slice p3 n4 n5]=>(match c1.toList with
  |[(.int .i64 i6),(.int .i64 i7),.string s8,.string s9,.slice p10 n11 n12,(.int .i64 i13),(.int .i64 i14)]=>some (T165 p0 n1 n2 p3 n4 n5 i6 i7 s8 s9 p10 n11 n12 i13 i14)
  |_=>none)
  |_=>none)
 |_=>none
theorem A165_ok:∀ args p,A165 args=some p→progOf PROG false 165 args=p:=by
 intro args p h
 unfold A165 at h
 split at h
 ·split at h
  ·split at h
   ·rename_i e0 d1 x1_0 x1_1 x1_2 x1_3 x1_4 x1_5 x1_6 x1_7 x1_8 e1
    have f0:=agg_of e0
    subst f0
    have f1:=agg_of e1
    subst f1
    cases h
    exact T165_eq _ _ _ _ _ _ _ _ _ _ _ _ _ _ _
   ·cases h
  ·cases h
 ·cases h
noncomputable def A166:List Value→Option Pg
 |[(.pointer p0)]=>some (T166 p0)
 |_=>none
theorem A166_ok:∀ args p,A166 args=some p→progOf PROG false 166 args=p:=by
 intro args p h
 unfold A166 at h
 split at h
 ·cases h;exact T166_eq _
 ·cases h
noncomputable def A167:List Value→Option Pg
 |[(.pointer p0),.string s1,(.agg c0)]=>(match c0.toList with
  |[(.int .i64 i2),.string s3,(.int .i64 i4),.slice p5 n6 n7]=>some (T167 p0 s1 i2 s3 i4 p5 n6 n7)
  |_=>none)
 |_=>none
theorem A167_ok:∀ args p,A167 args=some p→progOf PROG false 167 args=p:=by
 intro args p h
 unfold A167 at h
 split at h
 ·split at h
  ·rename_i e0
   have f0:=agg_of e0
   subst f0
   cases h
   exact T167_eq _ _ _ _ _ _ _ _
  ·cases h
 ·cases h
noncomputable def A168:List Value→Option Pg
 |[(.pointer p0),(.int .i64 i1),(.agg c0),(.agg c1)]=>(match c0.toList with
  |[(.int .i64 i2),.string s3,(.int .i64 i4),.slice p5 n6 n7]=>(match c1.toList with
  |[(.int .i64 i8),.string s9,(.int .i64 i10),.slice p11 n12 n13]=>some (T168 p0 i1 i2 s3 i4 p5 n6 n7 i8 s9 i10 p11 n12 n13)
  |_=>none)
  |_=>none)
 |_=>none
theorem A168_ok:∀ args p,A168 args=some p→progOf PROG false 168 args=p:=by
 intro args p h
 unfold A168 at h
 split at h
 ·split at h
  ·split at h
   ·rename_i e0 d1 x1_0 x1_1 x1_2 x1_3 x1_4 x1_5 e1
    have f0:=agg_of e0
    subst f0
    have f1:=agg_of e1
    subst f1
    cases h
    exact T168_eq _ _ _ _ _ _ _ _ _ _ _ _ _ _
   ·cases h
  ·cases h
 ·cases h
noncomputable def A169:List Value→Option Pg
 |[(.agg c0)]=>(match c0.toList with
  |[(.int .i64 i0),.string s1,(.int .i64 i2),.slice p3 n4 n5]=>some (T169 i0 s1 i2 p3 n4 n5)
  |_=>none)
 |_=>none
theorem A169_ok:∀ args p,A169 args=some p→progOf PROG false 169 args=p:=by
 intro args p h
 unfold A169 at h
 split at h
 ·split at h
  ·rename_i e0
   have f0:=agg_of e0
   subst f0
   cases h
   exact T169_eq _ _ _ _ _ _
  ·cases h
 ·cases h
noncomputable def A171:List Value→Option Pg
 |[(.pointer p0),(.agg c0),.slice p7 n8 n9]=>(match c0.toList with
  |[(.int .i64 i1),.string s2,(.int .i64 i3),.slice p4 n5 n6]=>some (T171 p0 i1 s2 i3 p4 n5 n6 p7 n8 n9)
  |_=>none)
 |_=>none
theorem A171_ok:∀ args p,A171 args=some p→progOf PROG false 171 args=p:=by
 intro args p h
 unfold A171 at h
 split at h
 ·split at h
  ·rename_i e0
   have f0:=agg_of e0
   subst f0
   cases h
   exact T171_eq _ _ _ _ _ _ _ _ _ _
  ·cases h
 ·cases h
noncomputable def A172:List Value→Option Pg
 |[(.pointer p0)]=>some (T172 p0)
 |_=>none
theorem A172_ok:∀ args p,A172 args=some p→progOf PROG false 172 args=p:=by
 intro args p h
 unfold A172 at h
 split at h
 ·cases h;exact T172_eq _
 ·cases h
noncomputable def A173:List Value→Option Pg
 |[(.pointer p0),(.int .i64 i1),(.agg c0),(.pointer p11)]=>(match c0.toList with
  |[(.int .i64 i2),(.int .i64 i3),.string s4,.string s5,.slice p6 n7 n8,(.int .i64 i9),(.int .i64 i10)]=>some (T173 p0 i1 i2 i3 s4 s5 p6 n7 n8 i9 i10 p11)
  |_=>none)
 |_=>none
theorem A173_ok:∀ args p,A173 args=some p→progOf PROG false 173 args=p:=by
 intro args p h
 unfold A173 at h
 split at h
 ·split at h
  ·rename_i e0
   have f0:=agg_of e0
   subst f0
   cases h
   exact T173_eq _ _ _ _ _ _ _ _ _ _ _ _
  ·cases h
 ·cases h
noncomputable def A175:List Value→Option Pg
 |[(.pointer p0),(.int .i64 i1),(.pointer p2),(.agg c0)]=>(match c0.toList with
  |[(.int .i64 i3),.string s4,(.int .i64 i5),.slice p6 n7 n8]=>some (T175 p0 i1 p2 i3 s4 i5 p6 n7 n8)
  |_=>none)
 |_=>none
theorem A175_ok:∀ args p,A175 args=some p→progOf PROG false 175 args=p:=by
 intro args p h
 unfold A175 at h
 split at h
 ·split at h
  ·rename_i e0
   have f0:=agg_of e0
   subst f0
   cases h
   exact T175_eq _ _ _ _ _ _ _ _ _
  ·cases h
 ·cases h
noncomputable def A176:List Value→Option Pg
 |[(.pointer p0),.string s1]=>some (T176 p0 s1)
 |_=>none
theorem A176_ok:∀ args p,A176 args=some p→progOf PROG false 176 args=p:=by
 intro args p h
 unfold A176 at h
 split at h
 ·cases h;exact T176_eq _ _
 ·cases h
noncomputable def A177:List Value→Option Pg
 |[(.pointer p0),(.agg c0)]=>(match c0.toList with
  |[.slice p1 n2 n3,(.int .i64 i4),.string s5,(.int .i64 i6),.slice p7 n8 n9]=>some (T177 p0 p1 n2 n3 i4 s5 i6 p7 n8 n9)
  |_=>none)
 |_=>none
theorem A177_ok:∀ args p,A177 args=some p→progOf PROG false 177 args=p:=by
 intro args p h
 unfold A177 at h
 split at h
 ·split at h
  ·rename_i e0
   have f0:=agg_of e0
   subst f0
   cases h
   exact T177_eq _ _ _ _ _ _ _ _ _ _
  ·cases h
 ·cases h
noncomputable def A180:List Value→Option Pg
 |[(.agg c0)]=>(match c0.toList with
  |[(.int .i64 i0),.string s1,(.int .i64 i2),.slice p3 n4 n5]=>some (T180 i0 s1 i2 p3 n4 n5)
  |_=>none)
 |_=>none
theorem A180_ok:∀ args p,A180 args=some p→progOf PROG false 180 args=p:=by
 intro args p h
 unfold A180 at h
 split at h
 ·split at h
  ·rename_i e0
   have f0:=agg_of e0
   subst f0
   cases h
   exact T180_eq _ _ _ _ _ _
  ·cases h
 ·cases h
noncomputable def A181:List Value→Option Pg
 |[(.agg c0)]=>(match c0.toList with
  |[(.int .i64 i0),.string s1,(.int .i64 i2),.slice p3 n4 n5]=>some (T181 i0 s1 i2 p3 n4 n5)
  |_=>none)
 |_=>none
theorem A181_ok:∀ args p,A181 args=some p→progOf PROG false 181 args=p:=by
 intro args p h
 unfold A181 at h
 split at h
 ·split at h
  ·rename_i e0
   have f0:=agg_of e0
   subst f0
   cases h
   exact T181_eq _ _ _ _ _ _
  ·cases h
 ·cases h
noncomputable def A182:List Value→Option Pg
 |[(.pointer p0),(.agg c0)]=>(match c0.toList with
  |[(.int .i64 i1),.string s2,(.int .i64 i3),.slice p4 n5 n6]=>some (T182 p0 i1 s2 i3 p4 n5 n6)
  |_=>none)
 |_=>none
theorem A182_ok:∀ args p,A182 args=some p→progOf PROG false 182 args=p:=by
 intro args p h
 unfold A182 at h
 split at h
 ·split at h
  ·rename_i e0
   have f0:=agg_of e0
   subst f0
   cases h
   exact T182_eq _ _ _ _ _ _ _
  ·cases h
 ·cases h
noncomputable def A185:List Value→Option Pg
 |[(.agg c0),(.int .i64 i6),.slice p7 n8 n9]=>(match c0.toList with
  |[.slice p0 n1 n2,.slice p3 n4 n5]=>some (T185 p0 n1 n2 p3 n4 n5 i6 p7 n8 n9)
  |_=>none)
 |_=>none
theorem A185_ok:∀ args p,A185 args=some p→progOf PROG false 185 args=p:=by
 intro args p h
 unfold A185 at h
 split at h
 ·split at h
  ·rename_i e0
   have f0:=agg_of e0
   subst f0
   cases h
   exact T185_eq _ _ _ _ _ _ _ _ _ _
  ·cases h
 ·cases h
noncomputable def A186:List Value→Option Pg
 |[.slice p0 n1 n2,v3]=>some (T186 p0 n1 n2 v3)
 |_=>none
theorem A186_ok:∀ args p,A186 args=some p→progOf PROG false 186 args=p:=by
 intro args p h
 unfold A186 at h
 split at h
 ·cases h;exact T186_eq _ _ _ _
 ·cases h
noncomputable def A187 (args:List Value):Option Pg:=some (progOf PROG false 187 args)
theorem A187_ok:∀ args p,A187 args=some p→progOf PROG false 187 args=p:=fun args p h=>Option.some.inj h
noncomputable def A188:List Value→Option Pg
 |[.string s0,(.pointer (some a1))]=>some (T188 s0 a1)
 |_=>none
theorem A188_ok:∀ args p,A188 args=some p→progOf PROG false 188 args=p:=by
 intro args p h
 unfold A188 at h
 split at h
 ·cases h;exact T188_eq _ _
 ·cases h
noncomputable def A189:List Value→Option Pg
 |[(.int .i64 i0)]=>some (T189 i0)
 |_=>none
theorem A189_ok:∀ args p,A189 args=some p→progOf PROG false 189 args=p:=by
 intro args p h
 unfold A189 at h
 split at h
 ·cases h;exact T189_eq _
 ·cases h
noncomputable def A190:List Value→Option Pg
 |[(.pointer p0),(.int .i64 i1),(.agg c0)]=>(match c0.toList with
  |[(.int .i64 i2),(.int .i64 i3),.string s4,.string s5,.slice p6 n7 n8,(.int .i64 i9),(.int .i64 i10)]=>some (T190 p0 i1 i2 i3 s4 s5 p6 n7 n8 i9 i10)
  |_=>none)
 |_=>none
theorem A190_ok:∀ args p,A190 args=some p→progOf PROG false 190 args=p:=by
 intro args p h
 unfold A190 at h
 split at h
 ·split at h
  ·rename_i e0
   have f0:=agg_of e0
   subst f0
   cases h
   exact T190_eq _ _ _ _ _ _ _ _ _ _ _
  ·cases h
 ·cases h
noncomputable def A191:List Value→Option Pg
 |[(.pointer p0),(.int .i64 i1),.string s2]=>some (T191 p0 i1 s2)
 |_=>none
theorem A191_ok:∀ args p,A191 args=some p→progOf PROG false 191 args=p:=by
 intro args p h
 unfold A191 at h
 split at h
 ·cases h;exact T191_eq _ _ _
 ·cases h
noncomputable def A192:List Value→Option Pg
 |[(.pointer p0),(.int .i64 i1)]=>some (T192 p0 i1)
 |_=>none
theorem A192_ok:∀ args p,A192 args=some p→progOf PROG false 192 args=p:=by
 intro args p h
 unfold A192 at h
 split at h
 ·cases h;exact T192_eq _ _
 ·cases h
noncomputable def A193:List Value→Option Pg
 |[(.pointer p0),.slice p1 n2 n3]=>some (T193 p0 p1 n2 n3)
 |_=>none
theorem A193_ok:∀ args p,A193 args=some p→progOf PROG false 193 args=p:=by
 intro args p h
 unfold A193 at h
 split at h
 ·cases h;exact T193_eq _ _ _ _
 ·cases h
noncomputable def A195:List Value→Option Pg
 |[(.pointer p0),(.int .i64 i1),(.agg c0)]=>(match c0.toList with
  |[(.int .i64 i2),(.int .i64 i3),.string s4,.string s5,.slice p6 n7 n8,(.int .i64 i9),(.int .i64 i10)]=>some (T195 p0 i1 i2 i3 s4 s5 p6 n7 n8 i9 i10)
  |_=>none)
 |_=>none
theorem A195_ok:∀ args p,A195 args=some p→progOf PROG false 195 args=p:=by
 intro args p h
 unfold A195 at h
 split at h
 ·split at h
  ·rename_i e0
   have f0:=agg_of e0
   subst f0
   cases h
   exact T195_eq _ _ _ _ _ _ _ _ _ _ _
  ·cases h
 ·cases h
noncomputable def A196:List Value→Option Pg
 |[(.pointer p0)]=>some (T196 p0)
 |_=>none
theorem A196_ok:∀ args p,A196 args=some p→progOf PROG false 196 args=p:=by
 intro args p h
 unfold A196 at h
 split at h
 ·cases h;exact T196_eq _
 ·cases h
noncomputable def A197:List Value→Option Pg
 |[.slice p0 n1 n2,(.int .i64 i3),(.int .i64 i4),(.int .i64 i5),v6]=>some (T197 p0 n1 n2 i3 i4 i5 v6)
 |_=>none
theorem A197_ok:∀ args p,A197 args=some p→progOf PROG false 197 args=p:=by
 intro args p h
 unfold A197 at h
 split at h
 ·cases h;exact T197_eq _ _ _ _ _ _ _
 ·cases h
noncomputable def A198:List Value→Option Pg
 |[(.int .u64 i0)]=>some (T198 i0)
 |_=>none
theorem A198_ok:∀ args p,A198 args=some p→progOf PROG false 198 args=p:=by
 intro args p h
 unfold A198 at h
 split at h
 ·cases h;exact T198_eq _
 ·cases h
noncomputable def A199:List Value→Option Pg
 |[(.int .i64 i0)]=>some (T199 i0)
 |_=>none
theorem A199_ok:∀ args p,A199 args=some p→progOf PROG false 199 args=p:=by
 intro args p h
 unfold A199 at h
 split at h
 ·cases h;exact T199_eq _
 ·cases h
noncomputable def A200:List Value→Option Pg
 |[(.agg c0),(.int .i64 i6)]=>(match c0.toList with
  |[.slice p0 n1 n2,.slice p3 n4 n5]=>some (T200 p0 n1 n2 p3 n4 n5 i6)
  |_=>none)
 |_=>none
theorem A200_ok:∀ args p,A200 args=some p→progOf PROG false 200 args=p:=by
 intro args p h
 unfold A200 at h
 split at h
 ·split at h
  ·rename_i e0
   have f0:=agg_of e0
   subst f0
   cases h
   exact T200_eq _ _ _ _ _ _ _
  ·cases h
 ·cases h
noncomputable def A201:List Value→Option Pg
 |[(.agg c0),(.int .i64 i6)]=>(match c0.toList with
  |[.slice p0 n1 n2,.slice p3 n4 n5]=>some (T201 p0 n1 n2 p3 n4 n5 i6)
  |_=>none)
 |_=>none
theorem A201_ok:∀ args p,A201 args=some p→progOf PROG false 201 args=p:=by
 intro args p h
 unfold A201 at h
 split at h
 ·split at h
  ·rename_i e0
   have f0:=agg_of e0
   subst f0
   cases h
   exact T201_eq _ _ _ _ _ _ _
  ·cases h
 ·cases h
noncomputable def A202:List Value→Option Pg
 |[(.agg c0),.slice p6 n7 n8]=>(match c0.toList with
  |[.slice p0 n1 n2,.slice p3 n4 n5]=>some (T202 p0 n1 n2 p3 n4 n5 p6 n7 n8)
  |_=>none)
 |_=>none
theorem A202_ok:∀ args p,A202 args=some p→progOf PROG false 202 args=p:=by
 intro args p h
 unfold A202 at h
 split at h
 ·split at h
  ·rename_i e0
   have f0:=agg_of e0
   subst f0
   cases h
   exact T202_eq _ _ _ _ _ _ _ _ _
  ·cases h
 ·cases h
noncomputable def A203:List Value→Option Pg
 |[(.agg c0),.slice p6 n7 n8,.string s9]=>(match c0.toList with
  |[.slice p0 n1 n2,.slice p3 n4 n5]=>some (T203 p0 n1 n2 p3 n4 n5 p6 n7 n8 s9)
  |_=>none)
 |_=>none
theorem A203_ok:∀ args p,A203 args=some p→progOf PROG false 203 args=p:=by
 intro args p h
 unfold A203 at h
 split at h
 ·split at h
  ·rename_i e0
   have f0:=agg_of e0
   subst f0
   cases h
   exact T203_eq _ _ _ _ _ _ _ _ _ _
  ·cases h
 ·cases h
noncomputable def A204:List Value→Option Pg
 |[(.agg c0),(.int .i64 i6),.string s7]=>(match c0.toList with
  |[.slice p0 n1 n2,.slice p3 n4 n5]=>some (T204 p0 n1 n2 p3 n4 n5 i6 s7)
  |_=>none)
 |_=>none
theorem A204_ok:∀ args p,A204 args=some p→progOf PROG false 204 args=p:=by
 intro args p h
 unfold A204 at h
 split at h
 ·split at h
  ·rename_i e0
   have f0:=agg_of e0
   subst f0
   cases h
   exact T204_eq _ _ _ _ _ _ _ _
  ·cases h
 ·cases h
noncomputable def A205:List Value→Option Pg
 |[(.pointer p0)]=>some (T205 p0)
 |_=>none
theorem A205_ok:∀ args p,A205 args=some p→progOf PROG false 205 args=p:=by
 intro args p h
 unfold A205 at h
 split at h
 ·cases h;exact T205_eq _
 ·cases h
noncomputable def A206:List Value→Option Pg
 |[(.pointer p0)]=>some (T206 p0)
 |_=>none
theorem A206_ok:∀ args p,A206 args=some p→progOf PROG false 206 args=p:=by
 intro args p h
 unfold A206 at h
 split at h
 ·cases h;exact T206_eq _
 ·cases h
noncomputable def A207:List Value→Option Pg
 |[(.pointer p0),(.int .i64 i1)]=>some (T207 p0 i1)
 |_=>none
theorem A207_ok:∀ args p,A207 args=some p→progOf PROG false 207 args=p:=by
 intro args p h
 unfold A207 at h
 split at h
 ·cases h;exact T207_eq _ _
 ·cases h
noncomputable def A208:List Value→Option Pg
 |[(.pointer p0)]=>some (T208 p0)
 |_=>none
theorem A208_ok:∀ args p,A208 args=some p→progOf PROG false 208 args=p:=by
 intro args p h
 unfold A208 at h
 split at h
 ·cases h;exact T208_eq _
 ·cases h
noncomputable def A209:List Value→Option Pg
 |[.slice p0 n1 n2]=>some (T209 p0 n1 n2)
 |_=>none
theorem A209_ok:∀ args p,A209 args=some p→progOf PROG false 209 args=p:=by
 intro args p h
 unfold A209 at h
 split at h
 ·cases h;exact T209_eq _ _ _
 ·cases h
noncomputable def A210:List Value→Option Pg
 |[(.pointer p0),(.int .u64 i1),(.int .i64 i2)]=>some (T210 p0 i1 i2)
 |_=>none
theorem A210_ok:∀ args p,A210 args=some p→progOf PROG false 210 args=p:=by
 intro args p h
 unfold A210 at h
 split at h
 ·cases h;exact T210_eq _ _ _
 ·cases h
noncomputable def A213:List Value→Option Pg
 |[(.int .i64 i0),(.int .i64 i1),(.int .i64 i2)]=>some (T213 i0 i1 i2)
 |_=>none
theorem A213_ok:∀ args p,A213 args=some p→progOf PROG false 213 args=p:=by
 intro args p h
 unfold A213 at h
 split at h
 ·cases h;exact T213_eq _ _ _
 ·cases h
noncomputable def A214:List Value→Option Pg
 |[.slice p0 n1 n2,v3]=>some (T214 p0 n1 n2 v3)
 |_=>none
theorem A214_ok:∀ args p,A214 args=some p→progOf PROG false 214 args=p:=by
 intro args p h
 unfold A214 at h
 split at h
 ·cases h;exact T214_eq _ _ _ _
 ·cases h
noncomputable def A215:List Value→Option Pg
 |[(.int .u64 i0),(.pointer (some a1))]=>some (T215 i0 a1)
 |_=>none
theorem A215_ok:∀ args p,A215 args=some p→progOf PROG false 215 args=p:=by
 intro args p h
 unfold A215 at h
 split at h
 ·cases h;exact T215_eq _ _
 ·cases h
noncomputable def A216:List Value→Option Pg
 |[(.pointer p0),(.int .u64 i1)]=>some (T216 p0 i1)
 |_=>none
theorem A216_ok:∀ args p,A216 args=some p→progOf PROG false 216 args=p:=by
 intro args p h
 unfold A216 at h
 split at h
 ·cases h;exact T216_eq _ _
 ·cases h
noncomputable def A217:List Value→Option Pg
 |[(.pointer p0),(.int .u64 i1),.slice p2 n3 n4]=>some (T217 p0 i1 p2 n3 n4)
 |_=>none
theorem A217_ok:∀ args p,A217 args=some p→progOf PROG false 217 args=p:=by
 intro args p h
 unfold A217 at h
 split at h
 ·cases h;exact T217_eq _ _ _ _ _
 ·cases h
noncomputable def A218:List Value→Option Pg
 |[(.pointer p0),(.int .u64 i1)]=>some (T218 p0 i1)
 |_=>none
theorem A218_ok:∀ args p,A218 args=some p→progOf PROG false 218 args=p:=by
 intro args p h
 unfold A218 at h
 split at h
 ·cases h;exact T218_eq _ _
 ·cases h
noncomputable def A219:List Value→Option Pg
 |[(.int .u64 i0)]=>some (T219 i0)
 |_=>none
theorem A219_ok:∀ args p,A219 args=some p→progOf PROG false 219 args=p:=by
 intro args p h
 unfold A219 at h
 split at h
 ·cases h;exact T219_eq _
 ·cases h
noncomputable def A220:List Value→Option Pg
 |[(.pointer p0)]=>some (T220 p0)
 |_=>none
theorem A220_ok:∀ args p,A220 args=some p→progOf PROG false 220 args=p:=by
 intro args p h
 unfold A220 at h
 split at h
 ·cases h;exact T220_eq _
 ·cases h
noncomputable def A221:List Value→Option Pg
 |[(.pointer p0),(.int .i64 i1)]=>some (T221 p0 i1)
 |_=>none
theorem A221_ok:∀ args p,A221 args=some p→progOf PROG false 221 args=p:=by
 intro args p h
 unfold A221 at h
 split at h
 ·cases h;exact T221_eq _ _
 ·cases h
noncomputable def A223:List Value→Option Pg
 |[(.pointer p0)]=>some (T223 p0)
 |_=>none
theorem A223_ok:∀ args p,A223 args=some p→progOf PROG false 223 args=p:=by
 intro args p h
 unfold A223 at h
 split at h
 ·cases h;exact T223_eq _
 ·cases h
noncomputable def A226:List Value→Option Pg
 |[.string s0,.string s1]=>some (T226 s0 s1)
 |_=>none
theorem A226_ok:∀ args p,A226 args=some p→progOf PROG false 226 args=p:=by
 intro args p h
 unfold A226 at h
 split at h
 ·cases h;exact T226_eq _ _
 ·cases h
noncomputable def A228:List Value→Option Pg
 |[(.int .i32 i0)]=>some (T228 i0)
 |_=>none
theorem A228_ok:∀ args p,A228 args=some p→progOf PROG false 228 args=p:=by
 intro args p h
 unfold A228 at h
 split at h
 ·cases h;exact T228_eq _
 ·cases h
noncomputable def A229:List Value→Option Pg
 |[.string s0]=>some (T229 s0)
 |_=>none
theorem A229_ok:∀ args p,A229 args=some p→progOf PROG false 229 args=p:=by
 intro args p h
 unfold A229 at h
 split at h
 ·cases h;exact T229_eq _
 ·cases h
noncomputable def A230:List Value→Option Pg
 |[.string s0]=>some (T230 s0)
 |_=>none
theorem A230_ok:∀ args p,A230 args=some p→progOf PROG false 230 args=p:=by
 intro args p h
 unfold A230 at h
 split at h
 ·cases h;exact T230_eq _
 ·cases h
noncomputable def A231:List Value→Option Pg
 |[(.pointer p0)]=>some (T231 p0)
 |_=>none
theorem A231_ok:∀ args p,A231 args=some p→progOf PROG false 231 args=p:=by
 intro args p h
 unfold A231 at h
 split at h
 ·cases h;exact T231_eq _
 ·cases h
noncomputable def A233:List Value→Option Pg
 |[.string s0,(.int .i64 i1)]=>some (T233 s0 i1)
 |_=>none
theorem A233_ok:∀ args p,A233 args=some p→progOf PROG false 233 args=p:=by
 intro args p h
 unfold A233 at h
 split at h
 ·cases h;exact T233_eq _ _
 ·cases h
noncomputable def A234:List Value→Option Pg
 |[.slice p0 n1 n2,.string s3]=>some (T234 p0 n1 n2 s3)
 |_=>none
theorem A234_ok:∀ args p,A234 args=some p→progOf PROG false 234 args=p:=by
 intro args p h
 unfold A234 at h
 split at h
 ·cases h;exact T234_eq _ _ _ _
 ·cases h
noncomputable def A235:List Value→Option Pg
 |[.slice p0 n1 n2,v3]=>some (T235 p0 n1 n2 v3)
 |_=>none
theorem A235_ok:∀ args p,A235 args=some p→progOf PROG false 235 args=p:=by
 intro args p h
 unfold A235 at h
 split at h
 ·cases h;exact T235_eq _ _ _ _
 ·cases h
noncomputable def A236:List Value→Option Pg
 |[(.agg c0)]=>(match c0.toList with
  |[(.int .i64 i0),(.int .i64 i1),.string s2,.string s3,.slice p4 n5 n6,(.int .i64 i7),(.int .i64 i8)]=>some (T236 i0 i1 s2 s3 p4 n5 n6 i7 i8)
  |_=>none)
 |_=>none
theorem A236_ok:∀ args p,A236 args=some p→progOf PROG false 236 args=p:=by
 intro args p h
 unfold A236 at h
 split at h
 ·split at h
  ·rename_i e0
   have f0:=agg_of e0
   subst f0
   cases h
   exact T236_eq _ _ _ _ _ _ _ _ _
  ·cases h
 ·cases h
noncomputable def A237:List Value→Option Pg
 |[(.agg c0)]=>(match c0.toList with
  |[(.int .i64 i0),(.int .i64 i1),.string s2,.string s3,.slice p4 n5 n6,(.int .i64 i7),(.int .i64 i8)]=>some (T237 i0 i1 s2 s3 p4 n5 n6 i7 i8)
  |_=>none)
 |_=>none
theorem A237_ok:∀ args p,A237 args=some p→progOf PROG false 237 args=p:=by
 intro args p h
 unfold A237 at h
 split at h
 ·split at h
  ·rename_i e0
   have f0:=agg_of e0
   subst f0
   cases h
   exact T237_eq _ _ _ _ _ _ _ _ _
  ·cases h
 ·cases h
noncomputable def A238:List Value→Option Pg
 |[(.int .i64 i0)]=>some (T238 i0)
 |_=>none
theorem A238_ok:∀ args p,A238 args=some p→progOf PROG false 238 args=p:=by
 intro args p h
 unfold A238 at h
 split at h
 ·cases h;exact T238_eq _
 ·cases h
noncomputable def A241:List Value→Option Pg
 |[.slice p0 n1 n2,v3]=>some (T241 p0 n1 n2 v3)
 |_=>none
theorem A241_ok:∀ args p,A241 args=some p→progOf PROG false 241 args=p:=by
 intro args p h
 unfold A241 at h
 split at h
 ·cases h;exact T241_eq _ _ _ _
 ·cases h
noncomputable def A243:List Value→Option Pg
 |[(.agg c0)]=>(match c0.toList with
  |[.slice p0 n1 n2,(.int .i64 i3),.string s4,(.int .i64 i5),.slice p6 n7 n8]=>some (T243 p0 n1 n2 i3 s4 i5 p6 n7 n8)
  |_=>none)
 |_=>none
theorem A243_ok:∀ args p,A243 args=some p→progOf PROG false 243 args=p:=by
 intro args p h
 unfold A243 at h
 split at h
 ·split at h
  ·rename_i e0
   have f0:=agg_of e0
   subst f0
   cases h
   exact T243_eq _ _ _ _ _ _ _ _ _
  ·cases h
 ·cases h
noncomputable def A245:List Value→Option Pg
 |[.slice p0 n1 n2]=>some (T245 p0 n1 n2)
 |_=>none
theorem A245_ok:∀ args p,A245 args=some p→progOf PROG false 245 args=p:=by
 intro args p h
 unfold A245 at h
 split at h
 ·cases h;exact T245_eq _ _ _
 ·cases h
noncomputable def A247:List Value→Option Pg
 |[(.agg c0),(.map m6)]=>(match c0.toList with
  |[(.int .i64 i0),.string s1,(.int .i64 i2),.slice p3 n4 n5]=>some (T247 i0 s1 i2 p3 n4 n5 m6)
  |_=>none)
 |_=>none
theorem A247_ok:∀ args p,A247 args=some p→progOf PROG false 247 args=p:=by
 intro args p h
 unfold A247 at h
 split at h
 ·split at h
  ·rename_i e0
   have f0:=agg_of e0
   subst f0
   cases h
   exact T247_eq _ _ _ _ _ _ _
  ·cases h
 ·cases h
noncomputable def A249:List Value→Option Pg
 |[(.agg c0),(.int .i64 i6)]=>(match c0.toList with
  |[(.int .i64 i0),.string s1,(.int .i64 i2),.slice p3 n4 n5]=>some (T249 i0 s1 i2 p3 n4 n5 i6)
  |_=>none)
 |_=>none
theorem A249_ok:∀ args p,A249 args=some p→progOf PROG false 249 args=p:=by
 intro args p h
 unfold A249 at h
 split at h
 ·split at h
  ·rename_i e0
   have f0:=agg_of e0
   subst f0
   cases h
   exact T249_eq _ _ _ _ _ _ _
  ·cases h
 ·cases h
noncomputable def A250:List Value→Option Pg
 |[(.int .i64 i0)]=>some (T250 i0)
 |_=>none
theorem A250_ok:∀ args p,A250 args=some p→progOf PROG false 250 args=p:=by
 intro args p h
 unfold A250 at h
 split at h
 ·cases h;exact T250_eq _
 ·cases h
noncomputable def A256:List Value→Option Pg
 |[(.agg c0),(.int .i64 i6)]=>(match c0.toList with
  |[.slice p0 n1 n2,.slice p3 n4 n5]=>some (T256 p0 n1 n2 p3 n4 n5 i6)
  |_=>none)
 |_=>none
theorem A256_ok:∀ args p,A256 args=some p→progOf PROG false 256 args=p:=by
 intro args p h
 unfold A256 at h
 split at h
 ·split at h
  ·rename_i e0
   have f0:=agg_of e0
   subst f0
   cases h
   exact T256_eq _ _ _ _ _ _ _
  ·cases h
 ·cases h
noncomputable def A258:List Value→Option Pg
 |[(.map m0)]=>some (T258 m0)
 |_=>none
theorem A258_ok:∀ args p,A258 args=some p→progOf PROG false 258 args=p:=by
 intro args p h
 unfold A258 at h
 split at h
 ·cases h;exact T258_eq _
 ·cases h
noncomputable def A259:List Value→Option Pg
 |[(.agg c0),(.int .i64 i6)]=>(match c0.toList with
  |[.slice p0 n1 n2,.slice p3 n4 n5]=>some (T259 p0 n1 n2 p3 n4 n5 i6)
  |_=>none)
 |_=>none
theorem A259_ok:∀ args p,A259 args=some p→progOf PROG false 259 args=p:=by
 intro args p h
 unfold A259 at h
 split at h
 ·split at h
  ·rename_i e0
   have f0:=agg_of e0
   subst f0
   cases h
   exact T259_eq _ _ _ _ _ _ _
  ·cases h
 ·cases h
noncomputable def A260:List Value→Option Pg
 |[(.pointer p0),(.int .i64 i1)]=>some (T260 p0 i1)
 |_=>none
theorem A260_ok:∀ args p,A260 args=some p→progOf PROG false 260 args=p:=by
 intro args p h
 unfold A260 at h
 split at h
 ·cases h;exact T260_eq _ _
 ·cases h
noncomputable def A263:List Value→Option Pg
 |[.slice p0 n1 n2,v3]=>some (T263 p0 n1 n2 v3)
 |_=>none
theorem A263_ok:∀ args p,A263 args=some p→progOf PROG false 263 args=p:=by
 intro args p h
 unfold A263 at h
 split at h
 ·cases h;exact T263_eq _ _ _ _
 ·cases h
noncomputable def A264:List Value→Option Pg
 |[(.agg c0),(.pointer (some a7))]=>(match c0.toList with
  |[(.int .i64 i0),.string s1,.string s2,.slice p3 n4 n5,(.int .i64 i6)]=>some (T264 i0 s1 s2 p3 n4 n5 i6 a7)
  |_=>none)
 |_=>none
theorem A264_ok:∀ args p,A264 args=some p→progOf PROG false 264 args=p:=by
 intro args p h
 unfold A264 at h
 split at h
 ·split at h
  ·rename_i e0
   have f0:=agg_of e0
   subst f0
   cases h
   exact T264_eq _ _ _ _ _ _ _ _
  ·cases h
 ·cases h
noncomputable def A266:List Value→Option Pg
 |[.slice p0 n1 n2,(.int .i64 i3),(.int .i64 i4),v5]=>some (T266 p0 n1 n2 i3 i4 v5)
 |_=>none
theorem A266_ok:∀ args p,A266 args=some p→progOf PROG false 266 args=p:=by
 intro args p h
 unfold A266 at h
 split at h
 ·cases h;exact T266_eq _ _ _ _ _ _
 ·cases h
noncomputable def A275:List Value→Option Pg
 |[(.int .u64 i0)]=>some (T275 i0)
 |_=>none
theorem A275_ok:∀ args p,A275 args=some p→progOf PROG false 275 args=p:=by
 intro args p h
 unfold A275 at h
 split at h
 ·cases h;exact T275_eq _
 ·cases h
noncomputable def A276:List Value→Option Pg
 |[.slice p0 n1 n2]=>some (T276 p0 n1 n2)
 |_=>none
theorem A276_ok:∀ args p,A276 args=some p→progOf PROG false 276 args=p:=by
 intro args p h
 unfold A276 at h
 split at h
 ·cases h;exact T276_eq _ _ _
 ·cases h
noncomputable def A277:List Value→Option Pg
 |[(.agg c0),(.agg c1)]=>(match c0.toList with
  |[.slice p0 n1 n2,.slice p3 n4 n5]=>(match c1.toList with
  |[(.int .i64 i6),(.int .i64 i7)]=>some (T277 p0 n1 n2 p3 n4 n5 i6 i7)
  |_=>none)
  |_=>none)
 |_=>none
theorem A277_ok:∀ args p,A277 args=some p→progOf PROG false 277 args=p:=by
 intro args p h
 unfold A277 at h
 split at h
 ·split at h
  ·split at h
   ·rename_i e0 d1 x1_0 x1_1 e1
    have f0:=agg_of e0
    subst f0
    have f1:=agg_of e1
    subst f1
    cases h
    exact T277_eq _ _ _ _ _ _ _ _
   ·cases h
  ·cases h
 ·cases h
noncomputable def A278:List Value→Option Pg
 |[.slice p0 n1 n2,.string s3]=>some (T278 p0 n1 n2 s3)
 |_=>none
theorem A278_ok:∀ args p,A278 args=some p→progOf PROG false 278 args=p:=by
 intro args p h
 unfold A278 at h
 split at h
 ·cases h;exact T278_eq _ _ _ _
 ·cases h
noncomputable def A279:List Value→Option Pg
 |[(.agg c0),.slice p6 n7 n8]=>(match c0.toList with
  |[.slice p0 n1 n2,.slice p3 n4 n5]=>some (T279 p0 n1 n2 p3 n4 n5 p6 n7 n8)
  |_=>none)
 |_=>none
theorem A279_ok:∀ args p,A279 args=some p→progOf PROG false 279 args=p:=by
 intro args p h
 unfold A279 at h
 split at h
 ·split at h
  ·rename_i e0
   have f0:=agg_of e0
   subst f0
   cases h
   exact T279_eq _ _ _ _ _ _ _ _ _
  ·cases h
 ·cases h
noncomputable def A280:List Value→Option Pg
 |[.slice p0 n1 n2,(.agg c0)]=>(match c0.toList with
  |[(.int .i64 i3),.bool b4]=>some (T280 p0 n1 n2 i3 b4)
  |_=>none)
 |_=>none
theorem A280_ok:∀ args p,A280 args=some p→progOf PROG false 280 args=p:=by
 intro args p h
 unfold A280 at h
 split at h
 ·split at h
  ·rename_i e0
   have f0:=agg_of e0
   subst f0
   cases h
   exact T280_eq _ _ _ _ _
  ·cases h
 ·cases h
noncomputable def A281:List Value→Option Pg
 |[(.pointer p0),(.int .i64 i1)]=>some (T281 p0 i1)
 |_=>none
theorem A281_ok:∀ args p,A281 args=some p→progOf PROG false 281 args=p:=by
 intro args p h
 unfold A281 at h
 split at h
 ·cases h;exact T281_eq _ _
 ·cases h
noncomputable def A282:List Value→Option Pg
 |[.slice p0 n1 n2,v3]=>some (T282 p0 n1 n2 v3)
 |_=>none
theorem A282_ok:∀ args p,A282 args=some p→progOf PROG false 282 args=p:=by
 intro args p h
 unfold A282 at h
 split at h
 ·cases h;exact T282_eq _ _ _ _
 ·cases h
noncomputable def A283:List Value→Option Pg
 |[(.int .i64 i0)]=>some (T283 i0)
 |_=>none
theorem A283_ok:∀ args p,A283 args=some p→progOf PROG false 283 args=p:=by
 intro args p h
 unfold A283 at h
 split at h
 ·cases h;exact T283_eq _
 ·cases h
noncomputable def A284:List Value→Option Pg
 |[(.int .u64 i0)]=>some (T284 i0)
 |_=>none
theorem A284_ok:∀ args p,A284 args=some p→progOf PROG false 284 args=p:=by
 intro args p h
 unfold A284 at h
 split at h
 ·cases h;exact T284_eq _
 ·cases h
noncomputable def A288:List Value→Option Pg
 |[(.pointer p0)]=>some (T288 p0)
 |_=>none
theorem A288_ok:∀ args p,A288 args=some p→progOf PROG false 288 args=p:=by
 intro args p h
 unfold A288 at h
 split at h
 ·cases h;exact T288_eq _
 ·cases h
noncomputable def A290:List Value→Option Pg
 |[(.pointer p0),(.agg c0),(.agg c1)]=>(match c0.toList with
  |[(.int .i64 i1),.string s2,(.int .i64 i3),.slice p4 n5 n6]=>(match c1.toList with
  |[(.int .i64 i7),.string s8,(.int .i64 i9),.slice p10 n11 n12]=>some (T290 p0 i1 s2 i3 p4 n5 n6 i7 s8 i9 p10 n11 n12)
  |_=>none)
  |_=>none)
 |_=>none
theorem A290_ok:∀ args p,A290 args=some p→progOf PROG false 290 args=p:=by
 intro args p h
 unfold A290 at h
 split at h
 ·split at h
  ·split at h
   ·rename_i e0 d1 x1_0 x1_1 x1_2 x1_3 x1_4 x1_5 e1
    have f0:=agg_of e0
    subst f0
    have f1:=agg_of e1
    subst f1
    cases h
    exact T290_eq _ _ _ _ _ _ _ _ _ _ _ _ _
   ·cases h
  ·cases h
 ·cases h
noncomputable def A291:List Value→Option Pg
 |[(.pointer p0),(.agg c0)]=>(match c0.toList with
  |[(.int .i64 i1),.string s2,(.int .i64 i3),.slice p4 n5 n6]=>some (T291 p0 i1 s2 i3 p4 n5 n6)
  |_=>none)
 |_=>none
theorem A291_ok:∀ args p,A291 args=some p→progOf PROG false 291 args=p:=by
 intro args p h
 unfold A291 at h
 split at h
 ·split at h
  ·rename_i e0
   have f0:=agg_of e0
   subst f0
   cases h
   exact T291_eq _ _ _ _ _ _ _
  ·cases h
 ·cases h
noncomputable def A292:List Value→Option Pg
 |[.slice p0 n1 n2,v3]=>some (T292 p0 n1 n2 v3)
 |_=>none
theorem A292_ok:∀ args p,A292 args=some p→progOf PROG false 292 args=p:=by
 intro args p h
 unfold A292 at h
 split at h
 ·cases h;exact T292_eq _ _ _ _
 ·cases h
noncomputable def A293:List Value→Option Pg
 |[.slice p0 n1 n2,(.int .i64 i3)]=>some (T293 p0 n1 n2 i3)
 |_=>none
theorem A293_ok:∀ args p,A293 args=some p→progOf PROG false 293 args=p:=by
 intro args p h
 unfold A293 at h
 split at h
 ·cases h;exact T293_eq _ _ _ _
 ·cases h
noncomputable def A295:List Value→Option Pg
 |[.slice p0 n1 n2,(.int .i64 i3),(.int .i64 i4),(.int .i64 i5)]=>some (T295 p0 n1 n2 i3 i4 i5)
 |_=>none
theorem A295_ok:∀ args p,A295 args=some p→progOf PROG false 295 args=p:=by
 intro args p h
 unfold A295 at h
 split at h
 ·cases h;exact T295_eq _ _ _ _ _ _
 ·cases h
noncomputable def A301:List Value→Option Pg
 |[(.agg c0),(.agg c1),(.int .i64 i15)]=>(match c0.toList with
  |[.slice p0 n1 n2,.slice p3 n4 n5]=>(match c1.toList with
  |[(.int .i64 i6),(.int .i64 i7),.string s8,.string s9,.slice p10 n11 n12,(.int .i64 i13),(.int .i64 i14)]=>some (T301 p0 n1 n2 p3 n4 n5 i6 i7 s8 s9 p10 n11 n12 i13 i14 i15)
  |_=>none)
  |_=>none)
 |_=>none
theorem A301_ok:∀ args p,A301 args=some p→progOf PROG false 301 args=p:=by
 intro args p h
 unfold A301 at h
 split at h
 ·split at h
  ·split at h
   ·rename_i e0 d1 x1_0 x1_1 x1_2 x1_3 x1_4 x1_5 x1_6 x1_7 x1_8 e1
    have f0:=agg_of e0
    subst f0
    have f1:=agg_of e1
    subst f1
    cases h
    exact T301_eq _ _ _ _ _ _ _ _ _ _ _ _ _ _ _ _
   ·cases h
  ·cases h
 ·cases h
noncomputable def A310:List Value→Option Pg
 |[(.agg c0),(.agg c1)]=>(match c0.toList with
  |[.slice p0 n1 n2,.slice p3 n4 n5]=>(match c1.toList with
  |[(.int .i64 i6),(.int .i64 i7)]=>some (T310 p0 n1 n2 p3 n4 n5 i6 i7)
  |_=>none)
  |_=>none)
 |_=>none
theorem A310_ok:∀ args p,A310 args=some p→progOf PROG false 310 args=p:=by
 intro args p h
 unfold A310 at h
 split at h
 ·split at h
  ·split at h
   ·rename_i e0 d1 x1_0 x1_1 e1
    have f0:=agg_of e0
    subst f0
    have f1:=agg_of e1
    subst f1
    cases h
    exact T310_eq _ _ _ _ _ _ _ _
   ·cases h
  ·cases h
 ·cases h
noncomputable def A317:List Value→Option Pg
 |[(.pointer p0)]=>some (T317 p0)
 |_=>none
theorem A317_ok:∀ args p,A317 args=some p→progOf PROG false 317 args=p:=by
 intro args p h
 unfold A317 at h
 split at h
 ·cases h;exact T317_eq _
 ·cases h
noncomputable def A318:List Value→Option Pg
 |[(.pointer p0),(.int .i64 i1),(.agg c0)]=>(match c0.toList with
  |[(.int .i64 i2),.string s3,(.int .i64 i4),.slice p5 n6 n7]=>some (T318 p0 i1 i2 s3 i4 p5 n6 n7)
  |_=>none)
 |_=>none
theorem A318_ok:∀ args p,A318 args=some p→progOf PROG false 318 args=p:=by
 intro args p h
 unfold A318 at h
 split at h
 ·split at h
  ·rename_i e0
   have f0:=agg_of e0
   subst f0
   cases h
   exact T318_eq _ _ _ _ _ _ _ _
  ·cases h
 ·cases h
noncomputable def A319:List Value→Option Pg
 |[(.pointer p0),(.agg c0),(.int .i64 i7)]=>(match c0.toList with
  |[(.int .i64 i1),.string s2,(.int .i64 i3),.slice p4 n5 n6]=>some (T319 p0 i1 s2 i3 p4 n5 n6 i7)
  |_=>none)
 |_=>none
theorem A319_ok:∀ args p,A319 args=some p→progOf PROG false 319 args=p:=by
 intro args p h
 unfold A319 at h
 split at h
 ·split at h
  ·rename_i e0
   have f0:=agg_of e0
   subst f0
   cases h
   exact T319_eq _ _ _ _ _ _ _ _
  ·cases h
 ·cases h
noncomputable def A320:List Value→Option Pg
 |[.slice p0 n1 n2,(.int .i64 i3)]=>some (T320 p0 n1 n2 i3)
 |_=>none
theorem A320_ok:∀ args p,A320 args=some p→progOf PROG false 320 args=p:=by
 intro args p h
 unfold A320 at h
 split at h
 ·cases h;exact T320_eq _ _ _ _
 ·cases h
noncomputable def A321:List Value→Option Pg
 |[.slice p0 n1 n2,(.int .i64 i3),(.int .i64 i4)]=>some (T321 p0 n1 n2 i3 i4)
 |_=>none
theorem A321_ok:∀ args p,A321 args=some p→progOf PROG false 321 args=p:=by
 intro args p h
 unfold A321 at h
 split at h
 ·cases h;exact T321_eq _ _ _ _ _
 ·cases h
noncomputable def A327:List Value→Option Pg
 |[(.int .i64 i0),(.int .i64 i1)]=>some (T327 i0 i1)
 |_=>none
theorem A327_ok:∀ args p,A327 args=some p→progOf PROG false 327 args=p:=by
 intro args p h
 unfold A327 at h
 split at h
 ·cases h;exact T327_eq _ _
 ·cases h
noncomputable def A341:List Value→Option Pg
 |[(.pointer p0)]=>some (T341 p0)
 |_=>none
theorem A341_ok:∀ args p,A341 args=some p→progOf PROG false 341 args=p:=by
 intro args p h
 unfold A341 at h
 split at h
 ·cases h;exact T341_eq _
 ·cases h
noncomputable def A342:List Value→Option Pg
 |[(.pointer p0)]=>some (T342 p0)
 |_=>none
theorem A342_ok:∀ args p,A342 args=some p→progOf PROG false 342 args=p:=by
 intro args p h
 unfold A342 at h
 split at h
 ·cases h;exact T342_eq _
 ·cases h
noncomputable def A343:List Value→Option Pg
 |[(.pointer p0),(.int .i64 i1),(.agg c0),(.map m8)]=>(match c0.toList with
  |[(.int .i64 i2),.string s3,(.int .i64 i4),.slice p5 n6 n7]=>some (T343 p0 i1 i2 s3 i4 p5 n6 n7 m8)
  |_=>none)
 |_=>none
theorem A343_ok:∀ args p,A343 args=some p→progOf PROG false 343 args=p:=by
 intro args p h
 unfold A343 at h
 split at h
 ·split at h
  ·rename_i e0
   have f0:=agg_of e0
   subst f0
   cases h
   exact T343_eq _ _ _ _ _ _ _ _ _
  ·cases h
 ·cases h
noncomputable def A359:List Value→Option Pg
 |[(.pointer p0)]=>some (T359 p0)
 |_=>none
theorem A359_ok:∀ args p,A359 args=some p→progOf PROG false 359 args=p:=by
 intro args p h
 unfold A359 at h
 split at h
 ·cases h;exact T359_eq _
 ·cases h
noncomputable def A365:List Value→Option Pg
 |[(.pointer p0)]=>some (T365 p0)
 |_=>none
theorem A365_ok:∀ args p,A365 args=some p→progOf PROG false 365 args=p:=by
 intro args p h
 unfold A365 at h
 split at h
 ·cases h;exact T365_eq _
 ·cases h
noncomputable def A366:List Value→Option Pg
 |[(.pointer p0)]=>some (T366 p0)
 |_=>none
theorem A366_ok:∀ args p,A366 args=some p→progOf PROG false 366 args=p:=by
 intro args p h
 unfold A366 at h
 split at h
 ·cases h;exact T366_eq _
 ·cases h
noncomputable def A367:List Value→Option Pg
 |[(.pointer p0)]=>some (T367 p0)
 |_=>none
theorem A367_ok:∀ args p,A367 args=some p→progOf PROG false 367 args=p:=by
 intro args p h
 unfold A367 at h
 split at h
 ·cases h;exact T367_eq _
 ·cases h
noncomputable def A371:List Value→Option Pg
 |[(.int .i64 i0),(.agg c0)]=>(match c0.toList with
  |[(.int .i64 i1),.string s2,(.int .i64 i3),(.int .i64 i4)]=>some (T371 i0 i1 s2 i3 i4)
  |_=>none)
 |_=>none
theorem A371_ok:∀ args p,A371 args=some p→progOf PROG false 371 args=p:=by
 intro args p h
 unfold A371 at h
 split at h
 ·split at h
  ·rename_i e0
   have f0:=agg_of e0
   subst f0
   cases h
   exact T371_eq _ _ _ _ _
  ·cases h
 ·cases h
noncomputable def TAB:Tab:=(.low 142 (.low 63 (.low 31 (.low 16 (.low 9 (.low 5 (.one 3 A3 (.one 4 A4 (.one 5 A5 .nil))) (.low 7 (.one 6 A6 (.one 7 A7 .nil)) (.one 8 A8 (.one 9 A9 .nil)))) (.low 12 (.one 10 A10 (.one 11 A11 (.one 12 A12 .nil))) (.low 14 (.one 13 A13 (.one 14 A14 .nil)) (.one 15 A15 (.one 16 A16 .nil))))) (.low 23 (.low 19 (.one 17 A17 (.one 18 A18 (.one 19 A19 .nil))) (.low 21 (.one 20 A20 (.one 21 A21 .nil)) (.one 22 A22 (.one 23 A23 .nil)))) (.low 27 (.low 25 (.one 24 A24 (.one 25 A25 .nil)) (.one 26 A26 (.one 27 A27 .nil))) (.low 29 (.one 28 A28 (.one 29 A29 .nil)) (.one 30 A30 (.one 31 A31 .nil)))))) (.low 48 (.low 39 (.low 34 (.one 32 A32 (.one 33 A33 (.one 34 A34 .nil))) (.low 36 (.one 35 A35 (.one 36 A36 .nil)) (.one 37 A37 (.one 39 A39 .nil)))) (.low 43 (.one 41 A41 (.one 42 A42 (.one 43 A43 .nil))) (.low 45 (.one 44 A44 (.one 45 A45 .nil)) (.one 47 A47 (.one 48 A48 .nil))))) (.low 55 (.low 51 (.one 49 A49 (.one 50 A50 (.one 51 A51 .nil))) (.low 53 (.one 52 A52 (.one 53 A53 .nil)) (.one 54 A54 (.one 55 A55 .nil)))) (.low 59 (.low 57 (.one 56 A56 (.one 57 A57 .nil)) (.one 58 A58 (.one 59 A59 .nil))) (.low 61 (.one 60 A60 (.one 61 A61 .nil)) (.one 62 A62 (.one 63 A63 .nil))))))) (.low 101 (.low 82 (.low 74 (.low 70 (.one 65 A65 (.one 69 A69 (.one 70 A70 .nil))) (.low 72 (.one 71 A71 (.one 72 A72 .nil)) (.one 73 A73 (.one 74 A74 .nil)))) (.low 77 (.one 75 A75 (.one 76 A76 (.one 77 A77 .nil))) (.low 80 (.one 79 A79 (.one 80 A80 .nil)) (.one 81 A81 (.one 82 A82 .nil))))) (.low 90 (.low 86 (.one 83 A83 (.one 84 A84 (.one 86 A86 .nil))) (.low 88 (.one 87 A87 (.one 88 A88 .nil)) (.one 89 A89 (.one 90 A90 .nil)))) (.low 97 (.low 95 (.one 91 A91 (.one 95 A95 .nil)) (.one 96 A96 (.one 97 A97 .nil))) (.low 99 (.one 98 A98 (.one 99 A99 .nil)) (.one 100 A100 (.one 101 A101 .nil)))))) (.low 116 (.low 108 (.low 104 (.one 102 A102 (.one 103 A103 (.one 104 A104 .nil))) (.low 106 (.one 105 A105 (.one 106 A106 .nil)) (.one 107 A107 (.one 108 A108 .nil)))) (.low 112 (.low 110 (.one 109 A109 (.one 110 A110 .nil)) (.one 111 A111 (.one 112 A112 .nil))) (.low 114 (.one 113 A113 (.one 114 A114 .nil)) (.one 115 A115 (.one 116 A116 .nil))))) (.low 128 (.low 120 (.one 118 A118 (.one 119 A119 (.one 120 A120 .nil))) (.low 122 (.one 121 A121 (.one 122 A122 .nil)) (.one 127 A127 (.one 128 A128 .nil)))) (.low 132 (.low 130 (.one 129 A129 (.one 130 A130 .nil)) (.one 131 A131 (.one 132 A132 .nil))) (.low 138 (.one 135 A135 (.one 138 A138 .nil)) (.one 140 A140 (.one 142 A142 .nil)))))))) (.low 219 (.low 186 (.low 165 (.low 153 (.low 146 (.one 144 A144 (.one 145 A145 (.one 146 A146 .nil))) (.low 149 (.one 147 A147 (.one 149 A149 .nil)) (.one 150 A150 (.one 153 A153 .nil)))) (.low 157 (.one 154 A154 (.one 155 A155 (.one 157 A157 .nil))) (.low 162 (.one 158 A158 (.one 162 A162 .nil)) (.one 164 A164 (.one 165 A165 .nil))))) (.low 173 (.low 168 (.one 166 A166 (.one 167 A167 (.one 168 A168 .nil))) (.low 171 (.one 169 A169 (.one 171 A171 .nil)) (.one 172 A172 (.one 173 A173 .nil)))) (.low 180 (.low 176 (.one 175 A175 (.one 176 A176 .nil)) (.one 177 A177 (.one 180 A180 .nil))) (.low 182 (.one 181 A181 (.one 182 A182 .nil)) (.one 185 A185 (.one 186 A186 .nil)))))) (.low 202 (.low 193 (.low 189 (.one 187 A187 (.one 188 A188 (.one 189 A189 .nil))) (.low 191 (.one 190 A190 (.one 191 A191 .nil)) (.one 192 A192 (.one 193 A193 .nil)))) (.low 198 (.low 196 (.one 195 A195 (.one 196 A196 .nil)) (.one 197 A197 (.one 198 A198 .nil))) (.low 200 (.one 199 A199 (.one 200 A200 .nil)) (.one 201 A201 (.one 202 A202 .nil))))) (.low 209 (.low 205 (.one 203 A203 (.one 204 A204 (.one 205 A205 .nil))) (.low 207 (.one 206 A206 (.one 207 A207 .nil)) (.one 208 A208 (.one 209 A209 .nil)))) (.low 215 (.low 213 (.one 210 A210 (.one 213 A213 .nil)) (.one 214 A214 (.one 215 A215 .nil))) (.low 217 (.one 216 A216 (.one 217 A217 .nil)) (.one 218 A218 (.one 219 A219 .nil))))))) (.low 276 (.low 238 (.low 230 (.low 223 (.one 220 A220 (.one 221 A221 (.one 223 A223 .nil))) (.low 228 (.one 226 A226 (.one 228 A228 .nil)) (.one 229 A229 (.one 230 A230 .nil)))) (.low 234 (.one 231 A231 (.one 233 A233 (.one 234 A234 .nil))) (.low 236 (.one 235 A235 (.one 236 A236 .nil)) (.one 237 A237 (.one 238 A238 .nil))))) (.low 256 (.low 245 (.one 241 A241 (.one 243 A243 (.one 245 A245 .nil))) (.low 249 (.one 247 A247 (.one 249 A249 .nil)) (.one 250 A250 (.one 256 A256 .nil)))) (.low 263 (.low 259 (.one 258 A258 (.one 259 A259 .nil)) (.one 260 A260 (.one 263 A263 .nil))) (.low 266 (.one 264 A264 (.one 266 A266 .nil)) (.one 275 A275 (.one 276 A276 .nil)))))) (.low 301 (.low 283 (.low 279 (.one 277 A277 (.one 278 A278 (.one 279 A279 .nil))) (.low 281 (.one 280 A280 (.one 281 A281 .nil)) (.one 282 A282 (.one 283 A283 .nil)))) (.low 291 (.low 288 (.one 284 A284 (.one 288 A288 .nil)) (.one 290 A290 (.one 291 A291 .nil))) (.low 293 (.one 292 A292 (.one 293 A293 .nil)) (.one 295 A295 (.one 301 A301 .nil))))) (.low 327 (.low 318 (.one 310 A310 (.one 317 A317 (.one 318 A318 .nil))) (.low 320 (.one 319 A319 (.one 320 A320 .nil)) (.one 321 A321 (.one 327 A327 .nil)))) (.low 359 (.low 342 (.one 341 A341 (.one 342 A342 .nil)) (.one 343 A343 (.one 359 A359 .nil))) (.low 366 (.one 365 A365 (.one 366 A366 .nil)) (.one 367 A367 (.one 371 A371 .nil)))))))))
theorem TAB_ok:TabOK PROG TAB:=(.low (.low (.low (.low (.low (.low (.one A3_ok (.one A4_ok (.one A5_ok .nil))) (.low (.one A6_ok (.one A7_ok .nil)) (.one A8_ok (.one A9_ok .nil)))) (.low (.one A10_ok (.one A11_ok (.one A12_ok .nil))) (.low (.one A13_ok (.one A14_ok .nil)) (.one A15_ok (.one A16_ok .nil))))) (.low (.low (.one A17_ok (.one A18_ok (.one A19_ok .nil))) (.low (.one A20_ok (.one A21_ok .nil)) (.one A22_ok (.one A23_ok .nil)))) (.low (.low (.one A24_ok (.one A25_ok .nil)) (.one A26_ok (.one A27_ok .nil))) (.low (.one A28_ok (.one A29_ok .nil)) (.one A30_ok (.one A31_ok .nil)))))) (.low (.low (.low (.one A32_ok (.one A33_ok (.one A34_ok .nil))) (.low (.one A35_ok (.one A36_ok .nil)) (.one A37_ok (.one A39_ok .nil)))) (.low (.one A41_ok (.one A42_ok (.one A43_ok .nil))) (.low (.one A44_ok (.one A45_ok .nil)) (.one A47_ok (.one A48_ok .nil))))) (.low (.low (.one A49_ok (.one A50_ok (.one A51_ok .nil))) (.low (.one A52_ok (.one A53_ok .nil)) (.one A54_ok (.one A55_ok .nil)))) (.low (.low (.one A56_ok (.one A57_ok .nil)) (.one A58_ok (.one A59_ok .nil))) (.low (.one A60_ok (.one A61_ok .nil)) (.one A62_ok (.one A63_ok .nil))))))) (.low (.low (.low (.low (.one A65_ok (.one A69_ok (.one A70_ok .nil))) (.low (.one A71_ok (.one A72_ok .nil)) (.one A73_ok (.one A74_ok .nil)))) (.low (.one A75_ok (.one A76_ok (.one A77_ok .nil))) (.low (.one A79_ok (.one A80_ok .nil)) (.one A81_ok (.one A82_ok .nil))))) (.low (.low (.one A83_ok (.one A84_ok (.one A86_ok .nil))) (.low (.one A87_ok (.one A88_ok .nil)) (.one A89_ok (.one A90_ok .nil)))) (.low (.low (.one A91_ok (.one A95_ok .nil)) (.one A96_ok (.one A97_ok .nil))) (.low (.one A98_ok (.one A99_ok .nil)) (.one A100_ok (.one A101_ok .nil)))))) (.low (.low (.low (.one A102_ok (.one A103_ok (.one A104_ok .nil))) (.low (.one A105_ok (.one A106_ok .nil)) (.one A107_ok (.one A108_ok .nil)))) (.low (.low (.one A109_ok (.one A110_ok .nil)) (.one A111_ok (.one A112_ok .nil))) (.low (.one A113_ok (.one A114_ok .nil)) (.one A115_ok (.one A116_ok .nil))))) (.low (.low (.one A118_ok (.one A119_ok (.one A120_ok .nil))) (.low (.one A121_ok (.one A122_ok .nil)) (.one A127_ok (.one A128_ok .nil)))) (.low (.low (.one A129_ok (.one A130_ok .nil)) (.one A131_ok (.one A132_ok .nil))) (.low (.one A135_ok (.one A138_ok .nil)) (.one A140_ok (.one A142_ok .nil)))))))) (.low (.low (.low (.low (.low (.one A144_ok (.one A145_ok (.one A146_ok .nil))) (.low (.one A147_ok (.one A149_ok .nil)) (.one A150_ok (.one A153_ok .nil)))) (.low (.one A154_ok (.one A155_ok (.one A157_ok .nil))) (.low (.one A158_ok (.one A162_ok .nil)) (.one A164_ok (.one A165_ok .nil))))) (.low (.low (.one A166_ok (.one A167_ok (.one A168_ok .nil))) (.low (.one A169_ok (.one A171_ok .nil)) (.one A172_ok (.one A173_ok .nil)))) (.low (.low (.one A175_ok (.one A176_ok .nil)) (.one A177_ok (.one A180_ok .nil))) (.low (.one A181_ok (.one A182_ok .nil)) (.one A185_ok (.one A186_ok .nil)))))) (.low (.low (.low (.one A187_ok (.one A188_ok (.one A189_ok .nil))) (.low (.one A190_ok (.one A191_ok .nil)) (.one A192_ok (.one A193_ok .nil)))) (.low (.low (.one A195_ok (.one A196_ok .nil)) (.one A197_ok (.one A198_ok .nil))) (.low (.one A199_ok (.one A200_ok .nil)) (.one A201_ok (.one A202_ok .nil))))) (.low (.low (.one A203_ok (.one A204_ok (.one A205_ok .nil))) (.low (.one A206_ok (.one A207_ok .nil)) (.one A208_ok (.one A209_ok .nil)))) (.low (.low (.one A210_ok (.one A213_ok .nil)) (.one A214_ok (.one A215_ok .nil))) (.low (.one A216_ok (.one A217_ok .nil)) (.one A218_ok (.one A219_ok .nil))))))) (.low (.low (.low (.low (.one A220_ok (.one A221_ok (.one A223_ok .nil))) (.low (.one A226_ok (.one A228_ok .nil)) (.one A229_ok (.one A230_ok .nil)))) (.low (.one A231_ok (.one A233_ok (.one A234_ok .nil))) (.low (.one A235_ok (.one A236_ok .nil)) (.one A237_ok (.one A238_ok .nil))))) (.low (.low (.one A241_ok (.one A243_ok (.one A245_ok .nil))) (.low (.one A247_ok (.one A249_ok .nil)) (.one A250_ok (.one A256_ok .nil)))) (.low (.low (.one A258_ok (.one A259_ok .nil)) (.one A260_ok (.one A263_ok .nil))) (.low (.one A264_ok (.one A266_ok .nil)) (.one A275_ok (.one A276_ok .nil)))))) (.low (.low (.low (.one A277_ok (.one A278_ok (.one A279_ok .nil))) (.low (.one A280_ok (.one A281_ok .nil)) (.one A282_ok (.one A283_ok .nil)))) (.low (.low (.one A284_ok (.one A288_ok .nil)) (.one A290_ok (.one A291_ok .nil))) (.low (.one A292_ok (.one A293_ok .nil)) (.one A295_ok (.one A301_ok .nil))))) (.low (.low (.one A310_ok (.one A317_ok (.one A318_ok .nil))) (.low (.one A319_ok (.one A320_ok .nil)) (.one A321_ok (.one A327_ok .nil)))) (.low (.low (.one A341_ok (.one A342_ok .nil)) (.one A343_ok (.one A359_ok .nil))) (.low (.one A365_ok (.one A366_ok .nil)) (.one A367_ok (.one A371_ok .nil)))))))))
end Go.Pg
