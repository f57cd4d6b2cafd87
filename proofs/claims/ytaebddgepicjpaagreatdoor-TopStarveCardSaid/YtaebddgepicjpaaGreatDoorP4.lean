/- TTs -/
import Derived.Test.YtaebddgepicjpaaGreatDoorProg
import Derived.KernelRfl
import Derived.Test.YtaebddgepicjpaaGreatDoorP3
set_option maxHeartbeats 1000000
namespace Go.Pg
open Go.Proofs
set_option linter.unusedVariables false
set_option maxRecDepth 100000
noncomputable abbrev PROG:Program:=Tryz.prog
abbrev rn (l:List Value):Pg:=.ret .normal l
abbrev rr (l:List Value):Pg:=.ret .ret l
abbrev re (k:Nat) (l:List Value):Pg:=.ret (.exit k) l
abbrev nI (i:Int):Value:=.int .i64 i
abbrev cI (l:List Value) (f:Int→List Value→Pg):Pg:=asCons l fun v r=>asInt .i64 v fun i=>f i r
abbrev cS (l:List Value) (f:ByteArray→List Value→Pg):Pg:=asCons l fun v r=>asStr v fun i=>f i r
abbrev cB (l:List Value) (f:Bool→List Value→Pg):Pg:=asCons l fun v r=>asBool v fun i=>f i r
abbrev cL (l:List Value) (f:Option Addr→Nat→Nat→List Value→Pg):Pg:=asCons l fun v r=>asSlice v fun p n c=>f p n c r
abbrev lI (a:Addr) (f:Int→Pg):Pg:=.act (ld1 a) fun v=>asInt .i64 v f
abbrev lS (a:Addr) (f:ByteArray→Pg):Pg:=.act (ld1 a) fun v=>asStr v f
abbrev lB (a:Addr) (f:Bool→Pg):Pg:=.act (ld1 a) fun v=>asBool v f
abbrev lL (a:Addr) (f:Option Addr→Nat→Nat→Pg):Pg:=.act (ld1 a) fun v=>asSlice v f
abbrev lA (n:Nat) (a:Addr) (f:List Value→Pg):Pg:=.act (ldN n a) fun v=>asAgg v f
abbrev nw (l:List Value) (f:Addr→Pg):Pg:=.act (newC l) fun v=>asPtr v fun p=>asSome p f
abbrev sC (a:Addr) (l:List Value) (p:Pg):Pg:=.act (stC a l) fun v=>asTuple v fun l=>asNil l p
abbrev bL (k n:Nat) (l:List Value) (f:Option Addr→Nat→Nat→Pg):Pg:=.act (bdSl k n l) fun v=>asSlice v f
abbrev qI (g:FuncId) (l:List Value) (f:Int→Pg):Pg:=.call g l fun v=>asInt .i64 v f
abbrev qB (g:FuncId) (l:List Value) (f:Bool→Pg):Pg:=.call g l fun v=>asBool v f
abbrev qS (g:FuncId) (l:List Value) (f:ByteArray→Pg):Pg:=.call g l fun v=>asStr v f
abbrev qL (g:FuncId) (l:List Value) (f:Option Addr→Nat→Nat→Pg):Pg:=.call g l fun v=>asSlice v f
abbrev qT (g:FuncId) (l:List Value) (f:List Value→Pg):Pg:=.call g l fun v=>asTuple v f
abbrev qA (g:FuncId) (l:List Value) (f:List Value→Pg):Pg:=.call g l fun v=>asAgg v f
abbrev ix (i:Int) (n:Nat) (p:Pg):Pg:=grd (decide (0≤i)&&decide (i<((n:Nat):Int))) p
abbrev TK:=Ex→List Value→Pg
abbrev TB:=List Value→Pg
abbrev Xa (l:List Value) (f:Bool→Pg):Pg:=cB l fun x0 r0=>asNil r0 (f x0)
abbrev Xb (l:List Value) (f:Int→ByteArray→Int→Option Addr→Nat→Nat→Pg):Pg:=cI l fun x0 r0=>cS r0 fun x1 r1=>cI r1 fun x2 r2=>cL r2 fun p3 n3 c3 r3=>asNil r3 (f x0 x1 x2 p3 n3 c3)
abbrev Xd (l:List Value) (f:Int→Pg):Pg:=cI l fun x0 r0=>asNil r0 (f x0)
abbrev Xe (l:List Value) (f:Int→Int→Pg):Pg:=cI l fun x0 r0=>cI r0 fun x1 r1=>asNil r1 (f x0 x1)
abbrev Xf (l:List Value) (f:Option Addr→Nat→Nat→Option Addr→Nat→Nat→Pg):Pg:=cL l fun p0 n0 c0 r0=>cL r0 fun p1 n1 c1 r1=>asNil r1 (f p0 n0 c0 p1 n1 c1)
abbrev Xg (l:List Value) (f:Int→Bool→Pg):Pg:=cI l fun x0 r0=>cB r0 fun x1 r1=>asNil r1 (f x0 x1)
abbrev Xh (l:List Value) (f:Option Addr→Nat→Nat→Pg):Pg:=cL l fun p0 n0 c0 r0=>asNil r0 (f p0 n0 c0)
abbrev Xi (l:List Value) (f:Int→ByteArray→Int→Int→Pg):Pg:=cI l fun x0 r0=>cS r0 fun x1 r1=>cI r1 fun x2 r2=>cI r2 fun x3 r3=>asNil r3 (f x0 x1 x2 x3)
abbrev Xj (l:List Value) (f:Int→Option Addr→Nat→Nat→Pg):Pg:=cI l fun x0 r0=>cL r0 fun p1 n1 c1 r1=>asNil r1 (f x0 p1 n1 c1)
abbrev Xk (l:List Value) (f:Int→Int→ByteArray→ByteArray→Option Addr→Nat→Nat→Int→Int→Pg):Pg:=cI l fun x0 r0=>cI r0 fun x1 r1=>cS r1 fun x2 r2=>cS r2 fun x3 r3=>cL r3 fun p4 n4 c4 r4=>cI r4 fun x5 r5=>cI r5 fun x6 r6=>asNil r6 (f x0 x1 x2 x3 p4 n4 c4 x5 x6)
abbrev Xl (l:List Value) (f:Int→Int→Int→Pg):Pg:=cI l fun x0 r0=>cI r0 fun x1 r1=>cI r1 fun x2 r2=>asNil r2 (f x0 x1 x2)
abbrev Xm (l:List Value) (f:Option Addr→Nat→Nat→Int→ByteArray→Int→Option Addr→Nat→Nat→Pg):Pg:=cL l fun p0 n0 c0 r0=>cI r0 fun x1 r1=>cS r1 fun x2 r2=>cI r2 fun x3 r3=>cL r3 fun p4 n4 c4 r4=>asNil r4 (f p0 n0 c0 x1 x2 x3 p4 n4 c4)
abbrev Xn (l:List Value) (f:Option Addr→Int→Pg):Pg:=asCons l fun v0 r0=>asPtr v0 fun x0=>cI r0 fun x1 r1=>asNil r1 (f x0 x1)
abbrev Xo (l:List Value) (f:Option Addr→Pg):Pg:=asCons l fun v0 r0=>asPtr v0 fun x0=>asNil r0 (f x0)
abbrev Xq (l:List Value) (f:Int→Bool→Bool→Int→Int→Pg):Pg:=cI l fun x0 r0=>cB r0 fun x1 r1=>cB r1 fun x2 r2=>cI r2 fun x3 r3=>cI r3 fun x4 r4=>asNil r4 (f x0 x1 x2 x3 x4)
abbrev Xr (l:List Value) (f:ByteArray→Option Addr→Nat→Nat→Option Addr→Nat→Nat→Option Addr→Nat→Nat→Option Addr→Nat→Nat→Option Addr→Nat→Nat→Int→ByteArray→Int→Option Addr→Nat→Nat→Option Addr→Nat→Nat→Option Addr→Nat→Nat→Option Addr→Nat→Nat→Option Addr→Nat→Nat→Option Addr→Nat→Nat→Option Addr→Nat→Nat→Pg):Pg:=cS l fun x0 r0=>cL r0 fun p1 n1 c1 r1=>cL r1 fun p2 n2 c2 r2=>cL r2 fun p3 n3 c3 r3=>cL r3 fun p4 n4 c4 r4=>cL r4 fun p5 n5 c5 r5=>cI r5 fun x6 r6=>cS r6 fun x7 r7=>cI r7 fun x8 r8=>cL r8 fun p9 n9 c9 r9=>cL r9 fun p10 n10 c10 r10=>cL r10 fun p11 n11 c11 r11=>cL r11 fun p12 n12 c12 r12=>cL r12 fun p13 n13 c13 r13=>cL r13 fun p14 n14 c14 r14=>cL r14 fun p15 n15 c15 r15=>asNil r15 (f x0 p1 n1 c1 p2 n2 c2 p3 n3 c3 p4 n4 c4 p5 n5 c5 x6 x7 x8 p9 n9 c9 p10 n10 c10 p11 n11 c11 p12 n12 c12 p13 n13 c13 p14 n14 c14 p15 n15 c15)
abbrev Xt (l:List Value) (f:Option Addr→Nat→Nat→Option Addr→Nat→Nat→Option Addr→Nat→Nat→Int→ByteArray→Int→Option Addr→Nat→Nat→Pg):Pg:=cL l fun p0 n0 c0 r0=>cL r0 fun p1 n1 c1 r1=>cL r1 fun p2 n2 c2 r2=>cI r2 fun x3 r3=>cS r3 fun x4 r4=>cI r4 fun x5 r5=>cL r5 fun p6 n6 c6 r6=>asNil r6 (f p0 n0 c0 p1 n1 c1 p2 n2 c2 x3 x4 x5 p6 n6 c6)
abbrev Xu (l:List Value) (f:Int→Option Addr→Nat→Nat→Option Addr→Nat→Nat→Bool→Pg):Pg:=cI l fun x0 r0=>cL r0 fun p1 n1 c1 r1=>cL r1 fun p2 n2 c2 r2=>cB r2 fun x3 r3=>asNil r3 (f x0 p1 n1 c1 p2 n2 c2 x3)
abbrev Xv (l:List Value) (f:ByteArray→Option Addr→Nat→Nat→Pg):Pg:=cS l fun x0 r0=>cL r0 fun p1 n1 c1 r1=>asNil r1 (f x0 p1 n1 c1)
abbrev Xw (l:List Value) (f:Int→ByteArray→ByteArray→Option Addr→Nat→Nat→Int→Pg):Pg:=cI l fun x0 r0=>cS r0 fun x1 r1=>cS r1 fun x2 r2=>cL r2 fun p3 n3 c3 r3=>cI r3 fun x4 r4=>asNil r4 (f x0 x1 x2 p3 n3 c3 x4)
abbrev Xx (l:List Value) (f:Int→Int→Bool→Pg):Pg:=cI l fun x0 r0=>cI r0 fun x1 r1=>cB r1 fun x2 r2=>asNil r2 (f x0 x1 x2)
abbrev Xy (l:List Value) (f:Option Addr→Nat→Nat→Option Addr→Nat→Nat→Option Addr→Nat→Nat→Option Addr→Nat→Nat→Pg):Pg:=cL l fun p0 n0 c0 r0=>cL r0 fun p1 n1 c1 r1=>cL r1 fun p2 n2 c2 r2=>cL r2 fun p3 n3 c3 r3=>asNil r3 (f p0 n0 c0 p1 n1 c1 p2 n2 c2 p3 n3 c3)
abbrev Xz (l:List Value) (f:Int→Int→ByteArray→Int→Int→ByteArray→Pg):Pg:=cI l fun x0 r0=>cI r0 fun x1 r1=>cS r1 fun x2 r2=>cI r2 fun x3 r3=>cI r3 fun x4 r4=>cS r4 fun x5 r5=>asNil r5 (f x0 x1 x2 x3 x4 x5)
abbrev Ya (l:List Value) (f:Int→Option Addr→Nat→Nat→Int→Pg):Pg:=cI l fun x0 r0=>cL r0 fun p1 n1 c1 r1=>cI r1 fun x2 r2=>asNil r2 (f x0 p1 n1 c1 x2)
abbrev Yb (l:List Value) (f:Int→Int→Int→Int→Int→Int→Int→Pg):Pg:=cI l fun x0 r0=>cI r0 fun x1 r1=>cI r1 fun x2 r2=>cI r2 fun x3 r3=>cI r3 fun x4 r4=>cI r4 fun x5 r5=>cI r5 fun x6 r6=>asNil r6 (f x0 x1 x2 x3 x4 x5 x6)
abbrev Yd (l:List Value) (f:Option Addr→Nat→Nat→Bool→Pg):Pg:=cL l fun p0 n0 c0 r0=>cB r0 fun x1 r1=>asNil r1 (f p0 n0 c0 x1)
abbrev Ye (l:List Value) (f:Bool→Int→Int→Pg):Pg:=cB l fun x0 r0=>cI r0 fun x1 r1=>cI r1 fun x2 r2=>asNil r2 (f x0 x1 x2)
abbrev Yf (l:List Value) (f:Option Addr→Nat→Nat→Option Addr→Nat→Nat→Bool→Pg):Pg:=cL l fun p0 n0 c0 r0=>cL r0 fun p1 n1 c1 r1=>cB r1 fun x2 r2=>asNil r2 (f p0 n0 c0 p1 n1 c1 x2)
abbrev Yg (l:List Value) (f:Bool→Bool→Pg):Pg:=cB l fun x0 r0=>cB r0 fun x1 r1=>asNil r1 (f x0 x1)
abbrev Yh (l:List Value) (f:ByteArray→Pg):Pg:=cS l fun x0 r0=>asNil r0 (f x0)
abbrev Yi (l:List Value) (f:Int→Int→Option Addr→Nat→Nat→Pg):Pg:=cI l fun x0 r0=>cI r0 fun x1 r1=>cL r1 fun p2 n2 c2 r2=>asNil r2 (f x0 x1 p2 n2 c2)
abbrev Yj (l:List Value) (f:Option Addr→Nat→Nat→Int→Pg):Pg:=cL l fun p0 n0 c0 r0=>cI r0 fun x1 r1=>asNil r1 (f p0 n0 c0 x1)
abbrev Yk (l:List Value) (f:Int→Int→Int→Int→Pg):Pg:=cI l fun x0 r0=>cI r0 fun x1 r1=>cI r1 fun x2 r2=>cI r2 fun x3 r3=>asNil r3 (f x0 x1 x2 x3)
abbrev Yl (l:List Value) (f:ByteArray→Int→Bool→Pg):Pg:=cS l fun x0 r0=>cI r0 fun x1 r1=>cB r1 fun x2 r2=>asNil r2 (f x0 x1 x2)
abbrev Ym (l:List Value) (f:Int→Int→Int→Bool→Pg):Pg:=cI l fun x0 r0=>cI r0 fun x1 r1=>cI r1 fun x2 r2=>cB r2 fun x3 r3=>asNil r3 (f x0 x1 x2 x3)
abbrev Yn (l:List Value) (f:ByteArray→Int→Pg):Pg:=cS l fun x0 r0=>cI r0 fun x1 r1=>asNil r1 (f x0 x1)
abbrev Yo (l:List Value) (f:Option Addr→Nat→Nat→Int→Int→Pg):Pg:=cL l fun p0 n0 c0 r0=>cI r0 fun x1 r1=>cI r1 fun x2 r2=>asNil r2 (f p0 n0 c0 x1 x2)
abbrev Yq (l:List Value) (f:Int→Bool→Bool→Pg):Pg:=cI l fun x0 r0=>cB r0 fun x1 r1=>cB r1 fun x2 r2=>asNil r2 (f x0 x1 x2)
abbrev Yr (l:List Value) (f:Option Addr→Option Addr→Nat→Nat→Pg):Pg:=asCons l fun v0 r0=>asPtr v0 fun x0=>cL r0 fun p1 n1 c1 r1=>asNil r1 (f x0 p1 n1 c1)
abbrev Ys (l:List Value) (f:Option Addr→Bool→Pg):Pg:=asCons l fun v0 r0=>asPtr v0 fun x0=>cB r0 fun x1 r1=>asNil r1 (f x0 x1)
abbrev Yt (l:List Value) (f:Bool→Int→Pg):Pg:=cB l fun x0 r0=>cI r0 fun x1 r1=>asNil r1 (f x0 x1)
abbrev Yu (l:List Value) (f:Int→Option Addr→Pg):Pg:=cI l fun x0 r0=>asCons r0 fun v1 r1=>asPtr v1 fun x1=>asNil r1 (f x0 x1)
abbrev Yv (a:Addr) (f:ByteArray→Option Addr→Nat→Nat→Option Addr→Nat→Nat→Option Addr→Nat→Nat→Option Addr→Nat→Nat→Option Addr→Nat→Nat→Int→ByteArray→Int→Option Addr→Nat→Nat→Option Addr→Nat→Nat→Option Addr→Nat→Nat→Option Addr→Nat→Nat→Option Addr→Nat→Nat→Option Addr→Nat→Nat→Option Addr→Nat→Nat→Pg):Pg:=lA 16 a fun l=>Xr l f
abbrev Yw (a:Addr) (f:Option Addr→Nat→Nat→Option Addr→Nat→Nat→Pg):Pg:=lA 2 a fun l=>Xf l f
abbrev Yx (a:Addr) (f:Int→Int→Pg):Pg:=lA 2 a fun l=>Xe l f
abbrev Yy (a:Addr) (f:Int→Int→Int→Pg):Pg:=lA 3 a fun l=>Xl l f
abbrev Yz (a:Addr) (f:Int→ByteArray→Int→Option Addr→Nat→Nat→Pg):Pg:=lA 4 a fun l=>Xb l f
abbrev Za (a:Addr) (f:Int→Int→ByteArray→ByteArray→Option Addr→Nat→Nat→Int→Int→Pg):Pg:=lA 7 a fun l=>Xk l f
abbrev Zb (a:Addr) (f:Int→Int→ByteArray→Int→Int→ByteArray→Pg):Pg:=lA 6 a fun l=>Xz l f
abbrev Zc (a:Addr) (f:Int→ByteArray→ByteArray→Option Addr→Nat→Nat→Int→Pg):Pg:=lA 5 a fun l=>Xw l f
abbrev Zd (a:Addr) (f:Int→Int→Int→Int→Int→Int→Int→Pg):Pg:=lA 7 a fun l=>Yb l f
abbrev Ze (a:Addr) (f:ByteArray→Option Addr→Nat→Nat→Pg):Pg:=lA 2 a fun l=>Xv l f
abbrev Zf (a:Addr) (f:Option Addr→Nat→Nat→Int→ByteArray→Int→Option Addr→Nat→Nat→Pg):Pg:=lA 5 a fun l=>Xm l f
abbrev Zg (a:Addr) (f:Int→Bool→Pg):Pg:=lA 2 a fun l=>Xg l f
abbrev Zh:List Value:=[(.string (bs [])),.slice none 0 0,.slice none 0 0,.slice none 0 0,.slice none 0 0,.slice none 0 0,nI 0,(.string (bs [])),nI 0,.slice none 0 0,.slice none 0 0,.slice none 0 0,.slice none 0 0,.slice none 0 0,.slice none 0 0,.slice none 0 0]
abbrev Zi:List Value:=[nI 0,.bool false]
abbrev Zj:List Value:=[.slice none 0 0,.slice none 0 0,.slice none 0 0,.slice none 0 0]
abbrev Zk:List Value:=[.slice none 0 0,.slice none 0 0]
abbrev Zl:List Value:=[.slice none 0 0,.slice none 0 0,.slice none 0 0,nI 0,(.string (bs [])),nI 0,.slice none 0 0]
abbrev Zm:List Value:=[nI 0,nI 0]
abbrev Zn:Value:=.agg #[.pointer none,nI 1]
abbrev Zo:List Value:=[nI 0,nI 0,nI 0]
abbrev Zp:List Value:=[nI 0,(.string (bs [])),nI 0,.slice none 0 0]
abbrev Zq:List Value:=[nI 0,nI 0,(.string (bs [])),(.string (bs [])),.slice none 0 0,nI 0,nI 0]
abbrev Zr:List Value:=[nI 0,nI 0,(.string (bs [])),nI 0,nI 0,(.string (bs []))]
abbrev Zs:List Value:=[nI 0,.slice none 0 0]
abbrev Zt:List Value:=[nI 0,(.string (bs [])),nI 0,nI 0]
abbrev Zu:List Value:=[nI 3,.slice none 0 0]
abbrev Zv:List Value:=[nI 0,(.string (bs [])),(.string (bs [])),.slice none 0 0,nI 0]
abbrev Zw:List Value:=[(.string (bs [])),.slice none 0 0]
abbrev Zx:List Value:=[nI 1,.slice none 0 0]
abbrev Zy:List Value:=[.slice none 0 0,nI 0,(.string (bs [])),nI 0,.slice none 0 0]
abbrev Zz:Value:=.agg #[nI 0,(.string (bs [])),nI 0,.slice none 0 0]
abbrev Wa (p0:Option Addr) (n0 c0:Nat) (p1:Option Addr) (n1 c1:Nat):List Value:=[.slice p0 n0 c0,.slice p1 n1 c1]
abbrev Wb (x0:ByteArray) (p1:Option Addr) (n1 c1:Nat) (p2:Option Addr) (n2 c2:Nat) (p3:Option Addr) (n3 c3:Nat) (p4:Option Addr) (n4 c4:Nat) (p5:Option Addr) (n5 c5:Nat) (x6:Int) (x7:ByteArray) (x8:Int) (p9:Option Addr) (n9 c9:Nat) (p10:Option Addr) (n10 c10:Nat) (p11:Option Addr) (n11 c11:Nat) (p12:Option Addr) (n12 c12:Nat) (p13:Option Addr) (n13 c13:Nat) (p14:Option Addr) (n14 c14:Nat) (p15:Option Addr) (n15 c15:Nat):List Value:=[.string x0,.slice p1 n1 c1,.slice p2 n2 c2,.slice p3 n3 c3,.slice p4 n4 c4,.slice p5 n5 c5,nI x6,.string x7,nI x8,.slice p9 n9 c9,.slice p10 n10 c10,.slice p11 n11 c11,.slice p12 n12 c12,.slice p13 n13 c13,.slice p14 n14 c14,.slice p15 n15 c15]
abbrev Wc (x0:ByteArray) (p1:Option Addr) (n1 c1:Nat) (p2:Option Addr) (n2 c2:Nat) (p3:Option Addr) (n3 c3:Nat) (p4:Option Addr) (n4 c4:Nat) (p5:Option Addr) (n5 c5:Nat) (x6:Int) (x7:ByteArray) (x8:Int) (p9:Option Addr) (n9 c9:Nat) (p10:Option Addr) (n10 c10:Nat) (p11:Option Addr) (n11 c11:Nat) (p12:Option Addr) (n12 c12:Nat) (p13:Option Addr) (n13 c13:Nat) (p14:Option Addr) (n14 c14:Nat) (p15:Option Addr) (n15 c15:Nat):Value:=.agg #[.string x0,.slice p1 n1 c1,.slice p2 n2 c2,.slice p3 n3 c3,.slice p4 n4 c4,.slice p5 n5 c5,nI x6,.string x7,nI x8,.slice p9 n9 c9,.slice p10 n10 c10,.slice p11 n11 c11,.slice p12 n12 c12,.slice p13 n13 c13,.slice p14 n14 c14,.slice p15 n15 c15]
abbrev Wd (x0:Int) (x1:Bool):List Value:=[nI x0,.bool x1]
abbrev We (p0:Option Addr) (n0 c0:Nat) (p1:Option Addr) (n1 c1:Nat):Value:=.agg #[.slice p0 n0 c0,.slice p1 n1 c1]
abbrev Wf (p0:Option Addr) (n0 c0:Nat) (p1:Option Addr) (n1 c1:Nat) (p2:Option Addr) (n2 c2:Nat) (p3:Option Addr) (n3 c3:Nat):List Value:=[.slice p0 n0 c0,.slice p1 n1 c1,.slice p2 n2 c2,.slice p3 n3 c3]
abbrev Wg (p0:Option Addr) (n0 c0:Nat) (p1:Option Addr) (n1 c1:Nat) (p2:Option Addr) (n2 c2:Nat) (x3:Int) (x4:ByteArray) (x5:Int) (p6:Option Addr) (n6 c6:Nat):List Value:=[.slice p0 n0 c0,.slice p1 n1 c1,.slice p2 n2 c2,nI x3,.string x4,nI x5,.slice p6 n6 c6]
abbrev Wh (x0:Int) (x1:Int):List Value:=[nI x0,nI x1]
abbrev Wi (x0:Option Addr) (x1:Int):Value:=.agg #[.pointer x0,nI x1]
abbrev Wj (x0:Int) (x1:Int) (x2:Int):Value:=.agg #[nI x0,nI x1,nI x2]
abbrev Wk (x0:Int) (x1:Int) (x2:Int):List Value:=[nI x0,nI x1,nI x2]
abbrev Wl (x0:Int) (x1:ByteArray) (x2:Int) (p3:Option Addr) (n3 c3:Nat):Value:=.agg #[nI x0,.string x1,nI x2,.slice p3 n3 c3]
abbrev Wm (x0:Option Addr) (x1:Int) (x2:ByteArray):List Value:=[.pointer x0,nI x1,.string x2]
abbrev Wn (x0:ByteArray) (p1:Option Addr) (n1 c1:Nat):List Value:=[.string x0,.slice p1 n1 c1]
abbrev Wo (x0:Int) (x1:ByteArray) (x2:Int) (p3:Option Addr) (n3 c3:Nat):List Value:=[nI x0,.string x1,nI x2,.slice p3 n3 c3]
abbrev Wq (x0:Option Addr) (x1:Int) (x2:Option Addr):List Value:=[.pointer x0,nI x1,.pointer x2]
abbrev Ws (x0:Int) (x1:Int) (x2:ByteArray) (x3:ByteArray) (p4:Option Addr) (n4 c4:Nat) (x5:Int) (x6:Int):List Value:=[nI x0,nI x1,.string x2,.string x3,.slice p4 n4 c4,nI x5,nI x6]
abbrev Wt (x0:Int) (x1:Int):Value:=.agg #[nI x0,nI x1]
abbrev Wu (x0:Option Addr) (x1:Int):List Value:=[.pointer x0,nI x1]
abbrev Wv (x0:Int) (p1:Option Addr) (n1 c1:Nat):List Value:=[nI x0,.slice p1 n1 c1]
abbrev Ww (x0:Int) (x1:Int) (x2:ByteArray) (x3:Int) (x4:Int) (x5:ByteArray):List Value:=[nI x0,nI x1,.string x2,nI x3,nI x4,.string x5]
abbrev Wy (p0:Option Addr) (n0 c0:Nat) (x1:Int) (x2:Int):List Value:=[.slice p0 n0 c0,nI x1,nI x2]
abbrev Wz (x0:Int) (x1:Int) (p2:Option Addr) (n2 c2:Nat):List Value:=[nI x0,nI x1,.slice p2 n2 c2]
abbrev Va (x0:Int) (p1:Option Addr) (n1 c1:Nat) (x2:Int):List Value:=[nI x0,.slice p1 n1 c1,nI x2]
abbrev Vb (x0:Int) (x1:ByteArray) (x2:Int) (x3:Int):List Value:=[nI x0,.string x1,nI x2,nI x3]
abbrev Vc (x0:Int) (x1:Int) (x2:ByteArray) (x3:ByteArray) (p4:Option Addr) (n4 c4:Nat) (x5:Int) (x6:Int):Value:=.agg #[nI x0,nI x1,.string x2,.string x3,.slice p4 n4 c4,nI x5,nI x6]
abbrev Vd (x0:Int) (x1:ByteArray) (x2:ByteArray) (p3:Option Addr) (n3 c3:Nat) (x4:Int):List Value:=[nI x0,.string x1,.string x2,.slice p3 n3 c3,nI x4]
abbrev Ve (x0:Option Addr) (x1:Int) (x2:Int) (x3:Int):List Value:=[.pointer x0,nI x1,nI x2,nI x3]
abbrev Vf (x0:Int) (x1:Int) (x2:Int) (x3:Int) (x4:Int) (x5:Int) (x6:Int):List Value:=[nI x0,nI x1,nI x2,nI x3,nI x4,nI x5,nI x6]
abbrev Vg (x0:Int) (p1:Option Addr) (n1 c1:Nat) (p2:Option Addr) (n2 c2:Nat) (x3:Bool):List Value:=[nI x0,.slice p1 n1 c1,.slice p2 n2 c2,.bool x3]
abbrev Vh (p0:Option Addr) (n0 c0:Nat) (x1:Int) (x2:ByteArray) (x3:Int) (p4:Option Addr) (n4 c4:Nat):List Value:=[.slice p0 n0 c0,nI x1,.string x2,nI x3,.slice p4 n4 c4]
abbrev Vi (x0:ByteArray) (x1:Int) (x2:Bool):List Value:=[.string x0,nI x1,.bool x2]
abbrev Vj (x0:Int) (x1:Bool) (x2:Bool) (x3:Int) (x4:Int):List Value:=[nI x0,.bool x1,.bool x2,nI x3,nI x4]
abbrev iB (c:Bool) (p q:Pg):Pg:=bif c then p else q
abbrev Vk:TK:=
 fun a b=>sw a .normal (Xa b fun a=>rn [.bool a]) (.fail)
abbrev Vl:TK:=
 fun a b=>sw a .normal (asNil b (rn [])) (.fail)
abbrev Vm (A:Int):TK:=
 fun a b=>sw a .normal (asNil b (rn [(nI (wi64 (A+1)))])) (.fail)
abbrev Vn:TK:=
 fun a b=>sw a .normal (Xa b fun a=>rr [.bool a]) (.fail)
abbrev Vo (A:Int):TK:=
 fun a b=>sw a .normal (Xh b fun a b c=>rn (Wv (wi64 (A+1)) a b c)) (.fail)
abbrev Vp (A:Int):TK:=
 fun a b=>sw a .ret (Xd b fun a=>rr (Wh A a)) (sw a .normal (Xd b fun a=>rn (Wh (wi64 (A+1)) a)) (.fail))
abbrev Vq:TK:=
 fun a b=>sw a (.exit 0) (Xe b fun _ _=>rr [(nI (-1))]) (sw a .ret (Xe b fun _ a=>rr [nI a]) (.fail))
abbrev Vr (A:Int):TK:=
 fun a b=>sw a .ret (Xa b fun a=>rr (Wd A a)) (sw a .normal (Xa b fun a=>rn (Wd (wi64 (A+1)) a)) (.fail))
abbrev Vs:TK:=
 fun a b=>sw a (.exit 0) (Xj b fun _ a b c=>rr [.slice a b c]) (.fail)
abbrev Vt:TK:=
 fun a b=>sw a (.exit 0) (Xg b fun _ _=>rr [.bool true]) (sw a .ret (Xg b fun _ a=>rr [.bool a]) (.fail))
abbrev Vu:TK:=
 fun a b=>sw a (.exit 2) (Xd b fun _=>rn []) (.fail)
abbrev Vv:TK:=
 fun a b=>sw a .normal (cI b fun a b=>cI b fun b c=>asCons c fun c d=>asInt .u64 c fun c=>asNil d (rn [nI a,nI b,.int .u64 c])) (sw a .ret (cI b fun a b=>cI b fun b c=>asCons c fun c d=>asInt .u64 c fun c=>asNil d (rr [nI a,nI b,.int .u64 c])) (.fail))
abbrev Vw:TK:=
 fun a b=>sw a .normal (asNil b (rr [(.tuple #[])])) (.fail)
abbrev Vx (A:Option Nat):TK:=
 fun a b=>sw a (.exit 0) (Xd b fun _=>rr [.map A]) (.fail)
abbrev Vy (A:Bool):TK:=
 fun a b=>sw a .normal (Xa b fun a=>iB a (rr [.bool false]) (rn [.bool A])) (.fail)
abbrev Vz:TK:=
 fun a b=>sw a .ret (Xd b fun a=>rr [nI a]) (sw a .normal (Xd b fun _=>rr [nI 0]) (.fail))
abbrev Ua:TK:=
 fun a b=>sw a .normal (Xa b fun a=>iB a (rr [.bool true]) (rn [.bool false])) (.fail)
abbrev Ub:TK:=
 fun a b=>sw a .ret (Xa b fun a=>rr [.bool a]) (sw a .normal (Xa b fun _=>rr [.bool false]) (.fail))
abbrev Uc:TK:=
 fun a b=>sw a (.exit 0) (Xd b fun _=>rr [(.tuple #[])]) (.fail)
abbrev Ud:TK:=
 fun a b=>sw a .normal (Xo b fun a=>rn [.pointer a]) (.fail)
abbrev Ue:TK:=
 fun a b=>sw a (.exit 0) (Xo b fun a=>rr [.pointer a]) (.fail)
abbrev Uf:TK:=
 fun a b=>sw a .ret (Xh b fun a b c=>rr [.slice a b c]) (sw a .normal (Xh b fun a b c=>rn [.slice a b c]) (.fail))
abbrev Ug:TK:=
 fun a b=>sw a .normal (Xn b fun a b=>rn (Wu a b)) (sw a .ret (Xn b fun a b=>rr (Wu a b)) (.fail))
abbrev Uh:TK:=
 fun a b=>sw a .normal (asNil b (rr [nI 0])) (.fail)
abbrev Ui (A:Int):TK:=
 fun a b=>sw a .ret (Xe b fun a b=>rr (Wk A a b)) (sw a .normal (Xe b fun a b=>rn (Wk (wi64 (A+1)) a b)) (.fail))
abbrev Uj:TK:=
 fun a b=>sw a .normal (Xh b fun a b c=>rn [.slice a b c]) (.fail)
abbrev Uk:TK:=
 fun a b=>sw a .normal (Xh b fun a b c=>rr [.slice a b c]) (.fail)
abbrev Ul:TK:=
 fun a b=>sw a .normal (Xd b fun a=>rn [nI a]) (sw a .ret (Xd b fun a=>rr [nI a]) (.fail))
abbrev Um:TK:=
 fun a b=>sw a .ret (asNil b (rr [])) (sw a .normal (asNil b (rn [])) (.fail))
abbrev Un (A:Int):TK:=
 fun a b=>sw a .ret (Yf b fun a b c d f g h=>rr (Vg A a b c d f g h)) (sw a .normal (Yf b fun a b c d f g h=>rn (Vg (wi64 (A+1)) a b c d f g h)) (.fail))
abbrev Uo:TK:=
 fun a b=>sw a (.exit 0) (Xg b fun _ _=>rr [.bool false]) (sw a .ret (Xg b fun _ a=>rr [.bool a]) (.fail))
abbrev Up:TK:=
 fun a b=>sw a .normal (asNil b (rn [])) (sw a .ret (asNil b (rr [])) (.fail))
abbrev Uq (A B:Addr):TK:=
 fun a b=>sw a (.exit 0) (Xd b fun _=>Yz A fun a b c d f g=>sC B (Wo a b c d f g) (.act (ldN 4 B) fun a=>rr [a])) (.fail)
abbrev Ur:TK:=
 fun a b=>sw a .normal (cI b fun a b=>asCons b fun b c=>asInt .u64 b fun b=>cI c fun c d=>asCons d fun d f=>asInt .u64 d fun d=>asNil f (rn [nI a,.int .u64 b,nI c,.int .u64 d])) (sw a .ret (cI b fun a b=>asCons b fun b c=>asInt .u64 b fun b=>cI c fun c d=>asCons d fun d f=>asInt .u64 d fun d=>asNil f (rr [nI a,.int .u64 b,nI c,.int .u64 d])) (.fail))
abbrev Us:TK:=
 fun a b=>sw a .normal (Xf b fun a b c d f g=>rn (Wa a b c d f g)) (sw a .ret (Xf b fun a b c d f g=>rr (Wa a b c d f g)) (.fail))
abbrev Ut:TK:=
 fun a b=>sw a .normal (Xd b fun a=>rn [nI a]) (.fail)
abbrev Uu (A:Bool) (B:Int):TK:=
 fun a b=>sw a .normal (Xx b fun a b c=>rn (Vj a c A b B)) (.fail)
abbrev Uv:TK:=
 fun a b=>sw a .ret (Xq b fun a b c d f=>rr (Vj a b c d f)) (sw a .normal (Xq b fun a b c d f=>rn (Vj a b c d f)) (.fail))
abbrev Uw:TK:=
 fun a b=>sw a .ret (Xq b fun _ _ _ _ _=>rr [(.tuple #[])]) (.fail)
abbrev Ux:TK:=
 fun a b=>sw a .normal (Yg b fun a b=>rn [.bool a,.bool b]) (.fail)
abbrev Uy (A:Int):TK:=
 fun a b=>sw a (.exit 0) (Xd b fun a=>re 0 (Wh A a)) (sw a .normal (Xd b fun a=>rn (Wh (wi64 (A+1)) a)) (.fail))
abbrev Uz:TK:=
 fun a b=>sw a (.exit 0) (Xe b fun _ a=>rr [(nI (minV a 501))]) (.fail)
abbrev Ka (A:Int):TK:=
 fun a b=>sw a .normal (asNil b (rn [(nI (wi64 (A - 1)))])) (.fail)
abbrev Kb:TK:=
 fun a b=>sw a .ret (Xh b fun a b c=>rr [.slice a b c]) (sw a .normal (Xh b fun _ _ _=>rr [.slice none 0 0]) (.fail))
abbrev Kc:TK:=
 fun a b=>sw a .ret (Xa b fun a=>rr [.bool a]) (sw a .normal (Xa b fun a=>rn [.bool a]) (.fail))
noncomputable def T3k0 (A:Int):TK:=
 Vm A
noncomputable def T3k1 (A:Int):TK:=
 fun a b=>sw a .normal (Xa b fun a=>iB a (.join (rn []) (T3k0 A)) (re 0 [nI A])) (.fail)
noncomputable def T3b0 (A:Option Addr):TB:=
 fun a=>Xd a fun a=>.join (iB ((decide (a<2000000))==true) (qI 8 [.pointer A] fun a=>rn [(.bool (a==0))]) (rn [.bool false])) (T3k1 a)
noncomputable def T3k2:TK:=
 Vn
noncomputable def T3k3 (A B:Option Addr) (C D:Nat):TK:=
 fun a b=>sw a (.exit 0) (Xd b fun _=>.join (qI 9 [.pointer A] fun a=>iB ((a==3)==true) (qL 11 [.pointer A] fun a b c=>qB 10 (Wa a b c B C D) fun a=>iB (a==true) (qI 12 [.pointer A] fun a=>iB ((a==(C:Int))==true) (qI 14 [.pointer A] fun a=>qS 13 [nI a] fun a=>rn [(.bool (decide (((a.size:Nat):Int)>0)))]) (rn [.bool false])) (rn [.bool false])) (rn [.bool false])) (T3k2)) (.fail)
noncomputable def T3k4 (A:Option Addr) (B C:Nat):TK:=
 fun a b=>sw a .normal (Xa b fun a=>iB a (rr [.bool true]) (qT 6 [(.string (bs [108,101,116,32,114,101,99,32,102,32,120,32,61,32,40,112,114,105,110,116,32,114,101,97,100,32,59,32,102,32,120,41,32,105,110,32,102,32,40,41]))] fun a=>asCons a fun a b=>asAgg a fun a=>Xr a fun a c d f g h i j k l m n o p q r s t u v w x y z a0 a1 a2 a3 a4 a5 a6 a7 a8 a9 b0 b1 b2 b3 b4 b5=>Xe b fun b _=>nw Zh fun b6=>sC b6 (Wb a c d f g h i j k l m n o p q r s t u v w x y z a0 a1 a2 a3 a4 a5 a6 a7 a8 a9 b0 b1 b2 b3 b4 b5) (Yv b6 fun a c d f g h i j k l m n o p q r s t u v w x y z a0 a1 a2 a3 a4 a5 a6 a7 a8 a9 b0 b1 b2 b3 b4 b5=>qT 7 [(Wc a c d f g h i j k l m n o p q r s t u v w x y z a0 a1 a2 a3 a4 a5 a6 a7 a8 a9 b0 b1 b2 b3 b4 b5),.slice A B C,nI 2000,nI 2000] fun a=>Xn a fun a c=>iB (((b !=0)||(c !=0))||(Option.isNone a)) (rr [.bool false]) (.loop [nI 0] (T3b0 a) (T3k3 a A B C))))) (.fail)
noncomputable def T3 (A:Option Addr) (B C:Nat):Pg:=
 qB 4 [] fun a=>iB (!a) (rr [.bool false]) (.join (iB ((decide ((B:Int)>15))==false) (qB 5 [.slice A B C] fun a=>rn [(.bool (!a))]) (rn [.bool true])) (T3k4 A B C))
theorem T3_eq (A:Option Addr) (B C:Nat):progOf PROG false 3 [.slice A B C]=T3 A B C:=by kernel_rfl
noncomputable def T4:Pg:=
 qT 15 [(.string (bs [102,117,110,32,120,32,45,62,32,120]))] fun a=>Yn a fun a b=>rr [(.bool ((b==0)&&(a.toList==(bs [40,39,97,32,45,62,32,39,97,41]).toList)))]
theorem T4_eq:progOf PROG false 4 []=T4:=by kernel_rfl
noncomputable def T5k0 (A:Int):TK:=
 Vr A
noncomputable def T5b0 (A:Nat) (B:Option Addr):TB:=
 fun a=>Xg a fun a b=>iB (decide (a<(A:Int))) (.join (asSome B fun c=>ix a A (lI (aadd c ((Int.toNat a)*1)) fun c=>.get fun d=>qI 16 [nI c] fun c=>asSome B fun f=>ix a A (.act (ld1 (aadd f ((Int.toNat a)*1))) fun g=>grd (past (ld1 (aadd f ((Int.toNat a)*1))) g [d]) (asInt .i64 g fun a=>iB (c !=a) (rr [.bool false]) (rn [.bool b]))))) (T5k0 a)) (re 0 (Wd a b))
noncomputable def T5k1 (A:Nat):TK:=
 fun a b=>sw a (.exit 0) (Xg b fun _ _=>rr [(.bool (decide ((A:Int)≤20)))]) (sw a .ret (Xg b fun _ a=>rr [.bool a]) (.fail))
noncomputable def T5 (A:Option Addr) (B C:Nat):Pg:=
 .loop Zi (T5b0 B A) (T5k1 B)
theorem T5_eq (A:Option Addr) (B C:Nat):progOf PROG false 5 [.slice A B C]=T5 A B C:=by kernel_rfl
noncomputable def T6k0 (A B C:Addr) (D:ByteArray):TK:=
 fun a b=>sw a .normal (Xe b fun a b=>iB (b !=0) (.act (ld1 (aadd A 0)) fun c=>asSlice c fun d f _=>asSome d fun d=>ix a f (.act (ld1 (aadd (aadd d ((Int.toNat a)*7)) 5)) fun f=>asInt .i64 f fun g=>sC B Zh (.get fun h=>grd (chks [((ld1 (aadd (aadd d ((Int.toNat a)*7)) 5)),f),((ld1 (aadd A 0)),c)] h) (.act (ldN 16 B) fun a=>rr [(.tuple #[a,nI b,nI g])])))) (Yw A fun a b c d f g=>qT 20 [(We a b c d f g)] fun a=>asCons a fun a b=>asAgg a fun a=>Xy a fun a c d f g h i j k l m n=>Xd b fun b=>nw Zj fun o=>sC o (Wf a c d f g h i j k l m n) (iB (b !=0) (sC B Zh (.act (ldN 16 B) fun a=>rr [(.tuple #[a,nI b,nI 0])])) (Yw A fun a b c d f g=>lA 7 C fun h=>Xt h fun h i j k l m n p q r s t u v w=>lA 4 o fun o=>Xy o fun o x y z a0 a1 a2 a4 a5 a6 a7 a8=>sC B (Wb D a b c d f g h i j k l m n p q r s t u v w o x y z a0 a1 a2 a4 a5 a6 a7 a8 none 0 0 none 0 0) (Yv B fun a b c d f g h i j k l m n o p q r s t u v w x y z a0 a1 a2 a4 a5 a6 a7 a8 a9 b0 b1 b2 b3 b4 b5=>qA 21 [(Wc a b c d f g h i j k l m n o p q r s t u v w x y z a0 a1 a2 a4 a5 a6 a7 a8 a9 b0 b1 b2 b3 b4 b5)] fun a=>Xf a fun a b c d f g=>sC (aadd B 14) (Wa a b c d f g) (Yv B fun a b c d f g h i j k l m n o p q r s t u v w x y z a0 a1 a2 a4 a5 a6 a7 a8 a9 b0 b1 b2 b3 b4 b5=>sC B (Wb a b c d f g h i j k l m n o p q r s t u v w x y z a0 a1 a2 a4 a5 a6 a7 a8 a9 b0 b1 b2 b3 b4 b5) (.act (ldN 16 B) fun a=>rr [(.tuple #[a,nI 0,nI 0])]))))))) (.fail)
noncomputable def T6 (A:ByteArray):Pg:=
 nw Zh fun a=>qT 17 [.string A] fun b=>asCons b fun b c=>asAgg b fun b=>Xf b fun b d f g h i=>Xe c fun c j=>nw Zk fun k=>sC k (Wa b d f g h i) (iB (c !=0) (sC a Zh (.act (ldN 16 a) fun a=>rr [(.tuple #[a,nI c,nI j])])) (Yw k fun b c d f g h=>qT 18 [(We b c d f g h)] fun b=>asCons b fun b c=>asAgg b fun b=>Xt b fun b d f g h i j l m n o p q r s=>Xe c fun c t=>nw Zl fun u=>sC u (Wg b d f g h i j l m n o p q r s) (.join (iB (c==0) (Yw k fun a b c d f g=>qT 19 [(We a b c d f g)] fun a=>Xe a fun a b=>rn (Wh b a)) (rn (Wh t c))) (T6k0 k a u A))))
theorem T6_eq (A:ByteArray):progOf PROG false 6 [.string A]=T6 A:=by kernel_rfl
noncomputable def T7k0 (A:Int):TK:=
 Vm A
noncomputable def T7b0 (A:Nat) (B:Option Addr) (C:Addr):TB:=
 fun a=>Xd a fun a=>iB (decide (a<(A:Int))) (.join (asSome B fun b=>ix a A (Yx (aadd b ((Int.toNat a)*2)) fun a b=>nw Zm fun c=>sC c (Wh a b) (.act (ld1 (aadd C 18)) fun a=>asMap a fun a=>lI (aadd c 0) fun b=>.act (mup (.int .i64) a (nI b) (.bool true)) fun a=>asTuple a fun a=>asNil a (rn [])))) (T7k0 a)) (re 0 [nI a])
noncomputable def T7k1 (A:Addr):TK:=
 fun a b=>sw a (.exit 0) (Xd b fun _=>rr [(.tuple #[(.pointer (some A)),nI 0])]) (.fail)
noncomputable def T7k2 (A:Addr) (B:Option Addr) (C D:Nat) (E F G:Option Addr):TK:=
 fun a b=>sw a .normal (Xa b fun a=>iB a (rr [(.tuple #[.pointer none,nI 1])]) (.get fun a=>.act (ldN 16 A) fun b=>asAgg b fun c=>Xr c fun c d f g h i j k l m n o p q r s t u v w x y z a0 a1 a2 a3 a4 a5 a6 a7 a8 a9 b0 b1 b2 b3 b4 b5 b6=>.act (ld1 (aadd (aadd A 10) 0)) fun b7=>asSlice b7 fun b8 b9 c0=>.get fun c1=>grd (newN a.n c1 []) (.act makeMapAct fun c2=>asMap c2 fun c2=>.get fun c3=>qL 28 [.slice B C D] fun c4 c5 c6=>.get fun c7=>grd (chks [((ld1 (aadd (aadd A 10) 0)),b7),((ldN 16 A),b)] c7) (.get fun b7=>grd (chkO [(c1.n,(c3.get c1.n))] b7) (.call 29 [.slice b8 b9 c0] fun b7=>asMap b7 fun b7=>.get fun b8=>grd (chks [((ldN 16 A),b)] b8) (.get fun b=>grd (chkO [(c1.n,(c3.get c1.n))] b) (.get fun b=>grd (newN a.n b [c1.n]) (nw [.string c,.slice d f g,.slice h i j,.slice k l m,.slice n o p,.slice q r s,nI t,.string u,nI v,.slice w x y,.slice z a0 a1,.slice a2 a3 a4,.slice a5 a6 a7,.slice a8 a9 b0,.slice b1 b2 b3,.slice b4 b5 b6,.slice c4 c5 c6,.map b7,.map c2,nI 0,nI 0,nI 0,nI 0,nI 0,nI 0,.int .u64 0,.slice none 0 0,.pointer E,.pointer F,.pointer G] fun a=>.get fun _=>lL (aadd (aadd A 10) 1) fun b c _=>.loop [nI 0] (T7b0 c b a) (T7k1 a))))))))) (.fail)
noncomputable def T7 (A:ByteArray) (B:Option Addr) (C D:Nat) (E:Option Addr) (F G:Nat) (H:Option Addr) (I J:Nat) (K:Option Addr) (L M:Nat) (N:Option Addr) (O Q:Nat) (R:Int) (S:ByteArray) (U:Int) (V:Option Addr) (W X:Nat) (Y:Option Addr) (Z A1:Nat) (A2:Option Addr) (B1 B2:Nat) (C1:Option Addr) (C2 D1:Nat) (D2:Option Addr) (E1 E2:Nat) (F1:Option Addr) (F2 G1:Nat) (G2:Option Addr) (H1 H2:Nat) (I1:Option Addr) (I2 J1:Nat) (J2 K1:Int):Pg:=
 nw (Wb A B C D E F G H I J K L M N O Q R S U V W X Y Z A1 A2 B1 B2 C1 C2 D1 D2 E1 E2 F1 F2 G1 G2 H1 H2) fun a=>qT 24 [nI J2] fun b=>Xn b fun b c=>qT 25 [nI K1] fun d=>Xn d fun d f=>qT 26 [.slice I1 I2 J1] fun g=>Xn g fun g h=>.join (iB ((((c !=0)||(f !=0))||(h !=0))==false) (qB 27 [.slice I1 I2 J1,(.func (.func 22) #[] #[])] fun a=>rn [.bool a]) (rn [.bool true])) (T7k2 a I1 I2 J1 d b g)
theorem T7_eq (A:ByteArray) (B:Option Addr) (C D:Nat) (E:Option Addr) (F G:Nat) (H:Option Addr) (I J:Nat) (K:Option Addr) (L M:Nat) (N:Option Addr) (O Q:Nat) (R:Int) (S:ByteArray) (U:Int) (V:Option Addr) (W X:Nat) (Y:Option Addr) (Z A1:Nat) (A2:Option Addr) (B1 B2:Nat) (C1:Option Addr) (C2 D1:Nat) (D2:Option Addr) (E1 E2:Nat) (F1:Option Addr) (F2 G1:Nat) (G2:Option Addr) (H1 H2:Nat) (I1:Option Addr) (I2 J1:Nat) (J2 K1:Int):progOf PROG false 7 [(.agg #[.string A,.slice B C D,.slice E F G,.slice H I J,.slice K L M,.slice N O Q,(.int .i64 R),.string S,(.int .i64 U),.slice V W X,.slice Y Z A1,.slice A2 B1 B2,.slice C1 C2 D1,.slice D2 E1 E2,.slice F1 F2 G1,.slice G2 H1 H2]),.slice I1 I2 J1,(.int .i64 J2),(.int .i64 K1)]=T7 A B C D E F G H I J K L M N O Q R S U V W X Y Z A1 A2 B1 B2 C1 C2 D1 D2 E1 E2 F1 F2 G1 G2 H1 H2 I1 I2 J1 J2 K1:=by kernel_rfl
noncomputable def T8k0:TK:=
 Uh
noncomputable def T8k1 (A:Option Addr):TK:=
 fun a b=>sw a .ret (Xd b fun a=>rr [nI a]) (sw a .normal (Xd b fun _=>asSome A fun a=>lI (aadd a 19) fun a=>asSome A fun b=>.act (ld1 (aadd b 17)) fun b=>asMap b fun b=>.act (lkp (.int .i64) (Wj 0 0 0) b (nI a) true) fun b=>asTuple b fun b=>asCons b fun b c=>asAgg b fun b=>Xl b fun b d f=>Xa c fun c=>nw Zo fun g=>sC g (Wk b d f) (iB (!c) (asSome A fun a=>sC (aadd a 22) [nI 2] (rr [nI 0])) (Yy g fun b c d=>qI 30 [(Wj b c d)] fun b=>asSome A fun c=>sC (aadd c 19) [(nI (wi64 (a+b)))] (Yy g fun b c d=>qI 31 [.pointer A,(Wj b c d)] fun b=>iB (b !=0) (asSome A fun c=>sC (aadd c 19) [nI a] (asSome A fun a=>sC (aadd a 23) [nI b] (rr [nI b]))) (asSome A fun b=>lI (aadd b 21) fun b=>asSome A fun c=>sC (aadd c 21) [(nI (wi64 (b+1)))] (asSome A fun b=>.act (ld1 (aadd b 18)) fun b=>asMap b fun b=>.act (lkp (.int .i64) (.bool false) b (nI a) false) fun a=>asBool a fun a=>.join (iB a (asSome A fun a=>lI (aadd a 20) fun a=>asSome A fun b=>sC (aadd b 20) [(nI (wi64 (a+1)))] (rn [])) (rn [])) (T8k0))))))) (.fail))
noncomputable def T8 (A:Option Addr):Pg:=
 .join (asSome A fun a=>lI (aadd a 22) fun a=>iB (a !=0) (rr [nI 11]) (asSome A fun a=>lI (aadd a 23) fun a=>iB (a !=0) (asSome A fun a=>lI (aadd a 23) fun a=>rr [nI a]) (rn [nI 0]))) (T8k1 A)
theorem T8_eq (A:Option Addr):progOf PROG false 8 [(.pointer A)]=T8 A:=by kernel_rfl
noncomputable def T9 (A:Option Addr):Pg:=
 asSome A fun a=>lI (aadd a 22) fun a=>rr [nI a]
theorem T9_eq (A:Option Addr):progOf PROG false 9 [(.pointer A)]=T9 A:=by kernel_rfl
noncomputable def T10k0 (A:Int):TK:=
 Vr A
noncomputable def T10b0 (A:Nat) (B C:Option Addr) (D:Nat):TB:=
 fun a=>Xg a fun a b=>iB (decide (a<(A:Int))) (.join (asSome B fun c=>ix a A (lI (aadd c ((Int.toNat a)*1)) fun c=>asSome C fun d=>ix a D (lI (aadd d ((Int.toNat a)*1)) fun a=>iB (c !=a) (rr [.bool false]) (rn [.bool b])))) (T10k0 a)) (re 0 (Wd a b))
noncomputable def T10k1:TK:=
 Vt
noncomputable def T10 (A:Option Addr) (B C:Nat) (D:Option Addr) (E F:Nat):Pg:=
 iB ((B:Int) !=(E:Int)) (rr [.bool false]) (.loop Zi (T10b0 B A D E) (T10k1))
theorem T10_eq (A:Option Addr) (B C:Nat) (D:Option Addr) (E F:Nat):progOf PROG false 10 [.slice A B C,.slice D E F]=T10 A B C D E F:=by kernel_rfl
noncomputable def T11 (A:Option Addr):Pg:=
 asSome A fun a=>.act (ld1 (aadd a 29)) fun a=>asPtr a fun a=>qL 32 [.pointer a] fun a b c=>rr [.slice a b c]
theorem T11_eq (A:Option Addr):progOf PROG false 11 [(.pointer A)]=T11 A:=by kernel_rfl
noncomputable def T12 (A:Option Addr):Pg:=
 asSome A fun a=>.act (ld1 (aadd a 29)) fun a=>asPtr a fun a=>qT 33 [.pointer a] fun a=>Xe a fun a _=>rr [nI a]
theorem T12_eq (A:Option Addr):progOf PROG false 12 [(.pointer A)]=T12 A:=by kernel_rfl
noncomputable def T13 (A:Int):Pg:=
 iB (decide (A<0)) (iB (decide ((wu64 (wi64 (0 - A)))≥10)) (qS 13 [(nI (wi64 (wu64 (Int.tdiv (wu64 (wi64 (0 - A))) 10))))] fun a=>grd (Nat.ble (1+a.size) 9223372036854775807) (qS 13 [(nI (wi64 (Int.tmod (wu64 (wi64 (0 - A))) 10)))] fun b=>grd (Nat.ble (((bs [45])++a).size+b.size) 9223372036854775807) (rr [(.string (((bs [45])++a)++b))]))) (qS 13 [(nI (wi64 (wu64 (wi64 (0 - A)))))] fun a=>grd (Nat.ble (1+a.size) 9223372036854775807) (rr [(.string ((bs [45])++a))]))) (iB (decide (A<10)) (bL 1 1 [(.int .u8 (wu8 (wi64 (48+A))))] fun a b c=>.act (bytesToStringAct (.slice a b c)) fun a=>asStr a fun a=>rr [.string a]) (qS 13 [(nI (wi64 (Int.tdiv A 10)))] fun a=>qS 13 [(nI (Int.tmod A 10))] fun b=>grd (Nat.ble (a.size+b.size) 9223372036854775807) (rr [(.string (a++b))])))
theorem T13_eq (A:Int):progOf PROG false 13 [(.int .i64 A)]=T13 A:=by kernel_rfl
noncomputable def T14 (A:Option Addr):Pg:=
 asSome A fun a=>lI (aadd a 21) fun a=>rr [nI a]
theorem T14_eq (A:Option Addr):progOf PROG false 14 [(.pointer A)]=T14 A:=by kernel_rfl
noncomputable def T15 (A:ByteArray):Pg:=
 qT 34 [.string A] fun a=>asCons a fun a b=>asAgg a fun a=>Xf a fun a c d f g h=>asCons b fun b i=>asAgg b fun b=>Xt b fun b j k l m n o p q r s t u v w=>Xd i fun i=>nw Zk fun x=>nw Zl fun y=>sC x (Wa a c d f g h) (sC y (Wg b j k l m n o p q r s t u v w) (iB (i !=0) (rr [(.tuple #[(.string (bs [])),nI i])]) (Yz (aadd y 3) fun a b c d f g=>qS 35 [(Wl a b c d f g)] fun a=>rr [(.tuple #[.string a,nI 0])])))
theorem T15_eq (A:ByteArray):progOf PROG false 15 [.string A]=T15 A:=by kernel_rfl
noncomputable def T16 (A:Int):Pg:=
 rr [(nI (shrI .i64 (shlI .i64 A 1) 1))]
theorem T16_eq (A:Int):progOf PROG false 16 [(.int .i64 A)]=T16 A:=by kernel_rfl
noncomputable def T17k0:TK:=
 Vl
noncomputable def T17b0 (A B:Addr):TB:=
 fun a=>asNil a (qB 37 (Wm (some A) 0 (bs [116,121,112,101])) fun a=>iB a (.join (.act (ld1 (aadd B 1)) fun a=>asSlice a fun b c d=>qA 38 [(.pointer (some A))] fun f=>Xv f fun f g h i=>.get fun j=>grd (chks [((ld1 (aadd B 1)),a)] j) (bL 2 1 (Wn f g h i) fun f g h=>.get fun i=>grd (chks [((ld1 (aadd B 1)),a)] i) (.act (apS 2 40 b c d f g h) fun a=>asSlice a fun a b c=>sC (aadd B 1) [.slice a b c] (rn [])))) (T17k0)) (re 0 []))
noncomputable def T17k1 (A:Addr):TK:=
 fun a b=>sw a .ret (Xe b fun a b=>.act (ldN 2 A) fun c=>rr [(.tuple #[c,nI b,nI a])]) (sw a .normal (Xe b fun _ _=>Yw A fun a b c d f g=>sC A (Wa a b c d f g) (.act (ldN 2 A) fun a=>rr [(.tuple #[a,nI 0,nI 0])])) (.fail))
noncomputable def T17k2 (A B:Addr) (C:Option Addr) (D E:Int):TK:=
 fun a b=>sw a .normal (asNil b (lB (aadd A 3) fun a=>iB a (lI (aadd A 4) fun a=>sC B Zk (.act (ldN 2 B) fun b=>rr [(.tuple #[b,nI 3,nI a])])) (nw [.pointer none] fun a=>qI 41 [(.pointer (some B)),.pointer C,nI 0,(.pointer (some a))] fun _=>.join (.act (ld1 a) fun b=>asPtr b fun b=>iB (!(Option.isNone b)) (.act (ld1 a) fun a=>asPtr a fun a=>asSome a fun a=>lI (aadd (aadd a 0) 5) fun a=>sC B Zk (rr (Wh a 2))) (Yw B fun a b c d f g=>qB 42 [(We a b c d f g)] fun a=>iB (!a) (sC B Zk (rr (Wh 0 3))) (rn (Wh D E)))) (T17k1 B)))) (.fail)
noncomputable def T17k3 (A B:Addr) (C D:Int):TK:=
 fun a b=>sw a (.exit 0) (asNil b (.call 39 [(.pointer (some A))] fun a=>asPtr a fun a=>lI (aadd A 2) fun b=>lL (aadd A 0) fun _ c _=>.join (iB (decide (b<(c:Int))) (qT 40 [(.pointer (some A))] fun a=>asNil a (rn [])) (rn [])) (T17k2 A B a C D))) (.fail)
noncomputable def T17 (A:ByteArray):Pg:=
 nw Zk fun a=>qT 36 [.string A] fun b=>Yo b fun b c d f g=>iB (f !=0) (sC a Zk (.act (ldN 2 a) fun a=>rr [(.tuple #[a,nI f,nI g])])) (nw [.slice b c d,(nI ((A.size:Nat):Int)),nI 0,.bool false,nI 0] fun b=>.loop [] (T17b0 b a) (T17k3 b a g f))
theorem T17_eq (A:ByteArray):progOf PROG false 17 [.string A]=T17 A:=by kernel_rfl
noncomputable def T18k0 (A:Int):TK:=
 Vm A
noncomputable def T18b0 (A:Nat) (B:Addr) (C:Option Addr):TB:=
 fun a=>Xd a fun a=>iB (decide (a<(A:Int))) (.join (.act (ld1 (aadd B 2)) fun b=>asPtr b fun b=>asSome C fun c=>ix a A (Yz (aadd c ((Int.toNat a)*4)) fun c d f g h i=>qA 45 [.pointer b,(Wl c d f g h i)] fun b=>Xb b fun b c d f g h=>asSome C fun i=>ix a A (sC (aadd i ((Int.toNat a)*4)) (Wo b c d f g h) (rn [])))) (T18k0 a)) (re 2 [nI a])
noncomputable def T18k1:TK:=
 Vu
noncomputable def T18k2 (A:Int):TK:=
 Vm A
noncomputable def T18b1 (A:Nat) (B:Option Addr) (C:Addr):TB:=
 fun a=>Xd a fun a=>iB (decide (a<(A:Int))) (.join (asSome B fun b=>ix a A (lL (aadd b ((Int.toNat a)*1)) fun a b _=>.loop [nI 0] (T18b0 b C a) (T18k1))) (T18k2 a)) (re 0 [nI a])
noncomputable def T18k3 (A B:Addr):TK:=
 fun a b=>sw a (.exit 0) (Xd b fun _=>lL (aadd (aadd A 3) 0) fun a b _=>asSome a fun a=>grd (decide (0<(b:Int))) (Yz (aadd a 0) fun a b c d f g=>sC (aadd (aadd A 3) 3) (Wo a b c d f g) (lA 7 (aadd A 3) fun a=>Xt a fun a b c d f g h i j k l m n o p=>sC B (Wg a b c d f g h i j k l m n o p) (.act (ldN 7 B) fun a=>rr [(.tuple #[a,nI 0,nI 0])])))) (.fail)
noncomputable def T18 (A:Option Addr) (B C:Nat) (D:Option Addr) (E F:Nat):Pg:=
 nw (Wa A B C D E F) fun a=>nw Zl fun b=>Yw a fun c d f g h i=>qB 42 [(We c d f g h i)] fun c=>iB (!c) (sC b Zl (.act (ldN 7 b) fun a=>rr [(.tuple #[a,nI 1,nI 0])])) (lL (aadd a 0) fun _ c _=>.get fun d=>.act (ldN 2 a) fun f=>asAgg f fun g=>Xf g fun g h i j k l=>.get fun m=>grd (newN d.n m []) (.act (mkSl 4 56 Zp (c:Int) (c:Int)) fun n=>asSlice n fun n o p=>.get fun q=>.get fun r=>grd (newN d.n r [m.n]) (.act (mkSl 4 56 Zp (c:Int) (c:Int)) fun s=>asSlice s fun s t u=>.get fun v=>.get fun w=>grd (newN d.n w [r.n,m.n]) (.act (mkSl 4 56 Zp (c:Int) (c:Int)) fun c=>asSlice c fun c x y=>.get fun z=>.call 43 [] fun a0=>asPtr a0 fun a0=>.get fun a1=>grd (chks [((ldN 2 a),f)] a1) (.get fun a=>grd (chkO [(w.n,(z.get w.n)),(r.n,(v.get r.n)),(m.n,(q.get m.n))] a) (.get fun a=>grd (newN d.n a [w.n,r.n,m.n]) (nw [.slice g h i,.slice j k l,.pointer a0,.slice n o p,.slice s t u,.slice c x y,nI 0,(.string (bs [])),nI 0,.slice none 0 0,nI 0,nI 0] fun a=>.get fun _=>qA 44 (Wq (some a) 0 none) fun c=>Xb c fun _ _ _ _ _ _=>lI (aadd a 10) fun c=>iB (c !=0) (.act (ld1 (aadd a 10)) fun c=>asInt .i64 c fun d=>.act (ld1 (aadd a 11)) fun f=>asInt .i64 f fun g=>sC b Zl (.get fun h=>grd (chks [((ld1 (aadd a 11)),f),((ld1 (aadd a 10)),c)] h) (.act (ldN 7 b) fun a=>rr [(.tuple #[a,nI d,nI g])]))) (lL (aadd (aadd a 3) 0) fun c d f=>lL (aadd (aadd a 3) 1) fun g h i=>lL (aadd (aadd a 3) 2) fun j k l=>bL 1 3 [.slice c d f,.slice g h i,.slice j k l] fun c d _=>.loop [nI 0] (T18b1 d c a) (T18k3 a b)))))))))
theorem T18_eq (A:Option Addr) (B C:Nat) (D:Option Addr) (E F:Nat):progOf PROG false 18 [(.agg #[.slice A B C,.slice D E F])]=T18 A B C D E F:=by kernel_rfl
noncomputable def T19k0 (A:Int):TK:=
 Ui A
noncomputable def T19b0 (A:Nat) (B:Option Addr) (C:Addr):TB:=
 fun a=>Xl a fun a b c=>iB (decide (a<(A:Int))) (.join (asSome B fun d=>ix a A (Za (aadd d ((Int.toNat a)*7)) fun d f g h i j k l m=>nw Zq fun n=>sC n (Ws d f g h i j k l m) (lI (aadd n 0) fun d=>iB (d !=11) (rn (Wh b c)) (Yw C fun d f g h i j=>qT 46 [(We d f g h i j),nI a] fun a=>Xe a fun a d=>iB (a !=0) (rr (Wh d a)) (rn (Wh b c)))))) (T19k0 a)) (re 0 (Wk a b c))
noncomputable def T19k1:TK:=
 fun a b=>sw a (.exit 0) (Xl b fun _ _ _=>rr [(.tuple #[nI 0,nI 0])]) (sw a .ret (Xl b fun _ a b=>rr [(.tuple #[nI b,nI a])]) (.fail))
noncomputable def T19 (A:Option Addr) (B C:Nat) (D:Option Addr) (E F:Nat):Pg:=
 nw (Wa A B C D E F) fun a=>Yw a fun b c d f g h=>qB 42 [(We b c d f g h)] fun b=>iB (!b) (rr [(.tuple #[nI 1,nI 0])]) (lL (aadd a 0) fun b c _=>.loop Zo (T19b0 c b a) (T19k1))
theorem T19_eq (A:Option Addr) (B C:Nat) (D:Option Addr) (E F:Nat):progOf PROG false 19 [(.agg #[.slice A B C,.slice D E F])]=T19 A B C D E F:=by kernel_rfl
noncomputable def T20k0 (A:Int):TK:=
 Vm A
noncomputable def T20b0 (A:Nat) (B:Addr):TB:=
 fun a=>Xd a fun a=>iB (decide (a<(A:Int))) (.join (.act (ld1 (aadd B 5)) fun a=>asSlice a fun b c d=>qI 49 [(.pointer (some B))] fun f=>.get fun g=>grd (chks [((ld1 (aadd B 5)),a)] g) (bL 1 1 [nI f] fun f g h=>.get fun i=>grd (chks [((ld1 (aadd B 5)),a)] i) (.act (apS 1 8 b c d f g h) fun a=>asSlice a fun a b c=>sC (aadd B 5) [.slice a b c] (rn [])))) (T20k0 a)) (re 0 [nI a])
noncomputable def T20k1 (A:Int):TK:=
 Vm A
noncomputable def T20b1 (A:Nat) (B:Addr):TB:=
 fun a=>Xd a fun a=>iB (decide (a<(A:Int))) (.join (qT 50 (Wu (some B) a) fun a=>asNil a (rn [])) (T20k1 a)) (re 2 [nI a])
noncomputable def T20k2 (A B:Addr):TK:=
 fun a b=>sw a (.exit 2) (Xd b fun _=>lB (aadd A 6) fun a=>iB a (sC B Zj (.act (ldN 4 B) fun a=>rr [(.tuple #[a,nI 1])])) (qA 51 [(.pointer (some A))] fun a=>Xy a fun a b c d f g h i j k l m=>sC B (Wf a b c d f g h i j k l m) (.act (ldN 4 B) fun a=>rr [(.tuple #[a,nI 0])]))) (.fail)
noncomputable def T20k3 (A B:Addr):TK:=
 fun a b=>sw a (.exit 0) (Xd b fun _=>lL (aadd A 2) fun _ a _=>.loop [nI 0] (T20b1 a A) (T20k2 A B)) (.fail)
noncomputable def T20 (A:Option Addr) (B C:Nat) (D:Option Addr) (E F:Nat):Pg:=
 nw (Wa A B C D E F) fun a=>nw Zj fun b=>Yw a fun c d f g h i=>qB 42 [(We c d f g h i)] fun c=>iB (!c) (sC b Zj (.act (ldN 4 b) fun a=>rr [(.tuple #[a,nI 1])])) (.act (ldN 2 a) fun c=>asAgg c fun d=>Xf d fun d f g h i j=>Yw a fun k l m n o p=>.get fun q=>qL 47 [(We k l m n o p)] fun k l m=>.get fun n=>grd (chks [((ldN 2 a),c)] n) (.act (ldN 2 a) fun n=>grd (past (ldN 2 a) n [q]) (asAgg n fun n=>Xf n fun n o p q r s=>.call 48 [(We n o p q r s)] fun n=>asMap n fun n=>.get fun o=>grd (chks [((ldN 2 a),c)] o) (nw [.slice d f g,.slice h i j,.slice k l m,.slice none 0 0,nI 0,.slice none 0 0,.bool false,.map n] fun a=>lL (aadd a 2) fun _ c _=>.loop [nI 0] (T20b0 c a) (T20k3 a b)))))
theorem T20_eq (A:Option Addr) (B C:Nat) (D:Option Addr) (E F:Nat):progOf PROG false 20 [(.agg #[.slice A B C,.slice D E F])]=T20 A B C D E F:=by kernel_rfl
noncomputable def T21k0:TK:=
 Uj
noncomputable def T21k1 (A:Int):TK:=
 Vo A
noncomputable def T21b0 (A:Nat) (B:Option Addr):TB:=
 fun a=>Xj a fun a b c d=>iB (decide (a<(A:Int))) (.join (asSome B fun f=>ix a A (Zb (aadd f ((Int.toNat a)*6)) fun f g h i j k=>nw Zr fun l=>sC l (Ww f g h i j k) (qI 54 [.slice b c d,(.func (.func 55) #[] #[(.pointer (some l))])] fun f=>.join (iB (decide (f≥0)) (asSome b fun g=>ix f c (lI (aadd (aadd g ((Int.toNat f)*6)) 0) fun g=>asSome B fun h=>ix a A (sC (aadd (aadd h ((Int.toNat a)*6)) 0) [nI g] (qL 57 (Wy b c d f (wi64 (f+1))) fun a b c=>rn [.slice a b c])))) (rn [.slice b c d])) (T21k0)))) (T21k1 a)) (re 2 (Wv a b c d))
noncomputable def T21k2 (A:Addr) (B:Option Addr) (C D:Nat):TK:=
 fun a b=>sw a (.exit 2) (Xj b fun _ a b c=>lL (aadd A 1) fun d f g=>.act (apS 6 64 d f g a b c) fun a=>asSlice a fun a b c=>sC (aadd A 1) [.slice a b c] (rn [.slice B C D])) (.fail)
noncomputable def T21k3 (A:Int):TK:=
 Vo A
noncomputable def T21b1 (A:Nat) (B:Option Addr) (C D:Addr):TB:=
 fun a=>Xj a fun a b c d=>iB (decide (a<(A:Int))) (.join (asSome B fun f=>ix a A (Yx (aadd f ((Int.toNat a)*2)) fun a f=>nw Zm fun g=>sC g (Wh a f) (lS (aadd C 0) fun a=>lL (aadd (aadd C 1) 0) fun f h _=>lI (aadd g 1) fun i=>asSome f fun f=>ix i h (lI (aadd (aadd f ((Int.toNat i)*7)) 5) fun f=>qT 52 [.string a,nI f] fun a=>Xe a fun a f=>lL (aadd D 0) fun h i j=>lI (aadd g 0) fun k=>lI (aadd g 1) fun l=>bL 4 1 [nI k,nI l,nI a,nI f] fun a f k=>.act (apS 4 32 h i j a f k) fun a=>asSlice a fun a f h=>sC (aadd D 0) [.slice a f h] (Yv C fun a f h i j k l m n o p q r s t u v w x y z a0 a1 a2 a3 a4 a5 a6 a7 a8 a9 b0 b1 b2 b3 b4 b5 b6 b7 b8=>Yx g fun g b9=>qL 53 [(Wc a f h i j k l m n o p q r s t u v w x y z a0 a1 a2 a3 a4 a5 a6 a7 a8 a9 b0 b1 b2 b3 b4 b5 b6 b7 b8),(Wt g b9)] fun a f g=>.loop (Wv 0 b c d) (T21b0 f a) (T21k2 D a f g)))))) (T21k3 a)) (re 0 (Wv a b c d))
noncomputable def T21k4 (A B:Addr):TK:=
 fun a b=>sw a (.exit 0) (Xj b fun _ a b c=>lL (aadd A 1) fun d f g=>.act (apS 6 64 d f g a b c) fun a=>asSlice a fun a b c=>sC (aadd A 1) [.slice a b c] (Yw A fun a b c d f g=>sC B (Wa a b c d f g) (.act (ldN 2 B) fun a=>rr [a]))) (.fail)
noncomputable def T21 (A:ByteArray) (B:Option Addr) (C D:Nat) (E:Option Addr) (F G:Nat) (H:Option Addr) (I J:Nat) (K:Option Addr) (L M:Nat) (N:Option Addr) (O Q:Nat) (R:Int) (S:ByteArray) (U:Int) (V:Option Addr) (W X:Nat) (Y:Option Addr) (Z A1:Nat) (A2:Option Addr) (B1 B2:Nat) (C1:Option Addr) (C2 D1:Nat) (D2:Option Addr) (E1 E2:Nat) (F1:Option Addr) (F2 G1:Nat) (G2:Option Addr) (H1 H2:Nat):Pg:=
 nw (Wb A B C D E F G H I J K L M N O Q R S U V W X Y Z A1 A2 B1 B2 C1 C2 D1 D2 E1 E2 F1 F2 G1 G2 H1 H2) fun a=>nw Zk fun b=>nw Zk fun c=>lL (aadd (aadd a 10) 1) fun d f _=>.loop Zs (T21b1 f d a c) (T21k4 c b)
theorem T21_eq (A:ByteArray) (B:Option Addr) (C D:Nat) (E:Option Addr) (F G:Nat) (H:Option Addr) (I J:Nat) (K:Option Addr) (L M:Nat) (N:Option Addr) (O Q:Nat) (R:Int) (S:ByteArray) (U:Int) (V:Option Addr) (W X:Nat) (Y:Option Addr) (Z A1:Nat) (A2:Option Addr) (B1 B2:Nat) (C1:Option Addr) (C2 D1:Nat) (D2:Option Addr) (E1 E2:Nat) (F1:Option Addr) (F2 G1:Nat) (G2:Option Addr) (H1 H2:Nat):progOf PROG false 21 [(.agg #[.string A,.slice B C D,.slice E F G,.slice H I J,.slice K L M,.slice N O Q,(.int .i64 R),.string S,(.int .i64 U),.slice V W X,.slice Y Z A1,.slice A2 B1 B2,.slice C1 C2 D1,.slice D2 E1 E2,.slice F1 F2 G1,.slice G2 H1 H2])]=T21 A B C D E F G H I J K L M N O Q R S U V W X Y Z A1 A2 B1 B2 C1 C2 D1 D2 E1 E2 F1 F2 G1 G2 H1 H2:=by kernel_rfl
noncomputable def T22 (A:Int):Pg:=
 qI 23 [nI A] fun a=>rr [(.bool (a !=A))]
theorem T22_eq (A:Int):progOf PROG false 22 [(.int .i64 A)]=T22 A:=by kernel_rfl
noncomputable def T23 (A:Int):Pg:=
 rr [(nI (shrI .i64 (shlI .i64 A 1) 1))]
theorem T23_eq (A:Int):progOf PROG false 23 [(.int .i64 A)]=T23 A:=by kernel_rfl
noncomputable def T24 (A:Int):Pg:=
 iB ((decide (A<16))||(decide (A>65536))) (rr [(.tuple #[.pointer none,nI 1])]) (nw [nI A,nI 0,.slice none 0 0,.slice none 0 0] fun a=>rr [(.tuple #[(.pointer (some a)),nI 0])])
theorem T24_eq (A:Int):progOf PROG false 24 [(.int .i64 A)]=T24 A:=by kernel_rfl
noncomputable def T25 (A:Int):Pg:=
 iB ((decide (A<16))||(decide (A>4096))) (rr [(.tuple #[.pointer none,nI 1])]) (nw (Wz A 0 none 0 0) fun a=>rr [(.tuple #[(.pointer (some a)),nI 0])])
theorem T25_eq (A:Int):progOf PROG false 25 [(.int .i64 A)]=T25 A:=by kernel_rfl
noncomputable def T26 (A:Option Addr) (B C:Nat):Pg:=
 iB (decide ((B:Int)>200)) (rr [(.tuple #[.pointer none,nI 1])]) (qL 28 [.slice A B C] fun a b c=>nw [.slice a b c,.slice none 0 0,nI 0] fun a=>rr [(.tuple #[(.pointer (some a)),nI 0])])
theorem T26_eq (A:Option Addr) (B C:Nat):progOf PROG false 26 [.slice A B C]=T26 A B C:=by kernel_rfl
noncomputable def T27 (A:Option Addr) (B C:Nat) (D:Value):Pg:=
 qI 58 [.slice A B C,D] fun a=>rr [(.bool (decide (a≥0)))]
theorem T27_eq (A:Option Addr) (B C:Nat) (D:Value):progOf PROG false 27 [.slice A B C,D]=T27 A B C D:=by kernel_rfl
noncomputable def T28 (A:Option Addr) (B C:Nat):Pg:=
 iB (Option.isNone A) (rr [.slice none 0 0]) (bL 1 0 [] fun a b c=>.act (apS 1 8 a b c A B C) fun a=>asSlice a fun a b c=>rr [.slice a b c])
theorem T28_eq (A:Option Addr) (B C:Nat):progOf PROG false 28 [.slice A B C]=T28 A B C:=by kernel_rfl
noncomputable def T29k0:TK:=
 fun a b=>sw a (.exit 0) (Xd b fun a=>re 0 [nI a]) (sw a .normal (Xd b fun a=>rn [nI a]) (.fail))
noncomputable def T29b0 (A B:Nat) (C:Option Addr) (D:Option Nat):TB:=
 fun a=>Xd a fun a=>iB (decide (a<(A:Int))) (.join (grd (((((decide (0≤a))&&(decide (a≤(A:Int))))&&(decide ((A:Int)≤(B:Int))))&&(decide ((B:Int)≤(B:Int))))&&((mayCut C 1)||(decide (a=0)))) (qT 59 [(.slice (cutS C ((Int.toNat a)*1)) (A - (Int.toNat a)) (B - (Int.toNat a)))] fun b=>asCons b fun b c=>asAgg b fun b=>Xl b fun b d f=>Xe c fun c g=>nw Zo fun h=>sC h (Wk b d f) (iB (g !=0) (re 0 [nI a]) (Yy h fun b d f=>.act (mup (.int .i64) D (nI a) (Wj b d f)) fun b=>asTuple b fun b=>asNil b (rn [(nI (wi64 (a+c)))]))))) (T29k0)) (re 0 [nI a])
noncomputable def T29k1 (A:Option Nat):TK:=
 Vx A
noncomputable def T29 (A:Option Addr) (B C:Nat):Pg:=
 .act makeMapAct fun a=>asMap a fun a=>.loop [nI 0] (T29b0 B C A a) (T29k1 a)
theorem T29_eq (A:Option Addr) (B C:Nat):progOf PROG false 29 [.slice A B C]=T29 A B C:=by kernel_rfl
noncomputable def T30 (A B C:Int):Pg:=
 nw (Wk A B C) fun a=>Yy a fun a b c=>qL 60 [.slice none 0 0,(Wj a b c)] fun _ a _=>rr [(nI (a:Int))]
theorem T30_eq (A B C:Int):progOf PROG false 30 [(.agg #[(.int .i64 A),(.int .i64 B),(.int .i64 C)])]=T30 A B C:=by kernel_rfl
noncomputable def T31k0:TK:=
 Vk
noncomputable def T31k1:TK:=
 Vk
noncomputable def T31k2:TK:=
 Vk
noncomputable def T31k3:TK:=
 Vk
noncomputable def T31k4:TK:=
 Vk
noncomputable def T31k5:TK:=
 Vk
noncomputable def T31k6:TK:=
 Vk
noncomputable def T31k7 (A:Addr) (B:Option Addr) (C:Int):TK:=
 fun a b=>sw a .normal (Xa b fun a=>iB a (Yy A fun a b c=>qI 64 [.pointer B,(Wj a b c)] fun a=>rr [nI a]) (iB (C==8) (lI (aadd A 1) fun a=>qI 65 (Wu B a) fun a=>rr [nI a]) (iB (C==9) (qI 66 [.pointer B] fun a=>rr [nI a]) (iB (C==20) (qI 67 [.pointer B] fun a=>rr [nI a]) (iB (C==13) (lI (aadd A 1) fun a=>qI 68 (Wu B a) fun a=>rr [nI a]) (rn [nI 0])))))) (.fail)
noncomputable def T31k8 (A:Addr) (B:Option Addr) (C:Int):TK:=
 fun a b=>sw a .normal (Xa b fun a=>iB a (Yy A fun a b c=>qI 61 [.pointer B,(Wj a b c)] fun a=>rr [nI a]) (iB (C==7) (.act (ld1 (aadd A 2)) fun a=>asInt .i64 a fun b=>lI (aadd A 1) fun c=>.call 63 [nI c] fun c=>asInt .u64 c fun c=>.get fun d=>grd (chks [((ld1 (aadd A 2)),a)] d) (bL 1 1 [.int .u64 c] fun c d f=>.get fun g=>grd (chks [((ld1 (aadd A 2)),a)] g) (qI 62 [.pointer B,nI 2,nI 0,nI b,.slice c d f] fun a=>rr [nI a]))) (iB (C==14) (lI (aadd A 1) fun a=>lI (aadd A 2) fun b=>qI 62 [.pointer B,nI 1,nI a,nI b,.slice none 0 0] fun a=>rr [nI a]) (iB (C==15) (qI 62 [.pointer B,nI 3,nI 0,nI 1,.slice none 0 0] fun a=>rr [nI a]) (.join (iB (C==11) (rn [(.bool (C==11))]) (.join (iB (C==12) (rn [(.bool (C==12))]) (.join (iB (C==26) (rn [(.bool (C==26))]) (rn [(.bool (C==27))])) (T31k5))) (T31k6))) (T31k7 A B C)))))) (.fail)
noncomputable def T31k9 (A:Addr) (B:Option Addr):TK:=
 fun a b=>sw a .ret (Xd b fun a=>rr [nI a]) (sw a .normal (Xd b fun _=>Yy A fun a b c=>qI 69 [.pointer B,(Wj a b c)] fun a=>rr [nI a]) (.fail))
noncomputable def T31 (A:Option Addr) (B C D:Int):Pg:=
 nw (Wk B C D) fun a=>lI (aadd a 0) fun b=>.join (iB (b==29) (rr [nI 0]) (.join (iB (b==2) (rn [(.bool (b==2))]) (.join (iB (b==3) (rn [(.bool (b==3))]) (.join (iB (b==4) (rn [(.bool (b==4))]) (.join (iB (b==5) (rn [(.bool (b==5))]) (.join (iB (b==23) (rn [(.bool (b==23))]) (.join (iB (b==25) (rn [(.bool (b==25))]) (rn [(.bool (b==16))])) (T31k0))) (T31k1))) (T31k2))) (T31k3))) (T31k4))) (T31k8 a A b))) (T31k9 a A)
theorem T31_eq (A:Option Addr) (B C D:Int):progOf PROG false 31 [(.pointer A),(.agg #[(.int .i64 B),(.int .i64 C),(.int .i64 D)])]=T31 A B C D:=by kernel_rfl
noncomputable def T32 (A:Option Addr):Pg:=
 asSome A fun a=>lL (aadd a 1) fun a b c=>qL 28 [.slice a b c] fun a b c=>rr [.slice a b c]
theorem T32_eq (A:Option Addr):progOf PROG false 32 [(.pointer A)]=T32 A:=by kernel_rfl
noncomputable def T33 (A:Option Addr):Pg:=
 asSome A fun a=>lI (aadd a 2) fun a=>asSome A fun b=>lL (aadd b 1) fun _ b _=>rr [(.tuple #[nI a,(nI (b:Int))])]
theorem T33_eq (A:Option Addr):progOf PROG false 33 [(.pointer A)]=T33 A:=by kernel_rfl
noncomputable def T34k0 (A B C D:Addr):TK:=
 fun a b=>sw a .normal (Xd b fun a=>Yw A fun b c d f g h=>.act (ldN 7 B) fun i=>asAgg i fun j=>Xt j fun j k l m n o p q r s t u v w x=>sC C (Wa b c d f g h) (.get fun b=>grd (chks [((ldN 7 B),i)] b) (sC D (Wg j k l m n o p q r s t u v w x) (.act (ldN 2 C) fun b=>.act (ldN 7 D) fun c=>rr [(.tuple #[b,c,nI a])])))) (.fail)
noncomputable def T34 (A:ByteArray):Pg:=
 nw Zk fun a=>nw Zl fun b=>qT 17 [.string A] fun c=>asCons c fun c d=>asAgg c fun c=>Xf c fun c f g h i j=>Xe d fun d _=>nw Zk fun k=>sC k (Wa c f g h i j) (iB (d !=0) (Yw k fun c f g h i j=>sC a (Wa c f g h i j) (sC b Zl (.act (ldN 2 a) fun a=>.act (ldN 7 b) fun b=>rr [(.tuple #[a,b,nI d])]))) (Yw k fun c d f g h i=>qT 18 [(We c d f g h i)] fun c=>asCons c fun c d=>asAgg c fun c=>Xt c fun c f g h i j l m n o p q r s t=>Xe d fun d _=>nw Zl fun u=>sC u (Wg c f g h i j l m n o p q r s t) (.join (iB (d==0) (Yw k fun a b c d f g=>qT 19 [(We a b c d f g)] fun a=>Xe a fun a _=>rn [nI a]) (rn [nI d])) (T34k0 k u a b))))
theorem T34_eq (A:ByteArray):progOf PROG false 34 [.string A]=T34 A:=by kernel_rfl
noncomputable def T35k0 (A:Int):TK:=
 Vm A
noncomputable def T35b0 (A:Nat) (B:Option Addr) (C:Option Nat):TB:=
 fun a=>Xd a fun a=>iB (decide (a<(A:Int))) (.join (asSome B fun b=>ix a A (lI (aadd b ((Int.toNat a)*1)) fun b=>qS 71 [nI a] fun a=>.act (mup (.int .i64) C (nI b) (.string a)) fun a=>asTuple a fun a=>asNil a (rn []))) (T35k0 a)) (re 0 [nI a])
noncomputable def T35k1 (A:Addr) (B:Option Nat):TK:=
 fun a b=>sw a (.exit 0) (Xd b fun _=>Yz A fun a b c d f g=>qS 72 [(Wl a b c d f g),.map B] fun a=>rr [.string a]) (.fail)
noncomputable def T35 (A:Int) (B:ByteArray) (C:Int) (D:Option Addr) (E F:Nat):Pg:=
 nw (Wo A B C D E F) fun a=>.act makeMapAct fun b=>asMap b fun b=>Yz a fun c d f g h i=>qL 70 [(Wl c d f g h i)] fun c d _=>.loop [nI 0] (T35b0 d c b) (T35k1 a b)
theorem T35_eq (A:Int) (B:ByteArray) (C:Int) (D:Option Addr) (E F:Nat):progOf PROG false 35 [(.agg #[(.int .i64 A),.string B,(.int .i64 C),.slice D E F])]=T35 A B C D E F:=by kernel_rfl
noncomputable def T36k0 (A:Addr):TK:=
 fun a b=>sw a .ret (Yi b fun a b c d f=>rr (Va b c d f a)) (sw a .normal (Yi b fun a b c d f=>lS (aadd A 1) fun g=>sC (aadd A 2) [nI a] (sC (aadd A 3) [(nI (wi64 (a+((g.size:Nat):Int))))] (lA 4 A fun a=>Xi a fun a g h i=>bL 4 1 (Vb a g h i) fun a g h=>.act (apS 4 40 c d f a g h) fun a=>asSlice a fun a c d=>lI (aadd A 3) fun f=>rn (Va b a c d f)))) (.fail))
noncomputable def T36k1 (A:Option Addr) (B C:Nat) (D:Bool) (E F:Int) (G:ByteArray) (H:Int):TK:=
 fun a b=>sw a .normal (Xa b fun a=>iB a (rr (Va 0 A B C 0)) (iB (!D) (rr (Va 3 none 0 0 (wi64 (E+F)))) (grd (((decide (0≤(wi64 (E+F))))&&(decide ((wi64 (E+F))≤((G.size:Nat):Int))))&&(decide (((G.size:Nat):Int)≤((G.size:Nat):Int)))) (qA 74 [(.string (G.extract (Int.toNat (wi64 (E+F))) G.size))] fun a=>Xi a fun a b c d=>nw Zt fun f=>sC f (Vb a b c d) (.join (lI (aadd f 0) fun a=>iB (a==0) (rr (Wz (wi64 (E+F)) 3 none 0 0)) (iB (decide ((B:Int)≥2000)) (rr (Wz (wi64 (E+F)) 2 none 0 0)) (rn (Wz (wi64 (E+F)) H A B C)))) (T36k0 f)))))) (.fail)
noncomputable def T36k2:TK:=
 fun a b=>sw a .ret (Ya b fun a b c d f=>rr (Va a b c d f)) (sw a .normal (Ya b fun a b c d f=>rn (Va a b c d f)) (.fail))
noncomputable def T36b0 (A:ByteArray):TB:=
 fun a=>Ya a fun a b c d f=>.join (grd (((decide (0≤f))&&(decide (f≤((A.size:Nat):Int))))&&(decide (((A.size:Nat):Int)≤((A.size:Nat):Int)))) (qT 73 [(.string (A.extract (Int.toNat f) A.size))] fun g=>Xg g fun g h=>.join (iB (h==true) (rn [(.bool ((wi64 (f+g))==((A.size:Nat):Int)))]) (rn [.bool false])) (T36k1 b c d h f g A a))) (T36k2)
noncomputable def T36k3:TK:=
 fun a b=>sw a .ret (Ya b fun a b c d f=>rr [(.tuple #[.slice b c d,nI a,nI f])]) (.fail)
noncomputable def T36 (A:ByteArray):Pg:=
 iB (decide (((A.size:Nat):Int)>4000)) (rr [(.tuple #[.slice none 0 0,nI 2,nI 0])]) (.loop (Va 0 none 0 0 0) (T36b0 A) (T36k3))
theorem T36_eq (A:ByteArray):progOf PROG false 36 [.string A]=T36 A:=by kernel_rfl
noncomputable def T37k0:TK:=
 Vn
noncomputable def T37 (A:Option Addr) (B:Int) (C:ByteArray):Pg:=
 asSome A fun a=>lI (aadd a 2) fun a=>.join (asSome A fun b=>lL (aadd b 0) fun _ b _=>iB ((decide ((wi64 (a+B))<(b:Int)))==true) (asSome A fun b=>lL (aadd b 0) fun b c _=>asSome b fun b=>grd ((decide (0≤(wi64 (a+B))))&&(decide ((wi64 (a+B))<(c:Int)))) (lI (aadd (aadd b ((Int.toNat (wi64 (a+B)))*4)) 0) fun b=>iB ((b==4)==false) (asSome A fun b=>lL (aadd b 0) fun b c _=>asSome b fun b=>grd ((decide (0≤(wi64 (a+B))))&&(decide ((wi64 (a+B))<(c:Int)))) (lI (aadd (aadd b ((Int.toNat (wi64 (a+B)))*4)) 0) fun b=>iB ((b==5)==true) (asSome A fun b=>lL (aadd b 0) fun b c _=>asSome b fun b=>grd ((decide (0≤(wi64 (a+B))))&&(decide ((wi64 (a+B))<(c:Int)))) (lS (aadd (aadd b ((Int.toNat (wi64 (a+B)))*4)) 1) fun a=>rn [(.bool (a.toList==C.toList))])) (rn [.bool false]))) (asSome A fun b=>lL (aadd b 0) fun b c _=>asSome b fun b=>grd ((decide (0≤(wi64 (a+B))))&&(decide ((wi64 (a+B))<(c:Int)))) (lS (aadd (aadd b ((Int.toNat (wi64 (a+B)))*4)) 1) fun a=>rn [(.bool (a.toList==C.toList))])))) (rn [.bool false])) (T37k0)
theorem T37_eq (A:Option Addr) (B:Int) (C:ByteArray):progOf PROG false 37 [(.pointer A),(.int .i64 B),.string C]=T37 A B C:=by kernel_rfl
noncomputable def T39 (A:Option Addr):Pg:=
 .call 79 [.pointer A] fun a=>asPtr a fun a=>qB 37 (Wm A 0 (bs [59])) fun b=>iB (!b) (rr [.pointer a]) (qA 75 [.pointer A] fun b=>Xi b fun _ _ _ _=>asSome a fun b=>.act (ld1 (aadd (aadd b 0) 5)) fun c=>asInt .i64 c fun d=>.call 39 [.pointer A] fun f=>asPtr f fun f=>.get fun g=>grd (chks [((ld1 (aadd (aadd b 0) 5)),c)] g) (bL 1 2 [.pointer a,.pointer f] fun a f g=>.get fun h=>grd (chks [((ld1 (aadd (aadd b 0) 5)),c)] h) (.call 80 (Wz 12 d a f g) fun a=>asPtr a fun a=>rr [.pointer a])))
theorem T39_eq (A:Option Addr):progOf PROG false 39 [(.pointer A)]=T39 A:=by kernel_rfl
noncomputable def T41k0 (A:Int):TK:=
 Vm A
noncomputable def T41b0 (A:Nat) (B C:Option Addr) (D:Int) (E:Option Addr) (F:Nat):TB:=
 fun a=>Xd a fun a=>iB (decide (a<(A:Int))) (.join (asSome B fun b=>ix a A (.act (ld1 (aadd b ((Int.toNat a)*1))) fun a=>asPtr a fun a=>qI 41 [.pointer C,.pointer a,(nI (wi64 (D+1))),.pointer E] fun a=>asSome C fun b=>.act (ld1 (aadd b 0)) fun c=>asSlice c fun d f _=>asSome C fun g=>.act (ld1 (aadd g 0)) fun h=>asSlice h fun i j _=>asSome i fun i=>grd (decide ((F:Int)<(j:Int))) (.act (ld1 (aadd (aadd i (F*7)) 4)) fun j=>asSlice j fun k l m=>bL 1 1 [nI a] fun a n o=>.get fun p=>grd (chks [((ld1 (aadd (aadd i (F*7)) 4)),j),((ld1 (aadd g 0)),h),((ld1 (aadd b 0)),c)] p) (.act (apS 1 8 k l m a n o) fun a=>asSlice a fun a g h=>.get fun i=>grd (chks [((ld1 (aadd b 0)),c)] i) (asSome d fun b=>grd (decide ((F:Int)<(f:Int))) (sC (aadd (aadd b (F*7)) 4) [.slice a g h] (rn []))))))) (T41k0 a)) (re 0 [nI a])
noncomputable def T41k1 (A:Nat):TK:=
 fun a b=>sw a (.exit 0) (Xd b fun _=>rr [(nI (A:Int))]) (.fail)
noncomputable def T41k2 (A B:Option Addr) (C:Int) (D:Option Addr) (E:Nat):TK:=
 fun a b=>sw a .normal (asNil b (asSome A fun a=>.act (ld1 (aadd a 0)) fun b=>asSlice b fun c d f=>asSome B fun g=>Za (aadd g 0) fun g h i j k l m n o=>bL 7 1 (Ws g h i j k l m n o) fun g h i=>.get fun j=>grd (chks [((ld1 (aadd a 0)),b)] j) (.act (apS 7 88 c d f g h i) fun a=>asSlice a fun a b c=>asSome A fun d=>sC (aadd d 0) [.slice a b c] (asSome B fun a=>lL (aadd a 7) fun a b _=>.loop [nI 0] (T41b0 b a A C D E) (T41k1 E))))) (.fail)
noncomputable def T41 (A B:Option Addr) (C:Int) (D:Option Addr):Pg:=
 asSome A fun a=>lL (aadd a 0) fun _ a _=>asSome D fun b=>.act (ld1 b) fun b=>asPtr b fun b=>.join (iB ((Option.isNone b)&&((decide ((a:Int)≥1000))||(decide (C≥60)))) (asSome D fun a=>sC a [.pointer B] (rn [])) (rn [])) (T41k2 A B C D a)
theorem T41_eq (A B:Option Addr) (C:Int) (D:Option Addr):progOf PROG false 41 [(.pointer A),(.pointer B),(.int .i64 C),(.pointer D)]=T41 A B C D:=by kernel_rfl
noncomputable def T42k0 (A:Bool):TK:=
 Vy A
noncomputable def T42k1 (A:Int):TK:=
 Vr A
noncomputable def T42b0 (A:Nat) (B:Option Addr) (C:Addr):TB:=
 fun a=>Xg a fun a b=>iB (decide (a<(A:Int))) (.join (asSome B fun c=>ix a A (Za (aadd c ((Int.toNat a)*7)) fun c d f g h i j k l=>nw Zq fun m=>sC m (Ws c d f g h i j k l) (.join (lI (aadd m 0) fun b=>qB 83 [nI b] fun b=>iB (b==true) (Yw C fun b c d f g h=>qL 85 [(We b c d f g h),nI a] fun a b c=>qB 84 [.slice a b c] fun a=>rn [.bool a]) (rn [.bool false])) (T42k0 b)))) (T42k1 a)) (re 0 (Wd a b))
noncomputable def T42k2:TK:=
 Vt
noncomputable def T42k3 (A:Addr):TK:=
 fun a b=>sw a .normal (Xa b fun a=>iB a (rr [.bool false]) (lL (aadd A 0) fun a b _=>.loop Zi (T42b0 b a A) (T42k2))) (.fail)
noncomputable def T42k4 (A:Addr):TK:=
 fun a b=>sw a .normal (Xa b fun a=>iB a (rr [.bool false]) (Yw A fun a b c d f g=>nw [.slice a b c,.slice d f g,nI 0] fun a=>.join (qB 82 [(.pointer (some a)),.bool false,nI 0] fun b=>iB ((!b)==false) (lI (aadd a 2) fun a=>lL (aadd A 0) fun _ b _=>rn [(.bool (a !=(b:Int)))]) (rn [.bool true])) (T42k3 A))) (.fail)
noncomputable def T42 (A:Option Addr) (B C:Nat) (D:Option Addr) (E F:Nat):Pg:=
 nw (Wa A B C D E F) fun a=>.join (lL (aadd a 0) fun _ b _=>iB ((decide ((b:Int)<1))==false) (lL (aadd a 0) fun _ b _=>iB ((decide ((b:Int)>1000))==false) (lL (aadd a 1) fun a b c=>qB 81 [.slice a b c] fun a=>rn [(.bool (!a))]) (rn [.bool true])) (rn [.bool true])) (T42k4 a)
theorem T42_eq (A:Option Addr) (B C:Nat) (D:Option Addr) (E F:Nat):progOf PROG false 42 [(.agg #[.slice A B C,.slice D E F])]=T42 A B C D E F:=by kernel_rfl
noncomputable def T43:Pg:=
 .act makeMapAct fun a=>asMap a fun a=>nw [nI 0,.map a] fun a=>rr [(.pointer (some a))]
theorem T43_eq:progOf PROG false 43 []=T43:=by kernel_rfl
noncomputable def T44k0:TK:=
 Vk
noncomputable def T44k1:TK:=
 Vk
noncomputable def T44k2:TK:=
 Vk
noncomputable def T44k3:TK:=
 Vk
noncomputable def T44k4:TK:=
 Vk
noncomputable def T44k5:TK:=
 Vk
noncomputable def T44k6:TK:=
 Vk
noncomputable def T44k7:TK:=
 Vk
noncomputable def T44k8:TK:=
 Vl
noncomputable def T44k9 (A:Addr) (B:Option Addr) (C:Int) (D:Option Addr) (E:Addr):TK:=
 fun a b=>sw a .normal (Xa b fun a=>.join (iB a (Za A fun a b c d f g h i j=>qA 88 [.pointer B,nI C,(Vc a b c d f g h i j),.pointer D] fun a=>Xb a fun a b c d f g=>sC E (Wo a b c d f g) (rn [])) (Za A fun a b c d f g h i j=>qA 89 [.pointer B,(Vc a b c d f g h i j),.pointer D] fun a=>Xb a fun a b c d f g=>sC E (Wo a b c d f g) (rn []))) (T44k8)) (.fail)
noncomputable def T44k10:TK:=
 Vl
noncomputable def T44k11 (A:Addr) (B:Option Addr) (C:Int) (D:Option Addr) (E:Addr) (F:Int):TK:=
 fun a b=>sw a .normal (Xa b fun a=>.join (iB a (Za A fun a b c d f g h i j=>qA 87 [.pointer B,nI C,(Vc a b c d f g h i j),.pointer D] fun a=>Xb a fun a b c d f g=>sC E (Wo a b c d f g) (rn [])) (.join (iB (F==1) (rn [(.bool (F==1))]) (.join (iB (F==2) (rn [(.bool (F==2))]) (.join (iB (F==3) (rn [(.bool (F==3))]) (.join (iB (F==4) (rn [(.bool (F==4))]) (.join (iB (F==5) (rn [(.bool (F==5))]) (rn [(.bool (F==18))])) (T44k4))) (T44k5))) (T44k6))) (T44k7))) (T44k9 A B C D E))) (T44k10)) (.fail)
noncomputable def T44k12 (A:Option Addr) (B:Addr) (C:Int) (D:Addr):TK:=
 fun a b=>sw a .normal (asNil b (asSome A fun a=>lL (aadd (aadd a 3) 0) fun a b _=>Yz B fun c d f g h i=>asSome a fun a=>ix C b (sC (aadd a ((Int.toNat C)*4)) (Wo c d f g h i) (Yz B fun a b c d f g=>sC D (Wo a b c d f g) (.act (ldN 4 D) fun a=>rr [a]))))) (.fail)
noncomputable def T44 (A:Option Addr) (B:Int) (C:Option Addr):Pg:=
 nw Zp fun a=>asSome A fun b=>lI (aadd b 10) fun b=>iB (b !=0) (qA 86 Zu fun b=>Xb b fun b c d f g h=>sC a (Wo b c d f g h) (.act (ldN 4 a) fun a=>rr [a])) (asSome A fun b=>lL (aadd (aadd b 0) 0) fun b c _=>asSome b fun b=>ix B c (Za (aadd b ((Int.toNat B)*7)) fun b c d f g h i j k=>nw Zq fun l=>sC l (Ws b c d f g h i j k) (nw Zp fun b=>lI (aadd l 0) fun c=>.join (.join (iB (c==6) (rn [(.bool (c==6))]) (.join (iB (c==7) (rn [(.bool (c==7))]) (.join (iB (c==8) (rn [(.bool (c==8))]) (.join (iB (c==9) (rn [(.bool (c==9))]) (.join (iB (c==11) (rn [(.bool (c==11))]) (rn [(.bool (c==20))])) (T44k0))) (T44k1))) (T44k2))) (T44k3))) (T44k11 l A B C b c)) (T44k12 A b B a))))
theorem T44_eq (A:Option Addr) (B:Int) (C:Option Addr):progOf PROG false 44 [(.pointer A),(.int .i64 B),(.pointer C)]=T44 A B C:=by kernel_rfl
noncomputable def T45 (A:Option Addr) (B:Int) (C:ByteArray) (D:Int) (E:Option Addr) (F G:Nat):Pg:=
 nw (Wo B C D E F G) fun a=>nw Zp fun b=>Yz a fun c d f g h i=>qB 90 [(Wl c d f g h i)] fun c=>iB (!c) (Yz a fun a c d f g h=>sC b (Wo a c d f g h) (.act (ldN 4 b) fun a=>rr [a])) (Yz a fun a c d f g h=>qA 91 [.pointer A,(Wl a c d f g h)] fun a=>Xb a fun a c d f g h=>sC b (Wo a c d f g h) (.act (ldN 4 b) fun a=>rr [a]))
theorem T45_eq (A:Option Addr) (B:Int) (C:ByteArray) (D:Int) (E:Option Addr) (F G:Nat):progOf PROG false 45 [(.pointer A),(.agg #[(.int .i64 B),.string C,(.int .i64 D),.slice E F G])]=T45 A B C D E F G:=by kernel_rfl
noncomputable def T47k0 (A:Addr) (B:Option Addr) (C D:Nat):TK:=
 fun a b=>sw a .normal (asNil b (Zc A fun a b c d f g h=>bL 5 1 (Vd a b c d f g h) fun a b c=>.act (apS 5 72 B C D a b c) fun a=>asSlice a fun a b c=>rn [.slice a b c])) (.fail)
noncomputable def T47k1 (A:Int):TK:=
 Vo A
noncomputable def T47b0 (A:Nat) (B:Option Addr) (C:Addr):TB:=
 fun a=>Xj a fun a b c d=>iB (decide (a<(A:Int))) (.join (asSome B fun f=>ix a A (Za (aadd f ((Int.toNat a)*7)) fun f g h i j k l m n=>nw Zq fun o=>sC o (Ws f g h i j k l m n) (lI (aadd o 0) fun f=>qB 96 [nI f] fun f=>iB (!f) (rn [.slice b c d]) (.get fun f=>.act (ld1 (aadd o 3)) fun g=>asStr g fun h=>Yw C fun i j k l m n=>.act (ldN 2 C) fun p=>asAgg p fun q=>Xf q fun q r s t u v=>.get fun w=>grd (newN f.n w []) (nw Zv fun f=>.get fun x=>qL 97 [(We i j k l m n),nI a] fun i j k=>.get fun l=>grd (chks [((ldN 2 C),p),((ld1 (aadd o 3)),g)] l) (.get fun l=>grd (chkO [(w.n,(x.get w.n))] l) (qL 95 [(We q r s t u v),nI a] fun _ l _=>.get fun m=>grd (chks [((ld1 (aadd o 3)),g)] m) (.get fun g=>grd (chkO [(w.n,(x.get w.n))] g) (sC f (Vd a (bs []) h i j k (l:Int)) (lI (aadd o 0) fun a=>.join (iB (a==9) (lS (aadd o 2) fun a=>sC (aadd f 1) [.string a] (rn [])) (rn [])) (T47k0 f b c d))))))))))) (T47k1 a)) (re 0 (Wv a b c d))
noncomputable def T47k2:TK:=
 Vs
noncomputable def T47 (A:Option Addr) (B C:Nat) (D:Option Addr) (E F:Nat):Pg:=
 nw (Wa A B C D E F) fun a=>Yw a fun b c d f g h=>qB 42 [(We b c d f g h)] fun b=>iB (!b) (rr [.slice none 0 0]) (Yw a fun b c d f g h=>qL 95 [(We b c d f g h),(nI (-1))] fun _ b _=>bL 5 1 (Vd (-1) (bs []) (bs []) none 0 0 (b:Int)) fun b c d=>lL (aadd a 0) fun f g _=>.loop (Wv 0 b c d) (T47b0 g f a) (T47k2))
theorem T47_eq (A:Option Addr) (B C:Nat) (D:Option Addr) (E F:Nat):progOf PROG false 47 [(.agg #[.slice A B C,.slice D E F])]=T47 A B C D E F:=by kernel_rfl
noncomputable def T48k0:TK:=
 Vl
noncomputable def T48k1 (A:Int):TK:=
 Vm A
noncomputable def T48b0 (A:Nat) (B:Option Addr) (C:Addr) (D:Option Nat):TB:=
 fun a=>Xd a fun a=>iB (decide (a<(A:Int))) (.join (asSome B fun b=>ix a A (lI (aadd b ((Int.toNat a)*1)) fun b=>lI (aadd C 0) fun c=>.join (iB (b !=c) (.act (mup (.int .i64) D (nI b) (nI a)) fun a=>asTuple a fun a=>asNil a (rn [])) (rn [])) (T48k0))) (T48k1 a)) (re 2 [nI a])
noncomputable def T48k2:TK:=
 Vu
noncomputable def T48k3 (A:Int):TK:=
 Vm A
noncomputable def T48b1 (A:Nat) (B:Option Addr) (C:Addr) (D:Option Nat):TB:=
 fun a=>Xd a fun a=>iB (decide (a<(A:Int))) (.join (asSome B fun b=>ix a A (Zc (aadd b ((Int.toNat a)*5)) fun a b c d f g h=>nw Zv fun i=>sC i (Vd a b c d f g h) (Yw C fun a b c d f g=>lI (aadd i 0) fun h=>qL 98 [(We a b c d f g),nI h] fun a b _=>.loop [nI 0] (T48b0 b a i D) (T48k2)))) (T48k3 a)) (re 0 [nI a])
noncomputable def T48k4 (A:Option Nat):TK:=
 Vx A
noncomputable def T48 (A:Option Addr) (B C:Nat) (D:Option Addr) (E F:Nat):Pg:=
 nw (Wa A B C D E F) fun a=>.act makeMapAct fun b=>asMap b fun b=>Yw a fun c d f g h i=>qL 47 [(We c d f g h i)] fun c d _=>.loop [nI 0] (T48b1 d c a b) (T48k4 b)
theorem T48_eq (A:Option Addr) (B C:Nat) (D:Option Addr) (E F:Nat):progOf PROG false 48 [(.agg #[.slice A B C,.slice D E F])]=T48 A B C D E F:=by kernel_rfl
noncomputable def T49 (A:Option Addr):Pg:=
 asSome A fun a=>lI (aadd a 4) fun a=>asSome A fun b=>sC (aadd b 4) [(nI (wi64 (a+1)))] (asSome A fun a=>lI (aadd a 4) fun a=>rr [nI a])
theorem T49_eq (A:Option Addr):progOf PROG false 49 [(.pointer A)]=T49 A:=by kernel_rfl
noncomputable def T50 (A:Option Addr) (B:Int):Pg:=
 asSome A fun a=>lL (aadd a 2) fun a b _=>asSome a fun a=>ix B b (Zc (aadd a ((Int.toNat B)*5)) fun a b c d f g h=>nw Zv fun i=>sC i (Vd a b c d f g h) (asSome A fun a=>lL (aadd a 5) fun a b _=>asSome a fun a=>ix B b (lI (aadd a ((Int.toNat B)*1)) fun a=>qT 99 (Wu A a) fun a=>asNil a (lI (aadd i 0) fun a=>iB (decide (a<0)) (lI (aadd i 4) fun a=>qT 100 (Ve A 1 a 0) fun a=>asNil a (qT 101 (Wu A 0) fun a=>asNil a (qT 100 (Ve A 10 0 0) fun a=>asNil a (rr [(.tuple #[])])))) (asSome A fun a=>lL (aadd (aadd a 0) 0) fun a b _=>lI (aadd i 0) fun c=>asSome a fun a=>ix c b (lL (aadd (aadd a ((Int.toNat c)*7)) 4) fun a b _=>asSome a fun a=>grd (decide (0<(b:Int))) (lI (aadd a 0) fun a=>qT 101 (Wu A a) fun a=>asNil a (qT 100 (Ve A 9 0 0) fun a=>asNil a (rr [(.tuple #[])])))))))))
theorem T50_eq (A:Option Addr) (B:Int):progOf PROG false 50 [(.pointer A),(.int .i64 B)]=T50 A B:=by kernel_rfl
noncomputable def T51k0:TK:=
 Vl
noncomputable def T51k1 (A B:Addr) (C:Option Addr):TK:=
 fun a b=>sw a .normal (asNil b (lI (aadd (aadd A 0) 0) fun a=>.join (iB (decide (a>0)) (.act (ld1 (aadd B 0)) fun a=>asSlice a fun b c d=>Zd A fun f g h i j k l=>qA 104 [.pointer C,(.agg #[nI f,nI g,nI h,nI i,nI j,nI k,nI l])] fun f=>Xl f fun f g h=>.get fun i=>grd (chks [((ld1 (aadd B 0)),a)] i) (qL 60 [.slice b c d,(Wj f g h)] fun a b c=>sC (aadd B 0) [.slice a b c] (rn []))) (rn [])) (T51k0))) (.fail)
noncomputable def T51k2 (A:Int):TK:=
 Vm A
noncomputable def T51b0 (A:Nat) (B:Option Addr) (C:Addr) (D:Option Addr):TB:=
 fun a=>Xd a fun a=>iB (decide (a<(A:Int))) (.join (asSome B fun b=>ix a A (Zd (aadd b ((Int.toNat a)*7)) fun b c d f g h i=>nw (Vf 0 0 0 0 0 0 0) fun j=>sC j (Vf b c d f g h i) (lI (aadd j 6) fun b=>.join (iB (decide (b≥0)) (.act (ld1 (aadd C 1)) fun b=>asSlice b fun c d f=>asSome D fun g=>lL (aadd g 1) fun g h _=>asSome g fun g=>ix a h (lI (aadd g ((Int.toNat a)*1)) fun a=>lI (aadd j 6) fun g=>bL 2 1 (Wh a g) fun a g h=>.get fun i=>grd (chks [((ld1 (aadd C 1)),b)] i) (.act (apS 2 16 c d f a g h) fun a=>asSlice a fun a b c=>sC (aadd C 1) [.slice a b c] (rn [])))) (rn [])) (T51k1 j C D)))) (T51k2 a)) (re 0 [nI a])
noncomputable def T51k3 (A:Int):TK:=
 Vm A
noncomputable def T51b1 (A:Nat) (B:Option Addr) (C:Addr) (D E:Option Addr):TB:=
 fun a=>Xd a fun a=>iB (decide (a<(A:Int))) (.join (asSome B fun b=>ix a A (Zc (aadd b ((Int.toNat a)*5)) fun b c d f g h i=>nw Zv fun j=>sC j (Vd b c d f g h i) (.act (ld1 (aadd C 2)) fun b=>asSlice b fun c d f=>lI (aadd j 0) fun g=>asSome D fun h=>.act (ld1 (aadd h 2)) fun h=>asMap h fun h=>asSome E fun i=>lL (aadd i 5) fun i k _=>asSome i fun i=>ix a k (lI (aadd i ((Int.toNat a)*1)) fun a=>.act (lkp (.int .i64) (nI 0) h (nI a) false) fun a=>asInt .i64 a fun a=>lI (aadd j 4) fun h=>lL (aadd j 3) fun _ i _=>bL 4 1 [nI g,nI a,nI h,(nI (i:Int))] fun a g h=>.get fun i=>grd (chks [((ld1 (aadd C 2)),b)] i) (.act (apS 4 32 c d f a g h) fun a=>asSlice a fun a b c=>sC (aadd C 2) [.slice a b c] (rn [])))))) (T51k3 a)) (re 2 [nI a])
noncomputable def T51k4 (A B:Addr):TK:=
 fun a b=>sw a (.exit 2) (Xd b fun _=>lL (aadd A 1) fun a b c=>qT 105 [.slice a b c,(.func (.func 106) #[] #[])] fun a=>asNil a (lA 4 A fun a=>Xy a fun a b c d f g h i j k l m=>sC B (Wf a b c d f g h i j k l m) (.act (ldN 4 B) fun a=>rr [a]))) (.fail)
noncomputable def T51k5 (A:Option Addr) (B:Addr) (C:Option Addr) (D:Addr):TK:=
 fun a b=>sw a (.exit 0) (Xd b fun _=>asSome A fun a=>lL (aadd a 2) fun a b _=>.loop [nI 0] (T51b1 b a B C A) (T51k4 B D)) (.fail)
noncomputable def T51 (A:Option Addr):Pg:=
 nw Zj fun a=>asSome A fun b=>lL (aadd b 3) fun b c d=>.call 102 [.slice b c d] fun b=>asPtr b fun b=>asSome A fun c=>Yw (aadd c 0) fun c d f g h i=>qL 103 [(We c d f g h i)] fun c d f=>nw Zj fun g=>sC g (Wf none 0 0 none 0 0 none 0 0 c d f) (asSome A fun c=>lL (aadd c 3) fun c d _=>.loop [nI 0] (T51b0 d c g b) (T51k5 A g b a))
theorem T51_eq (A:Option Addr):progOf PROG false 51 [(.pointer A)]=T51 A:=by kernel_rfl
noncomputable def T52k0:TK:=
 fun a b=>sw a .normal (Xe b fun a b=>rn (Wh b a)) (.fail)
noncomputable def T52k1:TK:=
 fun a b=>sw a (.exit 0) (Xe b fun a b=>re 0 (Wh a b)) (sw a .normal (Xe b fun a b=>rn (Wh a b)) (.fail))
noncomputable def T52b0 (A:Addr) (B:Int) (C:ByteArray):TB:=
 fun a=>Xe a fun a b=>.act (nxt (some A)) fun c=>asNx c (fun c d=>.join (iB (decide (c≥(minV (maxV B 0) ((C.size:Nat):Int)))) (re 0 (Wh a b)) (.join (iB (d==10) (rn (Wh 1 (wi64 (a+1)))) (rn (Wh (wi64 (b+1)) a))) (T52k0))) (T52k1)) (re 0 (Wh a b))
noncomputable def T52k2:TK:=
 fun a b=>sw a (.exit 0) (Xe b fun a b=>rr [(.tuple #[nI a,nI b])]) (.fail)
noncomputable def T52 (A:ByteArray) (B:Int):Pg:=
 .act (rng A) fun a=>asPtr a fun a=>asSome a fun a=>.loop (Wh 1 1) (T52b0 a B A) (T52k2)
theorem T52_eq (A:ByteArray) (B:Int):progOf PROG false 52 [.string A,(.int .i64 B)]=T52 A B:=by kernel_rfl
noncomputable def T53k0 (A:Int):TK:=
 Vo A
noncomputable def T53b0 (A:Nat) (B:Option Addr) (C D:Addr):TB:=
 fun a=>Xj a fun a b c d=>iB (decide (a<(A:Int))) (.join (asSome B fun f=>ix a A (lS (aadd f ((Int.toNat a)*1)) fun a=>Yw (aadd C 1) fun f g h i j k=>lI (aadd D 1) fun l=>qT 109 [(We f g h i j k),nI l,.string a] fun f=>asCons f fun f g=>asAgg f fun f=>Xe f fun f h=>Xa g fun _=>nw Zm fun g=>sC g (Wh f h) (.act (ld1 (aadd D 0)) fun f=>asInt .i64 f fun h=>.act (ld1 (aadd D 0)) fun i=>asInt .i64 i fun j=>.act (ld1 (aadd g 0)) fun k=>asInt .i64 k fun l=>.act (ld1 (aadd g 1)) fun m=>asInt .i64 m fun n=>Yv C fun o p q r s t u v w x y z a0 a1 a2 a3 a4 a5 a6 a7 a8 a9 b0 b1 b2 b3 b4 b5 b6 b7 b8 b9 c0 c1 c2 c3 c4 c5 c6 c7=>lI (aadd D 1) fun c8=>qA 110 [(Wc o p q r s t u v w x y z a0 a1 a2 a3 a4 a5 a6 a7 a8 a9 b0 b1 b2 b3 b4 b5 b6 b7 b8 b9 c0 c1 c2 c3 c4 c5 c6 c7),nI c8,.string a] fun o=>Xb o fun o p q r s t=>.get fun u=>grd (chks [((ld1 (aadd g 1)),m),((ld1 (aadd g 0)),k),((ld1 (aadd D 0)),i),((ld1 (aadd D 0)),f)] u) (qS 35 [(Wl o p q r s t)] fun o=>.get fun p=>grd (chks [((ld1 (aadd g 1)),m),((ld1 (aadd g 0)),k),((ld1 (aadd D 0)),i),((ld1 (aadd D 0)),f)] p) (bL 6 1 (Ww h (wi64 (j+1)) a l n o) fun a f g=>.act (apS 6 64 b c d a f g) fun a=>asSlice a fun a b c=>rn [.slice a b c]))))) (T53k0 a)) (re 0 (Wv a b c d))
noncomputable def T53k1:TK:=
 Vs
noncomputable def T53 (A:ByteArray) (B:Option Addr) (C D:Nat) (E:Option Addr) (F G:Nat) (H:Option Addr) (I J:Nat) (K:Option Addr) (L M:Nat) (N:Option Addr) (O Q:Nat) (R:Int) (S:ByteArray) (U:Int) (V:Option Addr) (W X:Nat) (Y:Option Addr) (Z A1:Nat) (A2:Option Addr) (B1 B2:Nat) (C1:Option Addr) (C2 D1:Nat) (D2:Option Addr) (E1 E2:Nat) (F1:Option Addr) (F2 G1:Nat) (G2:Option Addr) (H1 H2:Nat) (I1 I2:Int):Pg:=
 nw (Wb A B C D E F G H I J K L M N O Q R S U V W X Y Z A1 A2 B1 B2 C1 C2 D1 D2 E1 E2 F1 F2 G1 G2 H1 H2) fun a=>nw (Wh I1 I2) fun b=>Yw (aadd a 1) fun c d f g h i=>lI (aadd b 1) fun j=>qL 108 [(We c d f g h i),nI j] fun c d _=>.loop Zs (T53b0 d c a b) (T53k1)
theorem T53_eq (A:ByteArray) (B:Option Addr) (C D:Nat) (E:Option Addr) (F G:Nat) (H:Option Addr) (I J:Nat) (K:Option Addr) (L M:Nat) (N:Option Addr) (O Q:Nat) (R:Int) (S:ByteArray) (U:Int) (V:Option Addr) (W X:Nat) (Y:Option Addr) (Z A1:Nat) (A2:Option Addr) (B1 B2:Nat) (C1:Option Addr) (C2 D1:Nat) (D2:Option Addr) (E1 E2:Nat) (F1:Option Addr) (F2 G1:Nat) (G2:Option Addr) (H1 H2:Nat) (I1 I2:Int):progOf PROG false 53 [(.agg #[.string A,.slice B C D,.slice E F G,.slice H I J,.slice K L M,.slice N O Q,(.int .i64 R),.string S,(.int .i64 U),.slice V W X,.slice Y Z A1,.slice A2 B1 B2,.slice C1 C2 D1,.slice D2 E1 E2,.slice F1 F2 G1,.slice G2 H1 H2]),(.agg #[(.int .i64 I1),(.int .i64 I2)])]=T53 A B C D E F G H I J K L M N O Q R S U V W X Y Z A1 A2 B1 B2 C1 C2 D1 D2 E1 E2 F1 F2 G1 G2 H1 H2 I1 I2:=by kernel_rfl
noncomputable def T54k0 (A:Int):TK:=
 Vp A
noncomputable def T54b0 (A:Nat) (B:Option Addr) (C:Value):TB:=
 fun a=>Xe a fun a b=>iB (decide (a<(A:Int))) (.join (asSome B fun c=>ix a A (Zb (aadd c ((Int.toNat a)*6)) fun c d f g h i=>asFunc C fun j k l=>.call j (k++[(.agg #[nI c,nI d,.string f,nI g,nI h,.string i])]++l) fun c=>asBool c fun c=>iB c (rr [nI a]) (rn [nI b]))) (T54k0 a)) (re 0 (Wh a b))
noncomputable def T54k1:TK:=
 Vq
noncomputable def T54 (A:Option Addr) (B C:Nat) (D:Value):Pg:=
 .loop Zm (T54b0 B A D) (T54k1)
theorem T54_eq (A:Option Addr) (B C:Nat) (D:Value):progOf PROG false 54 [.slice A B C,D]=T54 A B C D:=by kernel_rfl
noncomputable def T55 (A B:Int) (C:ByteArray) (D E:Int) (F:ByteArray) (G:Addr):Pg:=
 nw (Ww A B C D E F) fun a=>Zb a fun a b c d f g=>Zb G fun h i j k l m=>qB 56 [(.agg #[nI a,nI b,.string c,nI d,nI f,.string g]),(.agg #[nI h,nI i,.string j,nI k,nI l,.string m])] fun a=>rr [.bool a]
theorem T55_eq (A B:Int) (C:ByteArray) (D E:Int) (F:ByteArray) (G:Addr):progOf PROG false 55 [(.agg #[(.int .i64 A),(.int .i64 B),.string C,(.int .i64 D),(.int .i64 E),.string F]),(.pointer (some G))]=T55 A B C D E F G:=by kernel_rfl
noncomputable def T56k0:TK:=
 Vn
noncomputable def T56 (A B:Int) (C:ByteArray) (D E:Int) (F:ByteArray) (G H:Int) (I:ByteArray) (J K:Int) (L:ByteArray):Pg:=
 nw (Ww A B C D E F) fun a=>nw (Ww G H I J K L) fun b=>.join (lS (aadd a 2) fun c=>lS (aadd b 2) fun d=>iB ((c.toList==d.toList)==true) (lI (aadd a 3) fun c=>lI (aadd b 3) fun d=>iB ((c==d)==true) (lI (aadd a 4) fun c=>lI (aadd b 4) fun d=>iB ((c==d)==true) (lS (aadd a 5) fun a=>lS (aadd b 5) fun b=>rn [(.bool (a.toList==b.toList))]) (rn [.bool false])) (rn [.bool false])) (rn [.bool false])) (T56k0)
theorem T56_eq (A B:Int) (C:ByteArray) (D E:Int) (F:ByteArray) (G H:Int) (I:ByteArray) (J K:Int) (L:ByteArray):progOf PROG false 56 [(.agg #[(.int .i64 A),(.int .i64 B),.string C,(.int .i64 D),(.int .i64 E),.string F]),(.agg #[(.int .i64 G),(.int .i64 H),.string I,(.int .i64 J),(.int .i64 K),.string L])]=T56 A B C D E F G H I J K L:=by kernel_rfl
noncomputable def T57 (A:Option Addr) (B C:Nat) (D E:Int):Pg:=
 grd (((((decide (0≤D))&&(decide (D≤E)))&&(decide (E≤(B:Int))))&&(decide ((B:Int)≤(C:Int))))&&((mayCut A 6)||(decide (D=0)))) (iB (D==E) (rr [.slice A B C]) (grd ((((decide (0≤D))&&(decide (D≤(C:Int))))&&(decide ((C:Int)≤(C:Int))))&&((mayCut A 6)||true)) (grd (((((decide (0≤E))&&(decide (E≤(B:Int))))&&(decide ((B:Int)≤(C:Int))))&&(decide ((C:Int)≤(C:Int))))&&((mayCut A 6)||(decide (E=0)))) (.act (apS 6 64 A (Int.toNat D) C (cutS A ((Int.toNat E)*6)) (B - (Int.toNat E)) (C - (Int.toNat E))) fun a=>asSlice a fun a b c=>grd ((((decide ((b:Int)≤(B:Int)))&&(decide ((B:Int)≤(c:Int))))&&(decide ((c:Int)≤(c:Int))))&&((mayCut a 6)||(decide ((b:Int)=0)))) (.act (clr Zr (cutS a (b*6)) (B - b)) fun d=>asTuple d fun d=>asNil d (rr [.slice a b c]))))))
theorem T57_eq (A:Option Addr) (B C:Nat) (D E:Int):progOf PROG false 57 [.slice A B C,(.int .i64 D),(.int .i64 E)]=T57 A B C D E:=by kernel_rfl
noncomputable def T58k0 (A:Int):TK:=
 Vp A
noncomputable def T58b0 (A:Nat) (B:Option Addr) (C:Value):TB:=
 fun a=>Xe a fun a b=>iB (decide (a<(A:Int))) (.join (asSome B fun c=>ix a A (lI (aadd c ((Int.toNat a)*1)) fun c=>asFunc C fun d f g=>.call d (f++[nI c]++g) fun c=>asBool c fun c=>iB c (rr [nI a]) (rn [nI b]))) (T58k0 a)) (re 0 (Wh a b))
noncomputable def T58k1:TK:=
 Vq
noncomputable def T58 (A:Option Addr) (B C:Nat) (D:Value):Pg:=
 .loop Zm (T58b0 B A D) (T58k1)
theorem T58_eq (A:Option Addr) (B C:Nat) (D:Value):progOf PROG false 58 [.slice A B C,D]=T58 A B C D:=by kernel_rfl
noncomputable def T59k0 (A:Int):TK:=
 Ui A
noncomputable def T59b0 (A:Nat) (B C:Option Addr) (D E:Nat) (F:Addr):TB:=
 fun a=>Xl a fun a b c=>iB (decide (a<(A:Int))) (.join (asSome B fun d=>ix a A (lA 2 (aadd d ((Int.toNat a)*2)) fun a=>asCons a fun a d=>asInt .u8 a fun a=>Xo d fun d=>nw [.int .u8 0,.pointer none] fun f=>sC f [.int .u8 a,.pointer d] (asSome C fun a=>grd (decide (0<(D:Int))) (.act (ld1 (aadd a 0)) fun a=>asInt .u8 a fun a=>.act (ld1 (aadd f 0)) fun d=>asInt .u8 d fun d=>iB ((andI .u8 a d)==0) (rn (Wh b c)) (grd (((((decide (0≤c))&&(decide (c≤(D:Int))))&&(decide ((D:Int)≤(E:Int))))&&(decide ((E:Int)≤(E:Int))))&&((mayCut C 1)||(decide (c=0)))) (qT 111 [(.slice (cutS C ((Int.toNat c)*1)) (D - (Int.toNat c)) (E - (Int.toNat c)))] fun a=>Xe a fun a d=>iB ((d==0)||(a==0)) (sC F Zo (rr (Wh 3 0))) (.act (ld1 (aadd f 1)) fun f=>asPtr f fun f=>asSome f fun f=>sC f [nI a] (rn (Wh b (wi64 (c+d))))))))))) (T59k0 a)) (re 0 (Wk a b c))
noncomputable def T59k1 (A:Addr):TK:=
 fun a b=>sw a (.exit 0) (Xl b fun _ _ a=>Yy A fun b c d=>sC A (Wk b c d) (.act (ldN 3 A) fun b=>rr [(.tuple #[b,nI a,nI 0])])) (sw a .ret (Xl b fun _ a b=>.act (ldN 3 A) fun c=>rr [(.tuple #[c,nI b,nI a])]) (.fail))
noncomputable def T59 (A:Option Addr) (B C:Nat):Pg:=
 nw Zo fun a=>iB ((B:Int)==0) (sC a Zo (.act (ldN 3 a) fun a=>rr [(.tuple #[a,nI 0,nI 3])])) (asSome A fun b=>grd (decide (0<(B:Int))) (.act (ld1 (aadd b 0)) fun b=>asInt .u8 b fun b=>sC (aadd a 0) [(nI (wi64 (andI .u8 b 63)))] (bL 2 2 [.int .u8 64,(.pointer (some (aadd a 1))),.int .u8 128,(.pointer (some (aadd a 2)))] fun b c _=>.loop (Wk 0 0 1) (T59b0 c b A B C a) (T59k1 a))))
theorem T59_eq (A:Option Addr) (B C:Nat):progOf PROG false 59 [.slice A B C]=T59 A B C:=by kernel_rfl
noncomputable def T60k0:TK:=
 Uk
noncomputable def T60k1 (A:Addr):TK:=
 fun a b=>sw a .normal (Xh b fun a b c=>lI (aadd A 2) fun d=>.join (iB (d !=0) (lI (aadd A 2) fun d=>qL 114 [.slice a b c,nI d] fun a b c=>rn [.slice a b c]) (rn [.slice a b c])) (T60k0)) (.fail)
noncomputable def T60k2 (A:Option Addr) (B C:Nat) (D:Addr):TK:=
 fun a b=>sw a .normal (asCons b fun a b=>asInt .u8 a fun a=>asNil b (bL 1 1 [.int .u8 a] fun a b c=>.act (apS 1 1 A B C a b c) fun a=>asSlice a fun a b c=>lI (aadd D 1) fun d=>.join (iB (d !=0) (lI (aadd D 1) fun d=>qL 114 [.slice a b c,nI d] fun a b c=>rn [.slice a b c]) (rn [.slice a b c])) (T60k1 D))) (.fail)
noncomputable def T60k3 (A:Addr) (B:Option Addr) (C D:Nat):TK:=
 fun a b=>sw a .normal (asCons b fun a b=>asInt .u8 a fun a=>asNil b (lI (aadd A 2) fun b=>.join (iB (b !=0) (rn [(.int .u8 (orI .u8 a 128))]) (rn [.int .u8 a])) (T60k2 B C D A))) (.fail)
noncomputable def T60 (A:Option Addr) (B C:Nat) (D E F:Int):Pg:=
 nw (Wk D E F) fun a=>qL 112 [.slice A B C] fun b c d=>Yy a fun f g h=>qB 113 [(Wj f g h)] fun f=>iB (!f) (rr [.slice b c d]) (lI (aadd a 0) fun f=>lI (aadd a 1) fun g=>.join (iB (g !=0) (rn [(.int .u8 (orI .u8 (wu8 f) 64))]) (rn [(.int .u8 (wu8 f))])) (T60k3 a b c d))
theorem T60_eq (A:Option Addr) (B C:Nat) (D E F:Int):progOf PROG false 60 [.slice A B C,(.agg #[(.int .i64 D),(.int .i64 E),(.int .i64 F)])]=T60 A B C D E F:=by kernel_rfl
noncomputable def T61k0:TK:=
 fun a b=>sw a .ret (cI b fun a b=>asCons b fun b c=>asInt .u64 b fun b=>Xd c fun c=>rr [nI c,nI a,.int .u64 b]) (sw a .normal (cI b fun a b=>asCons b fun b c=>asInt .u64 b fun b=>Xd c fun c=>rn [nI c,nI a,.int .u64 b]) (.fail))
noncomputable def T61k1:TK:=
 Vv
noncomputable def T61k2:TK:=
 Vv
noncomputable def T61k3:TK:=
 Vv
noncomputable def T61k4:TK:=
 Vv
noncomputable def T61k5 (A:Option Addr):TK:=
 fun a b=>sw a .normal (cI b fun _ a=>cI a fun a b=>asCons b fun b c=>asInt .u64 b fun b=>asNil c (iB (a !=0) (qI 117 [.pointer A] fun a=>rr [nI a]) (qI 120 [.pointer A,.int .u64 b] fun a=>rr [nI a]))) (sw a .ret (cI b fun a b=>cI b fun _ b=>asCons b fun b c=>asInt .u64 b fun _=>asNil c (rr [nI a])) (.fail))
noncomputable def T61 (A:Option Addr) (B C D:Int):Pg:=
 nw (Wk B C D) fun a=>lI (aadd a 0) fun b=>.join (.join (iB (b==2) (lI (aadd a 1) fun a=>.call 63 [nI a] fun a=>asInt .u64 a fun a=>rn [nI 0,nI 0,.int .u64 a]) (.join (iB (b==3) (lI (aadd a 1) fun a=>qT 115 [.pointer A,(Wt 1 a)] fun a=>asCons a fun a b=>asInt .u64 a fun a=>Xd b fun b=>rn [nI 0,nI b,.int .u64 a]) (.join (iB (b==4) (lI (aadd a 1) fun a=>qT 115 [.pointer A,(Wt 2 a)] fun a=>asCons a fun a b=>asInt .u64 a fun a=>Xd b fun b=>rn [nI 0,nI b,.int .u64 a]) (.join (iB (b==5) (qT 115 [.pointer A,(Wt 3 0)] fun a=>asCons a fun a b=>asInt .u64 a fun a=>Xd b fun b=>rn [nI 0,nI b,.int .u64 a]) (.join (iB (b==23) (asSome A fun a=>.act (ld1 (aadd a 27)) fun a=>asPtr a fun a=>qT 116 (Wu a 1) fun a=>Yd a fun a b _ c=>iB (!c) (qI 117 [.pointer A] fun a=>rr [nI 0,.int .u64 0,nI a]) (asSome a fun a=>grd (decide (0<(b:Int))) (.act (ld1 (aadd a 0)) fun a=>asInt .u64 a fun a=>rn [nI 0,.int .u64 a,nI 0]))) (asSome A fun b=>.act (ld1 (aadd b 27)) fun b=>asPtr b fun b=>qT 118 [.pointer b] fun b=>asCons b fun b c=>asInt .u64 b fun b=>Xd c fun _=>asSome A fun c=>.act (ld1 (aadd c 28)) fun c=>asPtr c fun c=>lI (aadd a 1) fun a=>qT 119 [.pointer c,.int .u64 b,nI a] fun a=>asCons a fun a b=>asInt .u64 a fun a=>Xd b fun b=>rn [nI b,.int .u64 a,nI 0])) (T61k0))) (T61k1))) (T61k2))) (T61k3))) (T61k4)) (T61k5 A)
theorem T61_eq (A:Option Addr) (B C D:Int):progOf PROG false 61 [(.pointer A),(.agg #[(.int .i64 B),(.int .i64 C),(.int .i64 D)])]=T61 A B C D:=by kernel_rfl
noncomputable def T62k0 (A:Int):TK:=
 Vm A
noncomputable def T62b0 (A:Int) (B:Option Addr):TB:=
 fun a=>Xd a fun a=>iB (decide (a<A)) (.join (asSome B fun a=>.act (ld1 (aadd a 27)) fun a=>asPtr a fun a=>qT 118 [.pointer a] fun a=>asCons a fun a b=>asInt .u64 a fun _=>Xd b fun _=>rn []) (T62k0 a)) (re 0 [nI a])
noncomputable def T62k1 (A:Option Addr) (B:Int):TK:=
 fun a b=>sw a (.exit 0) (Xd b fun _=>qI 120 [.pointer A,.int .u64 B] fun a=>rr [nI a]) (.fail)
noncomputable def T62k2 (A B:Option Addr) (C D:Nat) (E F G:Int):TK:=
 fun a b=>sw a .ret (Yj b fun _ _ _ a=>rr [nI a]) (sw a .normal (Yj b fun a b c _=>asSome A fun d=>.act (ld1 (aadd d 28)) fun f=>asPtr f fun g=>.act (apS 1 8 B C D a b c) fun a=>asSlice a fun a b c=>.get fun h=>grd (chks [((ld1 (aadd d 28)),f)] h) (qT 127 [.pointer g,nI E,nI F,.slice a b c] fun a=>asCons a fun a b=>asInt .u64 a fun a=>Xd b fun b=>iB (b !=0) (qI 117 [.pointer A] fun a=>rr [nI a]) (.loop [nI 0] (T62b0 G A) (T62k1 A a)))) (.fail))
noncomputable def T62k3 (A:Option Addr) (B:Nat) (C:Int) (D:Option Addr) (E F:Nat) (G:Option Addr) (H:Nat) (I J:Int):TK:=
 fun a b=>sw a .normal (Xa b fun a=>iB a (rr [nI 9]) (asSome A fun a=>.act (ld1 (aadd a 28)) fun a=>asPtr a fun a=>qB 122 (Wu a (wi64 ((B:Int)+C))) fun a=>.join (iB (!a) (asSome A fun a=>.act (ld1 (aadd a 28)) fun a=>asPtr a fun a=>.call 123 [.pointer a] fun a=>asPtr a fun a=>asSome A fun b=>.act (ld1 (aadd b 27)) fun b=>asPtr b fun b=>qL 125 [.pointer b] fun b c d=>qL 124 [.pointer a,.slice b c d] fun b c d=>qB 122 (Wu a (wi64 ((B:Int)+C))) fun f=>iB (!f) (rr [.slice D E F,nI 8]) (asSome A fun f=>sC (aadd f 28) [.pointer a] (asSome A fun a=>.act (ld1 (aadd a 27)) fun a=>asPtr a fun a=>qI 126 [.pointer a,.slice b c d] fun _=>asSome A fun a=>.act (ld1 (aadd a 27)) fun a=>asPtr a fun a=>qT 116 (Wu a C) fun a=>Yd a fun a b c _=>rn [.slice a b c,nI 0]))) (rn [.slice D E F,nI 0])) (T62k2 A G B H I J C))) (.fail)
noncomputable def T62 (A:Option Addr) (B C D:Int) (E:Option Addr) (F G:Nat):Pg:=
 asSome A fun a=>.act (ld1 (aadd a 27)) fun a=>asPtr a fun a=>qT 116 (Wu a D) fun a=>Yd a fun a b c d=>iB (!d) (qI 117 [.pointer A] fun a=>rr [nI a]) (.join (iB ((D==0)==true) (asSome A fun a=>.act (ld1 (aadd a 27)) fun a=>asPtr a fun a=>qB 121 (Wu a 1) fun a=>rn [(.bool (!a))]) (rn [.bool false])) (T62k3 A F D a b c E G B C))
theorem T62_eq (A:Option Addr) (B C D:Int) (E:Option Addr) (F G:Nat):progOf PROG false 62 [(.pointer A),(.int .i64 B),(.int .i64 C),(.int .i64 D),.slice E F G]=T62 A B C D E F G:=by kernel_rfl
noncomputable def T63 (A:Int):Pg:=
 rr [(.int .u64 (orI .u64 (shlI .u64 (wu64 A) 1) 1))]
theorem T63_eq (A:Int):progOf PROG false 63 [(.int .i64 A)]=T63 A:=by kernel_rfl
noncomputable def T65k0 (A:Option Addr) (B C:Int) (D:Option Addr) (E:Nat):TK:=
 fun a b=>sw a .normal (Xa b fun a=>iB a (qI 117 [.pointer A] fun a=>rr [nI a]) (asSome A fun a=>lL (aadd (aadd (aadd a 0) 10) 2) fun a b _=>asSome a fun a=>ix B b (lA 4 (aadd a ((Int.toNat B)*4)) fun a=>Yk a fun a b c d=>nw [nI 0,nI 0,nI 0,nI 0] fun f=>sC f [nI a,nI b,nI c,nI d] (asSome A fun a=>.act (ld1 (aadd a 27)) fun a=>asPtr a fun a=>qT 118 [.pointer a] fun a=>asCons a fun a b=>asInt .u64 a fun _=>Xd b fun _=>asSome A fun a=>.act (ld1 (aadd a 27)) fun a=>asPtr a fun a=>qT 118 [.pointer a] fun a=>asCons a fun a b=>asInt .u64 a fun _=>Xd b fun _=>asSome A fun a=>.act (ld1 (aadd a 27)) fun a=>asPtr a fun a=>asSome A fun b=>lI (aadd b 19) fun b=>lI (aadd f 2) fun c=>qI 130 (Ve a b C (wi64 (c+1))) fun a=>iB (a !=0) (asSome A fun b=>.act (ld1 (aadd b 27)) fun b=>asPtr b fun b=>asSome D fun c=>grd (decide (0<(E:Int))) (.act (ld1 (aadd c 0)) fun c=>asInt .u64 c fun c=>qI 131 [.pointer b,.int .u64 c] fun _=>asSome A fun b=>.act (ld1 (aadd b 27)) fun b=>asPtr b fun b=>asSome D fun c=>grd (decide (1<(E:Int))) (.act (ld1 (aadd c 1)) fun c=>asInt .u64 c fun c=>qI 131 [.pointer b,.int .u64 c] fun _=>rr [nI a]))) (asSome A fun a=>.act (ld1 (aadd a 27)) fun a=>asPtr a fun a=>asSome D fun b=>grd (decide (1<(E:Int))) (.act (ld1 (aadd b 1)) fun b=>asInt .u64 b fun b=>qI 132 [.pointer a,nI 0,.int .u64 b] fun _=>asSome A fun a=>.act (ld1 (aadd a 27)) fun a=>asPtr a fun a=>lI (aadd f 2) fun b=>asSome D fun c=>grd (decide (0<(E:Int))) (.act (ld1 (aadd c 0)) fun c=>asInt .u64 c fun c=>qI 132 [.pointer a,nI b,.int .u64 c] fun _=>lI (aadd f 1) fun a=>asSome A fun b=>sC (aadd b 19) [nI a] (rr [nI 0])))))))) (.fail)
noncomputable def T65 (A:Option Addr) (B:Int):Pg:=
 asSome A fun a=>.act (ld1 (aadd a 27)) fun a=>asPtr a fun a=>qT 116 (Wu a 2) fun a=>Yd a fun a b _ c=>iB (!c) (qI 117 [.pointer A] fun a=>rr [nI a]) (asSome A fun c=>.act (ld1 (aadd c 28)) fun c=>asPtr c fun c=>asSome a fun d=>grd (decide (0<(b:Int))) (.act (ld1 (aadd d 0)) fun d=>asInt .u64 d fun d=>qT 128 [.pointer c,.int .u64 d] fun c=>Yk c fun c _ _ d=>iB ((d !=0)||(c !=2)) (qI 117 [.pointer A] fun a=>rr [nI a]) (asSome A fun c=>.act (ld1 (aadd c 28)) fun c=>asPtr c fun c=>asSome a fun d=>grd (decide (0<(b:Int))) (.act (ld1 (aadd d 0)) fun d=>asInt .u64 d fun d=>qT 119 [.pointer c,.int .u64 d,nI 0] fun c=>asCons c fun c d=>asInt .u64 c fun c=>Xd d fun _=>qT 129 [.int .u64 c] fun c=>Xg c fun c _=>.join (iB ((decide (c<0))==false) (asSome A fun a=>lL (aadd (aadd (aadd a 0) 10) 2) fun _ a _=>rn [(.bool (decide (c≥(a:Int))))]) (rn [.bool true])) (T65k0 A c B a b)))))
theorem T65_eq (A:Option Addr) (B:Int):progOf PROG false 65 [(.pointer A),(.int .i64 B)]=T65 A B:=by kernel_rfl
noncomputable def T69k0:TK:=
 Ul
noncomputable def T69k1:TK:=
 Ul
noncomputable def T69k2:TK:=
 Vz
noncomputable def T69k3 (A:Option Addr) (B:Addr):TK:=
 fun a b=>sw a .ret (Xd b fun a=>rr [nI a]) (sw a .normal (Xd b fun a=>asSome A fun b=>.act (ld1 (aadd b 27)) fun b=>asPtr b fun b=>qT 118 [.pointer b] fun b=>asCons b fun b c=>asInt .u64 b fun b=>Xd c fun c=>.join (iB (c !=0) (qI 117 [.pointer A] fun a=>rr [nI a]) (lI (aadd B 0) fun c=>.join (iB (c==6) (asSome A fun c=>.act (ld1 (aadd c 27)) fun c=>asPtr c fun c=>lI (aadd B 1) fun d=>qI 132 [.pointer c,nI d,.int .u64 b] fun _=>rn [nI a]) (lI (aadd B 0) fun c=>.join (iB (c==10) (asSome A fun c=>sC (aadd c 22) [nI 1] (asSome A fun c=>sC (aadd c 25) [.int .u64 b] (rn [nI a]))) (lI (aadd B 0) fun b=>iB (b !=24) (qI 117 [.pointer A] fun a=>rr [nI a]) (rn [nI a]))) (T69k0))) (T69k1))) (T69k2)) (.fail))
noncomputable def T69 (A:Option Addr) (B C D:Int):Pg:=
 nw (Wk B C D) fun a=>lI (aadd a 0) fun b=>.join (iB (b==1) (asSome A fun b=>.act (ld1 (aadd b 27)) fun b=>asPtr b fun b=>lI (aadd a 1) fun a=>qI 130 (Ve b 0 (-1) (wi64 (a+1))) fun a=>rr [nI a]) (iB (b==19) (qI 138 [.pointer A] fun a=>rr [nI a]) (iB (b==21) (asSome A fun b=>.act (ld1 (aadd b 26)) fun c=>asSlice c fun d f g=>.act (ld1 (aadd a 1)) fun h=>asInt .i64 h fun i=>asSome A fun j=>.act (ld1 (aadd j 27)) fun j=>asPtr j fun j=>.get fun k=>qI 134 [.pointer j] fun j=>.get fun l=>grd (chks [((ld1 (aadd a 1)),h),((ld1 (aadd b 26)),c)] l) (asSome A fun l=>.act (ld1 (aadd l 27)) fun m=>grd (past (ld1 (aadd l 27)) m [k]) (asPtr m fun k=>qI 139 [.pointer k] fun k=>.get fun l=>grd (chks [((ld1 (aadd a 1)),h),((ld1 (aadd b 26)),c)] l) (bL 3 1 (Wk i j k) fun a h i=>.get fun j=>grd (chks [((ld1 (aadd b 26)),c)] j) (.act (apS 3 24 d f g a h i) fun a=>asSlice a fun a b c=>asSome A fun d=>sC (aadd d 26) [.slice a b c] (rr [nI 0])))))) (iB (b==22) (asSome A fun a=>lL (aadd a 26) fun a _ b=>asSome A fun c=>lL (aadd c 26) fun _ c _=>grd ((((decide (0≤(maxV (wi64 ((c:Int) - 1)) 0)))&&(decide ((maxV (wi64 ((c:Int) - 1)) 0)≤(b:Int))))&&(decide ((b:Int)≤(b:Int))))&&((mayCut a 3)||true)) (asSome A fun d=>sC (aadd d 26) [(.slice a (Int.toNat (maxV (wi64 ((c:Int) - 1)) 0)) b)] (rr [nI 0]))) (iB (b==18) (qT 135 [.pointer A] fun a=>Xg a fun a b=>iB (!b) (qI 117 [.pointer A] fun a=>rr [nI a]) (asSome A fun b=>.act (ld1 (aadd b 29)) fun b=>asPtr b fun b=>qT 140 (Wu b a) fun a=>asNil a (rr [nI 0]))) (iB (b==17) (asSome A fun a=>.act (ld1 (aadd a 27)) fun a=>asPtr a fun a=>qT 118 [.pointer a] fun a=>asCons a fun a b=>asInt .u64 a fun a=>Xd b fun _=>asSome A fun b=>.act (ld1 (aadd b 27)) fun b=>asPtr b fun b=>qT 118 [.pointer b] fun b=>asCons b fun b c=>asInt .u64 b fun b=>Xd c fun _=>asSome A fun c=>.act (ld1 (aadd c 28)) fun c=>asPtr c fun c=>qI 141 [.pointer c,.int .u64 b,nI 0,.int .u64 a] fun a=>iB (a !=0) (qI 117 [.pointer A] fun a=>rr [nI a]) (rr [nI 0])) (rn [nI 0]))))))) (T69k3 A a)
theorem T69_eq (A:Option Addr) (B C D:Int):progOf PROG false 69 [(.pointer A),(.agg #[(.int .i64 B),(.int .i64 C),(.int .i64 D)])]=T69 A B C D:=by kernel_rfl
noncomputable def T70 (A:Int) (B:ByteArray) (C:Int) (D:Option Addr) (E F:Nat):Pg:=
 nw (Wo A B C D E F) fun a=>Yz a fun a b c d f g=>qL 142 [(Wl a b c d f g),.slice none 0 0] fun a b c=>rr [.slice a b c]
theorem T70_eq (A:Int) (B:ByteArray) (C:Int) (D:Option Addr) (E F:Nat):progOf PROG false 70 [(.agg #[(.int .i64 A),.string B,(.int .i64 C),.slice D E F])]=T70 A B C D E F:=by kernel_rfl
noncomputable def T71 (A:Int):Pg:=
 iB (decide (A<26)) (grd (Nat.ble (1+(Utf8.encode (wi32 (wi64 (97+A)))).size) 9223372036854775807) (rr [(.string ((bs [39])++(Utf8.encode (wi32 (wi64 (97+A))))))])) (qS 143 [(nI (wi64 (A+1)))] fun a=>grd (Nat.ble (1+a.size) 9223372036854775807) (rr [(.string ((bs [39])++a))]))
theorem T71_eq (A:Int):progOf PROG false 71 [(.int .i64 A)]=T71 A:=by kernel_rfl
noncomputable def T72k0 (A:Addr) (B:Option Nat):TK:=
 fun a b=>sw a .normal (Xa b fun a=>iB a (lL (aadd A 3) fun a b _=>asSome a fun a=>grd (decide (0<(b:Int))) (Yz (aadd a 0) fun a b c d f g=>qS 72 [(Wl a b c d f g),.map B] fun a=>grd (Nat.ble (1+a.size) 9223372036854775807) (grd (Nat.ble (((bs [40])++a).size+5) 9223372036854775807) (rr [(.string (((bs [40])++a)++(bs [32,114,101,102,41])))])))) (lI (aadd A 0) fun a=>iB (a==1) (rr [(.string (bs [105,110,116]))]) (lI (aadd A 0) fun a=>iB (a==2) (rr [(.string (bs [98,111,111,108]))]) (lI (aadd A 0) fun a=>iB (a==3) (rr [(.string (bs [117,110,105,116]))]) (lI (aadd A 0) fun a=>iB (a==4) (lS (aadd A 1) fun a=>rr [.string a]) (rn [(.string (bs []))])))))) (.fail)
noncomputable def T72k1 (A:Addr) (B:Option Nat):TK:=
 fun a b=>sw a .normal (Xa b fun a=>iB a (lL (aadd A 3) fun a b _=>asSome a fun a=>grd (decide (0<(b:Int))) (Yz (aadd a 0) fun a b c d f g=>.get fun h=>qS 72 [(Wl a b c d f g),.map B] fun a=>grd (Nat.ble (1+a.size) 9223372036854775807) (grd (Nat.ble (((bs [40])++a).size+4) 9223372036854775807) (.act (ld1 (aadd A 3)) fun b=>grd (past (ld1 (aadd A 3)) b [h]) (asSlice b fun b c _=>asSome b fun b=>grd (decide (1<(c:Int))) (.act (ldN 4 (aadd b 4)) fun c=>grd (past (ldN 4 (aadd b 4)) c [h]) (asAgg c fun b=>Xb b fun b c d f g h=>qS 72 [(Wl b c d f g h),.map B] fun b=>grd (Nat.ble ((((bs [40])++a)++(bs [32,45,62,32])).size+b.size) 9223372036854775807) (grd (Nat.ble (((((bs [40])++a)++(bs [32,45,62,32]))++b).size+1) 9223372036854775807) (rr [(.string (((((bs [40])++a)++(bs [32,45,62,32]))++b)++(bs [41])))]))))))))) (.join (lI (aadd A 0) fun a=>iB ((a==6)==true) (lL (aadd A 3) fun _ a _=>rn [(.bool ((a:Int)==1))]) (rn [.bool false])) (T72k0 A B))) (.fail)
noncomputable def T72k2:TK:=
 fun a b=>sw a .ret (Yh b fun a=>rr [.string a]) (sw a .normal (Yh b fun _=>rr [(.string (bs []))]) (.fail))
noncomputable def T72 (A:Int) (B:ByteArray) (C:Int) (D:Option Addr) (E F:Nat) (G:Option Nat):Pg:=
 nw (Wo A B C D E F) fun a=>.join (lI (aadd a 0) fun b=>iB (b==7) (lI (aadd a 2) fun a=>.act (lkp (.int .i64) (.string (bs [])) G (nI a) false) fun a=>asStr a fun a=>rr [.string a]) (.join (lI (aadd a 0) fun b=>iB ((b==5)==true) (lL (aadd a 3) fun _ a _=>rn [(.bool ((a:Int)==2))]) (rn [.bool false])) (T72k1 a G))) (T72k2)
theorem T72_eq (A:Int) (B:ByteArray) (C:Int) (D:Option Addr) (E F:Nat) (G:Option Nat):progOf PROG false 72 [(.agg #[(.int .i64 A),.string B,(.int .i64 C),.slice D E F]),(.map G)]=T72 A B C D E F G:=by kernel_rfl
noncomputable def T73k0:TK:=
 fun a b=>sw a .ret (Ye b fun a b c=>rr [.bool a,nI b,nI c]) (sw a .normal (Ye b fun a b c=>rn [.bool a,nI b,nI c]) (.fail))
noncomputable def T73b0 (A:ByteArray):TB:=
 fun a=>Ye a fun a b c=>.join (grd (((decide (0≤c))&&(decide (c≤((A.size:Nat):Int))))&&(decide (((A.size:Nat):Int)≤((A.size:Nat):Int)))) (qI 144 [(.string (A.extract (Int.toNat c) A.size)),(.func (.func 145) #[] #[])] fun d=>grd (((decide (0≤(wi64 (c+d))))&&(decide ((wi64 (c+d))≤((A.size:Nat):Int))))&&(decide (((A.size:Nat):Int)≤((A.size:Nat):Int)))) (qB 147 [(.string (A.extract (Int.toNat (wi64 (c+d))) A.size)),(.string (bs [40,42]))] fun f=>iB (!f) (rr [.bool true,(nI (wi64 (c+d))),(nI (wi64 (c+d)))]) (grd (((decide (0≤(wi64 (c+d))))&&(decide ((wi64 (c+d))≤((A.size:Nat):Int))))&&(decide (((A.size:Nat):Int)≤((A.size:Nat):Int)))) (qI 148 [(.string (A.extract (Int.toNat (wi64 (c+d))) A.size))] fun f=>iB (f==0) (rr [.bool false,(nI (wi64 (c+d))),(nI (wi64 (c+d)))]) (rn [.bool a,nI b,(nI (wi64 ((wi64 (c+d))+f)))])))))) (T73k0)
noncomputable def T73k1:TK:=
 fun a b=>sw a .ret (Ye b fun a b _=>rr [(.tuple #[nI b,.bool a])]) (.fail)
noncomputable def T73 (A:ByteArray):Pg:=
 .loop [.bool false,nI 0,nI 0] (T73b0 A) (T73k1)
theorem T73_eq (A:ByteArray):progOf PROG false 73 [.string A]=T73 A:=by kernel_rfl
noncomputable def T74k0:TK:=
 Um
noncomputable def T74k1:TK:=
 Um
noncomputable def T74k2 (A:Addr):TK:=
 fun a b=>sw a .ret (asNil b (.act (ldN 4 A) fun a=>rr [a])) (sw a .normal (asNil b (sC A Zt (.act (ldN 4 A) fun a=>rr [a]))) (.fail))
noncomputable def T74 (A:ByteArray):Pg:=
 nw Zt fun a=>qT 149 [.string A] fun b=>asCons b fun b c=>asInt .i32 b fun b=>Xd c fun _=>qI 146 [.int .i32 b] fun c=>.join (.join (iB (c==1) (iB (b !=39) (qA 150 [.string A] fun b=>Xi b fun b c d f=>sC a (Vb b c d f) (rr [])) (rn [])) (.join (iB (c==2) (qI 144 [.string A,(.func (.func 151) #[] #[])] fun b=>grd ((decide (0≤b))&&(decide (b≤((A.size:Nat):Int)))) (qT 152 [(.string (A.extract 0 (Int.toNat b)))] fun c=>Xg c fun _ c=>iB c (grd ((decide (0≤b))&&(decide (b≤((A.size:Nat):Int)))) (sC a (Vb 1 (A.extract 0 (Int.toNat b)) 0 0) (rr []))) (rn []))) (iB (c==4) (qA 153 [.string A] fun b=>Xi b fun b c d f=>sC a (Vb b c d f) (rr [])) (rn []))) (T74k0))) (T74k1)) (T74k2 a)
theorem T74_eq (A:ByteArray):progOf PROG false 74 [.string A]=T74 A:=by kernel_rfl
noncomputable def T75 (A:Option Addr):Pg:=
 nw Zt fun a=>asSome A fun b=>lI (aadd b 2) fun b=>asSome A fun c=>lL (aadd c 0) fun _ c _=>iB (decide (b≥(c:Int))) (qT 40 [.pointer A] fun b=>asNil b (sC a Zt (.act (ldN 4 a) fun a=>rr [a]))) (asSome A fun b=>lI (aadd b 2) fun b=>asSome A fun c=>sC (aadd c 2) [(nI (wi64 (b+1)))] (asSome A fun b=>lL (aadd b 0) fun b c _=>asSome A fun d=>lI (aadd d 2) fun d=>asSome b fun b=>grd ((decide (0≤(wi64 (d - 1))))&&(decide ((wi64 (d - 1))<(c:Int)))) (lA 4 (aadd b ((Int.toNat (wi64 (d - 1)))*4)) fun b=>Xi b fun b c d f=>sC a (Vb b c d f) (.act (ldN 4 a) fun a=>rr [a]))))
theorem T75_eq (A:Option Addr):progOf PROG false 75 [(.pointer A)]=T75 A:=by kernel_rfl
noncomputable def T76k0 (A:Option Addr):TK:=
 fun a b=>sw a .normal (Xa b fun a=>iB a (qT 40 [.pointer A] fun a=>asNil a (rr [(.string (bs []))])) (qA 75 [.pointer A] fun a=>Xi a fun _ a _ _=>rr [.string a])) (.fail)
noncomputable def T76 (A:Option Addr):Pg:=
 .join (qI 154 [.pointer A] fun a=>iB ((a !=2)==false) (qB 155 [.pointer A] fun a=>rn [.bool a]) (rn [.bool true])) (T76k0 A)
theorem T76_eq (A:Option Addr):progOf PROG false 76 [(.pointer A)]=T76 A:=by kernel_rfl
noncomputable def T77 (A:Option Addr) (B:ByteArray):Pg:=
 nw Zt fun a=>qB 37 (Wm A 0 B) fun b=>iB (!b) (qT 40 [.pointer A] fun b=>asNil b (sC a Zt (.act (ldN 4 a) fun a=>rr [a]))) (qA 75 [.pointer A] fun b=>Xi b fun b c d f=>sC a (Vb b c d f) (.act (ldN 4 a) fun a=>rr [a]))
theorem T77_eq (A:Option Addr) (B:ByteArray):progOf PROG false 77 [(.pointer A),.string B]=T77 A B:=by kernel_rfl
noncomputable def T79 (A:Option Addr):Pg:=
 .call 157 [.pointer A] fun a=>asPtr a fun a=>qB 37 (Wm A 0 (bs [58,61])) fun b=>iB (!b) (rr [.pointer a]) (qA 75 [.pointer A] fun b=>Xi b fun _ _ _ _=>asSome a fun b=>.act (ld1 (aadd (aadd b 0) 5)) fun c=>asInt .i64 c fun d=>.call 79 [.pointer A] fun f=>asPtr f fun f=>.get fun g=>grd (chks [((ld1 (aadd (aadd b 0) 5)),c)] g) (bL 1 2 [.pointer a,.pointer f] fun a f g=>.get fun h=>grd (chks [((ld1 (aadd (aadd b 0) 5)),c)] h) (.call 80 (Wz 13 d a f g) fun a=>asPtr a fun a=>rr [.pointer a])))
theorem T79_eq (A:Option Addr):progOf PROG false 79 [(.pointer A)]=T79 A:=by kernel_rfl
noncomputable def T80k0 (A:Addr):TK:=
 fun a b=>sw a .normal (asNil b (rr [(.pointer (some A))])) (.fail)
noncomputable def T80 (A B:Int) (C:Option Addr) (D E:Nat):Pg:=
 nw [nI A,nI 0,(.string (bs [])),(.string (bs [])),.slice none 0 0,nI B,nI 0,.slice C D E] fun a=>.join (iB (decide ((D:Int)>0)) (asSome C fun b=>grd ((decide (0≤(wi64 ((D:Int) - 1))))&&(decide ((wi64 ((D:Int) - 1))<(D:Int)))) (.act (ld1 (aadd b ((Int.toNat (wi64 ((D:Int) - 1)))*1))) fun b=>asPtr b fun b=>asSome b fun b=>lI (aadd (aadd b 0) 6) fun b=>sC (aadd (aadd a 0) 6) [nI b] (rn []))) (rn [])) (T80k0 a)
theorem T80_eq (A B:Int) (C:Option Addr) (D E:Nat):progOf PROG false 80 [(.int .i64 A),(.int .i64 B),.slice C D E]=T80 A B C D E:=by kernel_rfl
noncomputable def T81k0 (A:Option Addr) (B C:Nat) (D:Option Addr) (E F:Nat) (G:Addr) (H:Bool):TK:=
 fun a b=>sw a .normal (Xa b fun a=>iB a (rr [.slice A B C,.slice D E F,.bool false]) (lS (aadd G 0) fun a=>bL 1 1 [.string a] fun a b c=>.act (apS 1 16 D E F a b c) fun a=>asSlice a fun a b c=>lL (aadd G 1) fun d f g=>.act (apS 1 16 A B C d f g) fun d=>asSlice d fun d f g=>rn [.slice d f g,.slice a b c,.bool H])) (.fail)
noncomputable def T81k1 (A:Int):TK:=
 Un A
noncomputable def T81b0 (A:Nat) (B:Option Addr):TB:=
 fun a=>Xu a fun a b c d f g h i=>iB (decide (a<(A:Int))) (.join (asSome B fun j=>ix a A (Ze (aadd j ((Int.toNat a)*2)) fun a j k l=>nw Zw fun m=>sC m (Wn a j k l) (.join (lS (aadd m 0) fun a=>qB 160 [.string a] fun a=>iB ((!a)==false) (lL (aadd m 1) fun _ a _=>rn [(.bool (decide ((a:Int)>3)))]) (rn [.bool true])) (T81k0 b c d f g h m i)))) (T81k1 a)) (re 2 (Vg a b c d f g h i))
noncomputable def T81k2:TK:=
 fun a b=>sw a (.exit 2) (Xu b fun _ a b c d f g h=>rn [.slice a b c,.slice d f g,.bool h]) (sw a .ret (Xu b fun _ a b c d f g h=>rr [.slice a b c,.slice d f g,.bool h]) (.fail))
noncomputable def T81k3 (A:Option Addr) (B C:Nat) (D:Option Addr) (E F:Nat) (G H:Addr) (I:Bool):TK:=
 fun a b=>sw a .normal (Xa b fun a=>iB a (rr [.slice A B C,.slice D E F,.bool false]) (lL G fun a b c=>lS (aadd H 0) fun d=>bL 1 1 [.string d] fun d f g=>.act (apS 1 16 a b c d f g) fun a=>asSlice a fun a b c=>sC G [.slice a b c] (lL (aadd H 1) fun a b _=>.loop (Vg 0 A B C D E F I) (T81b0 b a) (T81k2)))) (.fail)
noncomputable def T81k4 (A:Int):TK:=
 Un A
noncomputable def T81b1 (A:Nat) (B:Option Addr) (C:Addr):TB:=
 fun a=>Xu a fun a b c d f g h i=>iB (decide (a<(A:Int))) (.join (asSome B fun j=>ix a A (Ze (aadd j ((Int.toNat a)*2)) fun a j k l=>nw Zw fun m=>sC m (Wn a j k l) (.join (lS (aadd m 0) fun a=>qB 158 [.string a] fun a=>iB ((!a)==false) (lS (aadd m 0) fun a=>qB 159 [.string a] fun a=>iB (a==false) (lL (aadd m 1) fun _ a _=>iB ((decide ((a:Int)<1))==false) (lL (aadd m 1) fun _ a _=>rn [(.bool (decide ((a:Int)>20)))]) (rn [.bool true])) (rn [.bool true])) (rn [.bool true])) (T81k3 b c d f g h C m i)))) (T81k4 a)) (re 0 (Vg a b c d f g h i))
noncomputable def T81k5:TK:=
 Vn
noncomputable def T81k6 (A:Addr) (B:Nat):TK:=
 fun a b=>sw a (.exit 0) (Xu b fun _ a b c d f g _=>nw [.nilFunc] fun h=>sC h [(.func (.func 161) #[] #[(.pointer (some A))])] (.join (iB ((decide ((B:Int)≤20))==true) (lL A fun i j k=>qB 84 [.slice i j k] fun i=>iB ((!i)==true) (qB 84 [.slice d f g] fun d=>iB ((!d)==true) (qB 164 [.slice a b c,(.func (.func 163) #[] #[(.pointer (some h))])] fun a=>rn [(.bool (!a))]) (rn [.bool false])) (rn [.bool false])) (rn [.bool false])) (T81k5))) (sw a .ret (Xu b fun _ _ _ _ _ _ _ a=>rr [.bool a]) (.fail))
noncomputable def T81 (A:Option Addr) (B C:Nat):Pg:=
 nw [.slice none 0 0] fun a=>.loop (Vg 0 none 0 0 none 0 0 false) (T81b1 B A a) (T81k6 a B)
theorem T81_eq (A:Option Addr) (B C:Nat):progOf PROG false 81 [.slice A B C]=T81 A B C:=by kernel_rfl
noncomputable def T82k0 (A:Bool):TK:=
 Vy A
noncomputable def T82k1 (A:Int):TK:=
 Vr A
noncomputable def T82b0 (A:Nat) (B C:Option Addr) (D:Bool) (E:Addr) (F:Int):TB:=
 fun a=>Xg a fun a b=>iB (decide (a<(A:Int))) (.join (asSome B fun c=>ix a A (lI (aadd c ((Int.toNat a)*1)) fun c=>.join (asSome C fun b=>lI (aadd b 2) fun b=>iB ((c !=b)==false) (iB (D==false) (lI (aadd E 0) fun b=>iB ((b==11)==true) (qB 92 [nI a] fun a=>qB 82 [.pointer C,.bool a,(nI (wi64 (F+1)))] fun a=>rn [(.bool (!a))]) (qB 82 [.pointer C,.bool false,(nI (wi64 (F+1)))] fun a=>rn [(.bool (!a))])) (qB 82 [.pointer C,.bool true,(nI (wi64 (F+1)))] fun a=>rn [(.bool (!a))])) (rn [.bool true])) (T82k0 b))) (T82k1 a)) (re 0 (Wd a b))
noncomputable def T82k2:TK:=
 Vt
noncomputable def T82k3 (A:Option Addr) (B:Addr) (C:Bool) (D:Int):TK:=
 fun a b=>sw a .normal (Xa b fun a=>iB a (rr [.bool false]) (asSome A fun a=>lI (aadd a 2) fun a=>asSome A fun b=>sC (aadd b 2) [(nI (wi64 (a+1)))] (lL (aadd B 4) fun a b _=>.loop Zi (T82b0 b a A C B D) (T82k2)))) (.fail)
noncomputable def T82 (A:Option Addr) (B:Bool) (C:Int):Pg:=
 asSome A fun a=>lI (aadd a 2) fun a=>asSome A fun b=>lL (aadd (aadd b 0) 0) fun _ b _=>iB ((decide (a≥(b:Int)))||(decide (C≥60))) (rr [.bool false]) (asSome A fun b=>lL (aadd (aadd b 0) 0) fun b c _=>asSome b fun b=>ix a c (Za (aadd b ((Int.toNat a)*7)) fun a b c d f g h i j=>nw Zq fun k=>sC k (Ws a b c d f g h i j) (.join (lI (aadd k 0) fun a=>qB 83 [nI a] fun a=>iB ((!(a==B))==false) (asSome A fun a=>Yw (aadd a 0) fun a b c d f g=>Za k fun h i j k l m n o p=>qB 165 [(We a b c d f g),(Vc h i j k l m n o p)] fun a=>rn [(.bool (!a))]) (rn [.bool true])) (T82k3 A k B C))))
theorem T82_eq (A:Option Addr) (B:Bool) (C:Int):progOf PROG false 82 [(.pointer A),.bool B,(.int .i64 C)]=T82 A B C:=by kernel_rfl
noncomputable def T83 (A:Int):Pg:=
 rr [(.bool ((decide (A≥21))&&(decide (A≤26))))]
theorem T83_eq (A:Int):progOf PROG false 83 [(.int .i64 A)]=T83 A:=by kernel_rfl
noncomputable def T84k0 (A:Int):TK:=
 Vr A
noncomputable def T84b0 (A:Nat) (B:Option Addr) (C:Option Nat):TB:=
 fun a=>Xg a fun a b=>iB (decide (a<(A:Int))) (.join (asSome B fun c=>ix a A (lS (aadd c ((Int.toNat a)*1)) fun a=>.act (lkp .string (.bool false) C (.string a) false) fun c=>asBool c fun c=>iB c (rr [.bool true]) (.act (mup .string C (.string a) (.bool true)) fun a=>asTuple a fun a=>asNil a (rn [.bool b])))) (T84k0 a)) (re 0 (Wd a b))
noncomputable def T84k1:TK:=
 Uo
noncomputable def T84 (A:Option Addr) (B C:Nat):Pg:=
 .act makeMapAct fun a=>asMap a fun a=>.loop Zi (T84b0 B A a) (T84k1)
theorem T84_eq (A:Option Addr) (B C:Nat):progOf PROG false 84 [.slice A B C]=T84 A B C:=by kernel_rfl
noncomputable def T86 (A:Int) (B:Option Addr) (C D:Nat):Pg:=
 nw Zp fun a=>sC a (Wo A (bs []) 0 B C D) (.act (ldN 4 a) fun a=>rr [a])
theorem T86_eq (A:Int) (B:Option Addr) (C D:Nat):progOf PROG false 86 [(.int .i64 A),.slice B C D]=T86 A B C D:=by kernel_rfl
noncomputable def T87k0 (A:Option Addr) (B:Nat) (C D:Addr) (E F:Option Addr) (G:Addr):TK:=
 fun a b=>sw a .normal (asNil b (asSome A fun a=>grd (decide (1<(B:Int))) (.act (ld1 (aadd a 1)) fun b=>asInt .i64 b fun c=>lS (aadd C 2) fun d=>Zf D fun f g h i j k l m n=>nw [.string d,.slice f g h,nI i,.string j,nI k,.slice l m n,.pointer E] fun d=>.get fun f=>grd (chks [((ld1 (aadd a 1)),b)] f) (qA 44 (Wq F c (some d)) fun a=>Xb a fun a b c d f g=>sC G (Wo a b c d f g) (rr []))))) (.fail)
noncomputable def T87k1 (A:Option Addr) (B:Addr) (C:Option Addr) (D:Addr) (E:Option Addr) (F:Nat) (G H:Addr):TK:=
 fun a b=>sw a .normal (Xa b fun a=>.join (iB a (asSome A fun a=>.act (ld1 (aadd a 2)) fun b=>asPtr b fun c=>.act (ldN 4 B) fun d=>asAgg d fun f=>Xb f fun f g h i j k=>qL 172 [.pointer C] fun l m n=>.get fun o=>grd (chks [((ldN 4 B),d),((ld1 (aadd a 2)),b)] o) (qA 171 [.pointer c,(Wl f g h i j k),.slice l m n] fun a=>Xm a fun a b c d f g h i j=>sC D (Vh a b c d f g h i j) (rn []))) (rn [])) (T87k0 E F G D C A H)) (.fail)
noncomputable def T87k2 (A:Addr) (B:Option Addr) (C:Nat) (D E:Option Addr) (F:Int) (G:Addr):TK:=
 fun a b=>sw a .ret (asNil b (.act (ldN 4 A) fun a=>rr [a])) (sw a .normal (asNil b (asSome B fun a=>grd (decide (0<(C:Int))) (lI (aadd a 0) fun a=>qA 44 (Wq D a E) fun a=>Xb a fun a b c d f g=>nw Zp fun h=>sC h (Wo a b c d f g) (asSome D fun a=>.act (ld1 (aadd (aadd a 3) 2)) fun b=>asSlice b fun c d _=>qA 86 Zx fun f=>Xb f fun f g i j k l=>.get fun m=>grd (chks [((ld1 (aadd (aadd a 3) 2)),b)] m) (asSome c fun a=>ix F d (sC (aadd a ((Int.toNat F)*4)) (Wo f g i j k l) (asSome B fun a=>grd (decide (1<(C:Int))) (.act (ld1 (aadd a 1)) fun b=>asInt .i64 b fun c=>.act (ld1 (aadd G 3)) fun d=>asStr d fun f=>.get fun g=>qA 86 Zx fun i=>Xb i fun i j k l m n=>.get fun o=>grd (chks [((ld1 (aadd G 3)),d),((ld1 (aadd a 1)),b)] o) (.get fun d=>.call 167 [.pointer E,.string f,(Wl i j k l m n)] fun f=>asPtr f fun f=>.get fun i=>grd (chks [((ld1 (aadd a 1)),b)] i) (.act (ldN 4 h) fun a=>grd (past (ldN 4 h) a [d,g]) (asAgg a fun a=>Xb a fun a b d g i j=>qT 175 [.pointer D,nI c,.pointer f,(Wl a b d g i j)] fun a=>asNil a (Yz h fun a b c d f g=>sC A (Wo a b c d f g) (.act (ldN 4 A) fun a=>rr [a]))))))))))))) (.fail))
noncomputable def T87 (A:Option Addr) (B C D:Int) (E F:ByteArray) (G:Option Addr) (H I:Nat) (J K:Int) (L:Option Addr):Pg:=
 nw (Ws C D E F G H I J K) fun a=>nw Zp fun b=>lL (aadd a 4) fun c d _=>lI (aadd a 0) fun f=>.join (iB (f==6) (asSome A fun f=>.act (ld1 (aadd f 2)) fun f=>asPtr f fun f=>qA 166 [.pointer f] fun f=>Xb f fun f g h i j k=>nw Zp fun l=>sC l (Wo f g h i j k) (asSome A fun f=>lL (aadd (aadd f 3) 2) fun f g _=>Yz l fun h i j k m n=>asSome f fun f=>ix B g (sC (aadd f ((Int.toNat B)*4)) (Wo h i j k m n) (.act (ldN 4 l) fun f=>asAgg f fun g=>Xb g fun g h i j k m=>asSome c fun c=>grd (decide (0<(d:Int))) (.act (ld1 (aadd c 0)) fun d=>asInt .i64 d fun n=>lS (aadd a 3) fun a=>Yz l fun o p q r s t=>.call 167 [.pointer L,.string a,(Wl o p q r s t)] fun a=>asPtr a fun a=>.get fun o=>grd (chks [((ld1 (aadd c 0)),d),((ldN 4 l),f)] o) (qA 44 (Wq A n a) fun a=>Xb a fun a c d n o p=>.get fun q=>grd (chks [((ldN 4 l),f)] q) (bL 4 2 [nI g,.string h,nI i,.slice j k m,nI a,.string c,nI d,.slice n o p] fun a c d=>qA 86 (Wv 5 a c d) fun a=>Xb a fun a c d f g h=>sC b (Wo a c d f g h) (rr [])))))))) (iB (f==7) (asSome A fun a=>.act (ld1 (aadd a 2)) fun a=>asPtr a fun a=>qA 166 [.pointer a] fun a=>Xb a fun a f g h i j=>nw Zp fun k=>sC k (Wo a f g h i j) (.get fun a=>asSome c fun f=>grd (decide (0<(d:Int))) (lI (aadd f 0) fun f=>asSome c fun g=>grd (decide (1<(d:Int))) (.act (ld1 (aadd g 1)) fun h=>asInt .i64 h fun i=>.get fun j=>grd (newN a.n j []) (nw Zp fun l=>.get fun m=>.get fun n=>grd (newN a.n n [j.n]) (nw Zp fun a=>.get fun o=>qA 44 (Wq A f L) fun f=>Xb f fun f p q r s t=>.get fun u=>grd (chks [((ld1 (aadd g 1)),h)] u) (.get fun g=>grd (chkO [(n.n,(o.get n.n)),(j.n,(m.get j.n))] g) (qA 44 (Wq A i L) fun g=>Xb g fun g h i u v w=>.get fun x=>grd (chkO [(n.n,(o.get n.n)),(j.n,(m.get j.n))] x) (sC l (Wo f p q r s t) (sC a (Wo g h i u v w) (asSome c fun c=>grd (decide (0<(d:Int))) (.act (ld1 (aadd c 0)) fun d=>asInt .i64 d fun f=>.act (ldN 4 l) fun g=>asAgg g fun h=>Xb h fun h i j m n o=>Yz a fun a p q r s t=>Yz k fun u v w x y z=>bL 4 2 [nI a,.string p,nI q,.slice r s t,nI u,.string v,nI w,.slice x y z] fun a p q=>.get fun r=>grd (chks [((ldN 4 l),g),((ld1 (aadd c 0)),d)] r) (qA 86 (Wv 5 a p q) fun a=>Xb a fun a p q r s t=>.get fun u=>grd (chks [((ldN 4 l),g),((ld1 (aadd c 0)),d)] u) (qT 168 [.pointer A,nI f,(Wl h i j m n o),(Wl a p q r s t)] fun a=>asNil a (Yz k fun a c d f g h=>sC b (Wo a c d f g h) (rr [])))))))))))))))) (iB (f==8) (asSome c fun f=>grd (decide (0<(d:Int))) (lI (aadd f 0) fun f=>qA 44 (Wq A f L) fun f=>Xb f fun f g h i j k=>nw Zp fun l=>sC l (Wo f g h i j k) (asSome A fun f=>lL (aadd (aadd f 3) 1) fun f g _=>Yz l fun h i j k m n=>asSome f fun f=>ix B g (sC (aadd f ((Int.toNat B)*4)) (Wo h i j k m n) (Yz l fun f g h i j k=>qA 169 [(Wl f g h i j k)] fun f=>Xm f fun f g h i j k m n o=>nw Zy fun p=>sC p (Vh f g h i j k m n o) (.join (asSome A fun a=>lI (aadd a 10) fun a=>iB ((a==0)==true) (asSome A fun a=>Yw (aadd a 0) fun a b f g h i=>asSome c fun c=>grd (decide (0<(d:Int))) (lI (aadd c 0) fun c=>qB 170 [(We a b f g h i),nI c] fun a=>rn [.bool a])) (rn [.bool false])) (T87k1 A l L p c d a b))))))) (iB (f==9) (Za a fun a c d f g h i j k=>qA 173 [.pointer A,nI B,(Vc a c d f g h i j k),.pointer L] fun a=>Xb a fun a c d f g h=>sC b (Wo a c d f g h) (rr [])) (iB (f==11) (Za a fun a c d f g h i j k=>qA 174 [.pointer A,(Vc a c d f g h i j k),.pointer L] fun a=>Xb a fun a c d f g h=>sC b (Wo a c d f g h) (rr [])) (rn [])))))) (T87k2 b c d A L B a)
theorem T87_eq (A:Option Addr) (B C D:Int) (E F:ByteArray) (G:Option Addr) (H I:Nat) (J K:Int) (L:Option Addr):progOf PROG false 87 [(.pointer A),(.int .i64 B),(.agg #[(.int .i64 C),(.int .i64 D),.string E,.string F,.slice G H I,(.int .i64 J),(.int .i64 K)]),(.pointer L)]=T87 A B C D E F G H I J K L:=by kernel_rfl
noncomputable def T88k0 (A:Int):TK:=
 Vm A
noncomputable def T88b0 (A:Nat) (B:Option Addr) (C:Addr) (D E:Option Addr):TB:=
 fun a=>Xd a fun a=>iB (decide (a<(A:Int))) (.join (asSome B fun b=>ix a A (Yz (aadd b ((Int.toNat a)*4)) fun b c d f g h=>nw Zp fun i=>sC i (Wo b c d f g h) (lL (aadd C 4) fun b c _=>asSome b fun b=>ix a c (lI (aadd b ((Int.toNat a)*1)) fun a=>Yz i fun b c d f g h=>qT 175 [.pointer D,nI a,.pointer E,(Wl b c d f g h)] fun a=>asNil a (rn []))))) (T88k0 a)) (re 1 [nI a])
noncomputable def T88k1 (A:Addr) (B:Option Addr) (C:Addr):TK:=
 fun a b=>sw a (.exit 1) (Xd b fun _=>Za A fun a b c d f g h i j=>qA 179 [.pointer B,(Vc a b c d f g h i j)] fun a=>Xb a fun a b c d f g=>sC C (Wo a b c d f g) (rr [])) (.fail)
noncomputable def T88k2 (A:Addr):TK:=
 fun a b=>sw a .ret (asNil b (.act (ldN 4 A) fun a=>rr [a])) (sw a .normal (asNil b (qA 86 Zx fun a=>Xb a fun a b c d f g=>sC A (Wo a b c d f g) (.act (ldN 4 A) fun a=>rr [a]))) (.fail))
noncomputable def T88 (A:Option Addr) (B C D:Int) (E F:ByteArray) (G:Option Addr) (H I:Nat) (J K:Int) (L:Option Addr):Pg:=
 nw (Ws C D E F G H I J K) fun a=>nw Zp fun b=>lI (aadd a 0) fun c=>.join (iB (c==2) (qA 86 (Wv 2 none 0 0) fun a=>Xb a fun a c d f g h=>sC b (Wo a c d f g h) (rr [])) (iB (c==3) (qA 86 Zu fun a=>Xb a fun a c d f g h=>sC b (Wo a c d f g h) (rr [])) (iB (c==4) (lS (aadd a 2) fun a=>qT 176 [.pointer L,.string a] fun a=>asCons a fun a c=>asAgg a fun a=>Xm a fun a d f g h i j k l=>Xa c fun c=>nw Zy fun m=>sC m (Vh a d f g h i j k l) (iB (!c) (asSome A fun a=>sC (aadd a 10) [nI 6] (asSome A fun a=>sC (aadd a 11) [nI B] (qA 86 Zu fun a=>Xb a fun a c d f g h=>sC b (Wo a c d f g h) (rr [])))) (asSome A fun a=>.act (ld1 (aadd a 2)) fun a=>asPtr a fun a=>Zf m fun c d f g h i j k l=>qA 177 [.pointer a,(.agg #[.slice c d f,nI g,.string h,nI i,.slice j k l])] fun a=>Xb a fun a c d f g h=>sC b (Wo a c d f g h) (rr [])))) (iB (c==5) (Za a fun c d f g h i j k l=>qL 178 [.pointer A,(Vc c d f g h i j k l)] fun c d _=>.loop [nI 0] (T88b0 d c a A L) (T88k1 a A b)) (rn []))))) (T88k2 b)
theorem T88_eq (A:Option Addr) (B C D:Int) (E F:ByteArray) (G:Option Addr) (H I:Nat) (J K:Int) (L:Option Addr):progOf PROG false 88 [(.pointer A),(.int .i64 B),(.agg #[(.int .i64 C),(.int .i64 D),.string E,.string F,.slice G H I,(.int .i64 J),(.int .i64 K)]),(.pointer L)]=T88 A B C D E F G H I J K L:=by kernel_rfl
noncomputable def T89k0 (A:Addr):TK:=
 fun a b=>sw a .normal (Xa b fun a=>iB a (qA 86 (Wv 2 none 0 0) fun a=>Xb a fun a b c d f g=>sC A (Wo a b c d f g) (rr [])) (qA 86 Zx fun a=>Xb a fun a b c d f g=>sC A (Wo a b c d f g) (rr []))) (.fail)
noncomputable def T89k1:TK:=
 Up
noncomputable def T89k2:TK:=
 Up
noncomputable def T89k3 (A:Addr):TK:=
 fun a b=>sw a .ret (asNil b (.act (ldN 4 A) fun a=>rr [a])) (sw a .normal (asNil b (qA 86 Zu fun a=>Xb a fun a b c d f g=>sC A (Wo a b c d f g) (.act (ldN 4 A) fun a=>rr [a]))) (.fail))
noncomputable def T89 (A:Option Addr) (B C:Int) (D E:ByteArray) (F:Option Addr) (G H:Nat) (I J:Int) (K:Option Addr):Pg:=
 nw (Ws B C D E F G H I J) fun a=>nw Zp fun b=>lL (aadd a 4) fun c d _=>lI (aadd a 0) fun f=>.join (iB (f==10) (asSome c fun a=>grd (decide (0<(d:Int))) (.act (ld1 (aadd a 0)) fun f=>asInt .i64 f fun g=>qA 86 (Wv 2 none 0 0) fun h=>Xb h fun h i j k l m=>.get fun n=>grd (chks [((ld1 (aadd a 0)),f)] n) (qT 175 [.pointer A,nI g,.pointer K,(Wl h i j k l m)] fun a=>asNil a (asSome c fun a=>grd (decide (1<(d:Int))) (lI (aadd a 1) fun a=>qA 44 (Wq A a K) fun a=>Xb a fun a f g h i j=>nw Zp fun k=>sC k (Wo a f g h i j) (asSome c fun a=>grd (decide (2<(d:Int))) (lI (aadd a 2) fun a=>Yz k fun c d f g h i=>qT 175 [.pointer A,nI a,.pointer K,(Wl c d f g h i)] fun a=>asNil a (Yz k fun a c d f g h=>sC b (Wo a c d f g h) (rr []))))))))) (iB (f==12) (asSome c fun a=>grd (decide (0<(d:Int))) (.act (ld1 (aadd a 0)) fun f=>asInt .i64 f fun g=>qA 86 Zu fun h=>Xb h fun h i j k l m=>.get fun n=>grd (chks [((ld1 (aadd a 0)),f)] n) (qT 175 [.pointer A,nI g,.pointer K,(Wl h i j k l m)] fun a=>asNil a (asSome c fun a=>grd (decide (1<(d:Int))) (lI (aadd a 1) fun a=>qA 44 (Wq A a K) fun a=>Xb a fun a c d f g h=>sC b (Wo a c d f g h) (rr [])))))) (.join (iB (f==13) (.get fun a=>asSome c fun b=>grd (decide (0<(d:Int))) (lI (aadd b 0) fun b=>asSome c fun f=>grd (decide (1<(d:Int))) (.act (ld1 (aadd f 1)) fun g=>asInt .i64 g fun h=>.get fun i=>grd (newN a.n i []) (nw Zp fun j=>.get fun k=>.get fun l=>grd (newN a.n l [i.n]) (nw Zp fun a=>.get fun m=>qA 44 (Wq A b K) fun b=>Xb b fun b n o p q r=>.get fun s=>grd (chks [((ld1 (aadd f 1)),g)] s) (.get fun f=>grd (chkO [(l.n,(m.get l.n)),(i.n,(k.get i.n))] f) (qA 44 (Wq A h K) fun f=>Xb f fun f g h s t u=>.get fun v=>grd (chkO [(l.n,(m.get l.n)),(i.n,(k.get i.n))] v) (sC j (Wo b n o p q r) (sC a (Wo f g h s t u) (asSome c fun b=>grd (decide (0<(d:Int))) (.act (ld1 (aadd b 0)) fun c=>asInt .i64 c fun d=>.act (ldN 4 j) fun f=>asAgg f fun g=>Xb g fun g h i k l m=>Yz a fun a n o p q r=>bL 4 1 (Wo a n o p q r) fun a n o=>.get fun p=>grd (chks [((ldN 4 j),f),((ld1 (aadd b 0)),c)] p) (qA 86 (Wv 6 a n o) fun a=>Xb a fun a n o p q r=>.get fun s=>grd (chks [((ldN 4 j),f),((ld1 (aadd b 0)),c)] s) (qT 168 [.pointer A,nI d,(Wl g h i k l m),(Wl a n o p q r)] fun a=>asNil a (rn [])))))))))))))) (iB (f==14) (asSome c fun f=>grd (decide (0<(d:Int))) (.act (ld1 (aadd f 0)) fun g=>asInt .i64 g fun h=>qA 86 Zx fun i=>Xb i fun i j k l m n=>.get fun o=>grd (chks [((ld1 (aadd f 0)),g)] o) (qT 175 [.pointer A,nI h,.pointer K,(Wl i j k l m n)] fun f=>asNil f (asSome c fun c=>grd (decide (1<(d:Int))) (.act (ld1 (aadd c 1)) fun d=>asInt .i64 d fun f=>qA 86 Zx fun g=>Xb g fun g h i j k l=>.get fun m=>grd (chks [((ld1 (aadd c 1)),d)] m) (qT 175 [.pointer A,nI f,.pointer K,(Wl g h i j k l)] fun c=>asNil c (.join (lS (aadd a 2) fun b=>iB ((b.toList==(bs [60]).toList)==false) (lS (aadd a 2) fun a=>rn [(.bool (a.toList==(bs [61]).toList))]) (rn [.bool true])) (T89k0 b)))))))) (iB (f==15) (asSome c fun a=>grd (decide (0<(d:Int))) (lI (aadd a 0) fun a=>qA 44 (Wq A a K) fun a=>Xb a fun a c d f g h=>bL 4 1 (Wo a c d f g h) fun a c d=>qA 86 (Wv 6 a c d) fun a=>Xb a fun a c d f g h=>sC b (Wo a c d f g h) (rr []))) (iB (f==16) (asSome A fun a=>.act (ld1 (aadd a 2)) fun a=>asPtr a fun a=>qA 166 [.pointer a] fun a=>Xb a fun a f g h i j=>nw Zp fun k=>sC k (Wo a f g h i j) (asSome c fun a=>grd (decide (0<(d:Int))) (.act (ld1 (aadd a 0)) fun c=>asInt .i64 c fun d=>Yz k fun f g h i j l=>bL 4 1 (Wo f g h i j l) fun f g h=>.get fun i=>grd (chks [((ld1 (aadd a 0)),c)] i) (qA 86 (Wv 6 f g h) fun f=>Xb f fun f g h i j l=>.get fun m=>grd (chks [((ld1 (aadd a 0)),c)] m) (qT 175 [.pointer A,nI d,.pointer K,(Wl f g h i j l)] fun a=>asNil a (Yz k fun a c d f g h=>sC b (Wo a c d f g h) (rr []))))))) (.join (iB (f==17) (asSome c fun a=>grd (decide (0<(d:Int))) (.act (ld1 (aadd a 0)) fun b=>asInt .i64 b fun c=>qA 86 Zx fun d=>Xb d fun d f g h i j=>.get fun k=>grd (chks [((ld1 (aadd a 0)),b)] k) (qT 175 [.pointer A,nI c,.pointer K,(Wl d f g h i j)] fun a=>asNil a (rn [])))) (iB (f==19) (asSome A fun a=>.act (ld1 (aadd a 2)) fun a=>asPtr a fun a=>qA 166 [.pointer a] fun a=>Xb a fun a f g h i j=>nw Zp fun k=>sC k (Wo a f g h i j) (asSome c fun a=>grd (decide (0<(d:Int))) (.act (ld1 (aadd a 0)) fun c=>asInt .i64 c fun d=>qA 86 Zx fun f=>Xb f fun f g h i j l=>.get fun m=>grd (chks [((ld1 (aadd a 0)),c)] m) (qT 175 [.pointer A,nI d,.pointer K,(Wl f g h i j l)] fun a=>asNil a (Yz k fun a c d f g h=>sC b (Wo a c d f g h) (rr [])))))) (rn []))) (T89k1)))))) (T89k2)))) (T89k3 b)
theorem T89_eq (A:Option Addr) (B C:Int) (D E:ByteArray) (F:Option Addr) (G H:Nat) (I J:Int) (K:Option Addr):progOf PROG false 89 [(.pointer A),(.agg #[(.int .i64 B),(.int .i64 C),.string D,.string E,.slice F G H,(.int .i64 I),(.int .i64 J)]),(.pointer K)]=T89 A B C D E F G H I J K:=by kernel_rfl
noncomputable def T90k0:TK:=
 Vn
noncomputable def T90 (A:Int) (B:ByteArray) (C:Int) (D:Option Addr) (E F:Nat):Pg:=
 nw (Wo A B C D E F) fun a=>.join (Yz a fun b c d f g h=>qI 180 [(Wl b c d f g h)] fun b=>iB ((decide (b≤500))==true) (Yz a fun a b c d f g=>qB 181 [(Wl a b c d f g)] fun a=>rn [.bool a]) (rn [.bool false])) (T90k0)
theorem T90_eq (A:Int) (B:ByteArray) (C:Int) (D:Option Addr) (E F:Nat):progOf PROG false 90 [(.agg #[(.int .i64 A),.string B,(.int .i64 C),.slice D E F])]=T90 A B C D E F:=by kernel_rfl
noncomputable def T91k0 (A:Int):TK:=
 Vm A
noncomputable def T91b0 (A:Nat) (B:Option Addr) (C:Addr) (D:Option Addr):TB:=
 fun a=>Xd a fun a=>iB (decide (a<(A:Int))) (.join (asSome B fun b=>ix a A (Yz (aadd b ((Int.toNat a)*4)) fun a b c d f g=>nw Zp fun h=>sC h (Wo a b c d f g) (.act (ld1 (aadd C 3)) fun a=>asSlice a fun b c d=>Yz h fun f g h i j k=>qA 91 [.pointer D,(Wl f g h i j k)] fun f=>Xb f fun f g h i j k=>.get fun l=>grd (chks [((ld1 (aadd C 3)),a)] l) (bL 4 1 (Wo f g h i j k) fun f g h=>.get fun i=>grd (chks [((ld1 (aadd C 3)),a)] i) (.act (apS 4 56 b c d f g h) fun a=>asSlice a fun a b c=>sC (aadd C 3) [.slice a b c] (rn [])))))) (T91k0 a)) (re 0 [nI a])
noncomputable def T91k1 (A B:Addr):TK:=
 Uq A B
noncomputable def T91 (A:Option Addr) (B:Int) (C:ByteArray) (D:Int) (E:Option Addr) (F G:Nat):Pg:=
 nw (Wo B C D E F G) fun a=>nw Zp fun b=>Yz a fun c d f g h i=>qA 182 [.pointer A,(Wl c d f g h i)] fun c=>Xb c fun c d f g h i=>sC a (Wo c d f g h i) (lL (aadd a 3) fun _ c _=>iB ((c:Int)==0) (Yz a fun a c d f g h=>sC b (Wo a c d f g h) (.act (ldN 4 b) fun a=>rr [a])) (Yz a fun c d f g h i=>nw Zp fun j=>sC j (Wo c d f g h i) (sC (aadd j 3) [.slice none 0 0] (lL (aadd a 3) fun a c _=>.loop [nI 0] (T91b0 c a j A) (T91k1 j b)))))
theorem T91_eq (A:Option Addr) (B:Int) (C:ByteArray) (D:Int) (E:Option Addr) (F G:Nat):progOf PROG false 91 [(.pointer A),(.agg #[(.int .i64 B),.string C,(.int .i64 D),.slice E F G])]=T91 A B C D E F G:=by kernel_rfl
noncomputable def T95 (A:Option Addr) (B C:Nat) (D:Option Addr) (E F:Nat) (G:Int):Pg:=
 nw (Wa A B C D E F) fun a=>iB (G==(-1)) (Yw a fun a b c d f g=>qL 185 [(We a b c d f g),nI 0,.slice none 0 0] fun a b c=>rr [.slice a b c]) (.act (ldN 2 a) fun b=>asAgg b fun c=>Xf c fun c d f g h i=>.act (ld1 (aadd a 0)) fun j=>asSlice j fun k l _=>asSome k fun k=>ix G l (.act (ld1 (aadd (aadd k ((Int.toNat G)*7)) 4)) fun l=>asSlice l fun m n _=>asSome m fun m=>grd (decide (0<(n:Int))) (.act (ld1 (aadd m 0)) fun n=>asInt .i64 n fun o=>bL 2 1 (Wd G true) fun p q r=>.get fun s=>grd (chks [((ld1 (aadd m 0)),n),((ld1 (aadd (aadd k ((Int.toNat G)*7)) 4)),l),((ld1 (aadd a 0)),j),((ldN 2 a),b)] s) (qL 185 [(We c d f g h i),nI o,.slice p q r] fun a b c=>rr [.slice a b c]))))
theorem T95_eq (A:Option Addr) (B C:Nat) (D:Option Addr) (E F:Nat) (G:Int):progOf PROG false 95 [(.agg #[.slice A B C,.slice D E F]),(.int .i64 G)]=T95 A B C D E F G:=by kernel_rfl
noncomputable def T96 (A:Int):Pg:=
 rr [(.bool ((A==6)||(A==9)))]
theorem T96_eq (A:Int):progOf PROG false 96 [(.int .i64 A)]=T96 A:=by kernel_rfl
noncomputable def T97 (A:Option Addr) (B C:Nat) (D:Option Addr) (E F:Nat) (G:Int):Pg:=
 nw (Wa A B C D E F) fun a=>iB (G==(-1)) (rr [.slice none 0 0]) (lL (aadd a 0) fun b c _=>asSome b fun b=>ix G c (Za (aadd b ((Int.toNat G)*7)) fun b c d f g h i j k=>nw Zq fun l=>sC l (Ws b c d f g h i j k) (Yw a fun a b c d f g=>lL (aadd l 4) fun h i _=>asSome h fun h=>grd (decide (0<(i:Int))) (lI (aadd h 0) fun h=>qL 187 [(We a b c d f g),nI h] fun a b c=>qL 186 [.slice a b c,(.func (.func 188) #[] #[(.pointer (some l))])] fun a b c=>rr [.slice a b c]))))
theorem T97_eq (A:Option Addr) (B C:Nat) (D:Option Addr) (E F:Nat) (G:Int):progOf PROG false 97 [(.agg #[.slice A B C,.slice D E F]),(.int .i64 G)]=T97 A B C D E F G:=by kernel_rfl
noncomputable def T98k0 (A:Int):TK:=
 Vo A
noncomputable def T98b0 (A:Nat) (B:Option Addr):TB:=
 fun a=>Xj a fun a b c d=>iB (decide (a<(A:Int))) (.join (asSome B fun f=>ix a A (Zg (aadd f ((Int.toNat a)*2)) fun a f=>nw Zi fun g=>sC g (Wd a f) (lI (aadd g 0) fun a=>bL 1 1 [nI a] fun a f g=>.act (apS 1 8 b c d a f g) fun a=>asSlice a fun a b c=>rn [.slice a b c]))) (T98k0 a)) (re 0 (Wv a b c d))
noncomputable def T98k1:TK:=
 Vs
noncomputable def T98 (A:Option Addr) (B C:Nat) (D:Option Addr) (E F:Nat) (G:Int):Pg:=
 nw (Wa A B C D E F) fun a=>Yw a fun a b c d f g=>qL 95 [(We a b c d f g),nI G] fun a b _=>.loop Zs (T98b0 b a) (T98k1)
theorem T98_eq (A:Option Addr) (B C:Nat) (D:Option Addr) (E F:Nat) (G:Int):progOf PROG false 98 [(.agg #[.slice A B C,.slice D E F]),(.int .i64 G)]=T98 A B C D E F G:=by kernel_rfl
noncomputable def T99 (A:Option Addr) (B:Int):Pg:=
 asSome A fun a=>lL (aadd a 3) fun a b c=>bL 7 1 (Vf 0 0 0 0 0 B (-1)) fun d f g=>.act (apS 7 56 a b c d f g) fun a=>asSlice a fun a b c=>asSome A fun d=>sC (aadd d 3) [.slice a b c] (rr [(.tuple #[])])
theorem T99_eq (A:Option Addr) (B:Int):progOf PROG false 99 [(.pointer A),(.int .i64 B)]=T99 A B:=by kernel_rfl
noncomputable def T100 (A:Option Addr) (B C D:Int):Pg:=
 asSome A fun a=>lL (aadd a 3) fun a b c=>bL 7 1 (Vf B C D 0 0 0 (-1)) fun d f g=>.act (apS 7 56 a b c d f g) fun a=>asSlice a fun a b c=>asSome A fun d=>sC (aadd d 3) [.slice a b c] (rr [(.tuple #[])])
theorem T100_eq (A:Option Addr) (B C D:Int):progOf PROG false 100 [(.pointer A),(.int .i64 B),(.int .i64 C),(.int .i64 D)]=T100 A B C D:=by kernel_rfl
noncomputable def T101k0:TK:=
 Vk
noncomputable def T101k1:TK:=
 Vk
noncomputable def T101k2:TK:=
 Vk
noncomputable def T101k3:TK:=
 Vk
noncomputable def T101k4:TK:=
 Vk
noncomputable def T101k5:TK:=
 Vl
noncomputable def T101k6:TK:=
 Vl
noncomputable def T101k7:TK:=
 Vl
noncomputable def T101k8:TK:=
 Vl
noncomputable def T101k9:TK:=
 Vl
noncomputable def T101k10 (A:Addr) (B:Option Addr) (C D:Int):TK:=
 fun a b=>sw a .normal (Xa b fun a=>.join (iB a (lI (aadd A 1) fun a=>qT 100 (Ve B 2 a 0) fun a=>asNil a (rn [])) (.join (iB (C==4) (lS (aadd A 2) fun a=>qT 191 (Wm B D a) fun a=>asNil a (rn [])) (.join (iB (C==6) (qT 192 (Wu B D) fun a=>asNil a (rn [])) (.join (iB (C==5) (lL (aadd A 4) fun a b c=>qT 193 [.pointer B,.slice a b c] fun a=>asNil a (lS (aadd A 2) fun a=>qT 194 [.pointer B,.string a] fun a=>Xe a fun a b=>.join (iB (b==0) (qT 100 (Ve B 2 a 0) fun a=>asNil a (rn [])) (qT 100 (Ve B 14 a b) fun a=>asNil a (rn []))) (T101k5))) (lL (aadd A 4) fun a b c=>qT 193 [.pointer B,.slice a b c] fun a=>asNil a (Za A fun a b c d f g h i j=>qT 195 [.pointer B,nI D,(Vc a b c d f g h i j)] fun a=>asNil a (rn [])))) (T101k6))) (T101k7))) (T101k8))) (T101k9)) (.fail)
noncomputable def T101k11:TK:=
 Vl
noncomputable def T101k12 (A:Addr) (B:Option Addr) (C D:Int):TK:=
 fun a b=>sw a .normal (Xa b fun a=>.join (iB a (Za A fun a b c d f g h i j=>qT 190 [.pointer B,nI C,(Vc a b c d f g h i j)] fun a=>asNil a (rn [])) (.join (iB (D==1) (rn [(.bool (D==1))]) (.join (iB (D==2) (rn [(.bool (D==2))]) (rn [(.bool (D==3))])) (T101k4))) (T101k10 A B D C))) (T101k11)) (.fail)
noncomputable def T101k13:TK:=
 Vw
noncomputable def T101k14 (A:Addr) (B:Option Addr) (C:Int):TK:=
 fun a b=>sw a .normal (asNil b (lI (aadd A 0) fun a=>.join (.join (iB (a==8) (rn [(.bool (a==8))]) (.join (iB (a==9) (rn [(.bool (a==9))]) (.join (iB (a==10) (rn [(.bool (a==10))]) (.join (iB (a==11) (rn [(.bool (a==11))]) (.join (iB (a==12) (rn [(.bool (a==12))]) (rn [(.bool (a==20))])) (T101k0))) (T101k1))) (T101k2))) (T101k3))) (T101k12 A B C a)) (T101k13))) (.fail)
noncomputable def T101 (A:Option Addr) (B:Int):Pg:=
 asSome A fun a=>lL (aadd (aadd a 0) 0) fun a b _=>asSome a fun a=>ix B b (Za (aadd a ((Int.toNat B)*7)) fun a b c d f g h i j=>nw Zq fun k=>sC k (Ws a b c d f g h i j) (lI (aadd k 0) fun a=>qB 189 [nI a] fun a=>.join (iB a (asSome A fun a=>lL (aadd a 3) fun a b c=>bL 7 1 (Vf 29 0 0 0 0 0 B) fun d f g=>.act (apS 7 56 a b c d f g) fun a=>asSlice a fun a b c=>asSome A fun d=>sC (aadd d 3) [.slice a b c] (rn [])) (rn [])) (T101k14 k A B)))
theorem T101_eq (A:Option Addr) (B:Int):progOf PROG false 101 [(.pointer A),(.int .i64 B)]=T101 A B:=by kernel_rfl
noncomputable def T102k0:TK:=
 Vl
noncomputable def T102b0 (A:Addr):TB:=
 fun a=>asNil a (qB 196 [(.pointer (some A))] fun a=>iB a (.join (rn []) (T102k0)) (re 0 []))
noncomputable def T102k1 (A:Addr):TK:=
 fun a b=>sw a (.exit 0) (asNil b (rr [(.pointer (some A))])) (.fail)
noncomputable def T102 (A:Option Addr) (B C:Nat):Pg:=
 .act (mkSl 1 8 [nI 0] (B:Int) (B:Int)) fun a=>asSlice a fun a b c=>.act makeMapAct fun d=>asMap d fun d=>nw [.slice A B C,.slice a b c,.map d] fun a=>.loop [] (T102b0 a) (T102k1 a)
theorem T102_eq (A:Option Addr) (B C:Nat):progOf PROG false 102 [.slice A B C]=T102 A B C:=by kernel_rfl
noncomputable def T103k0 (A:Int):TK:=
 Vo A
noncomputable def T103b0 (A:Nat) (B:Option Addr):TB:=
 fun a=>Xj a fun a b c d=>iB (decide (a<(A:Int))) (.join (asSome B fun f=>ix a A (Ze (aadd f ((Int.toNat a)*2)) fun a f g h=>nw Zw fun i=>sC i (Wn a f g h) (lS (aadd i 0) fun a=>bL 1 1 [.string a] fun a f g=>.act (apS 1 16 b c d a f g) fun a=>asSlice a fun a b c=>rn [.slice a b c]))) (T103k0 a)) (re 2 (Wv a b c d))
noncomputable def T103k1:TK:=
 fun a b=>sw a (.exit 2) (Xj b fun _ a b c=>rn [.slice a b c]) (.fail)
noncomputable def T103k2 (A:Int):TK:=
 Vo A
noncomputable def T103b1 (A:Nat) (B:Option Addr):TB:=
 fun a=>Xj a fun a b c d=>iB (decide (a<(A:Int))) (.join (asSome B fun f=>ix a A (Ze (aadd f ((Int.toNat a)*2)) fun a f g h=>nw Zw fun i=>sC i (Wn a f g h) (lL (aadd i 1) fun a f _=>.loop (Wv 0 b c d) (T103b0 f a) (T103k1)))) (T103k2 a)) (re 0 (Wv a b c d))
noncomputable def T103k3:TK:=
 Vs
noncomputable def T103 (A:Option Addr) (B C:Nat) (D:Option Addr) (E F:Nat):Pg:=
 nw (Wa A B C D E F) fun a=>lL (aadd a 1) fun a b _=>.loop Zs (T103b1 b a) (T103k3)
theorem T103_eq (A:Option Addr) (B C:Nat) (D:Option Addr) (E F:Nat):progOf PROG false 103 [(.agg #[.slice A B C,.slice D E F])]=T103 A B C D E F:=by kernel_rfl
noncomputable def T104k0 (A B:Addr):TK:=
 fun a b=>sw a .normal (asNil b (Yy A fun a b c=>sC B (Wk a b c) (.act (ldN 3 B) fun a=>rr [a]))) (.fail)
noncomputable def T104k1 (A:Addr) (B:Option Addr) (C D:Addr):TK:=
 fun a b=>sw a .normal (asNil b (lI (aadd A 4) fun a=>.join (iB (decide (a>0)) (asSome B fun a=>.act (ld1 (aadd a 2)) fun a=>asMap a fun a=>lI (aadd A 4) fun b=>.act (lkp (.int .i64) (nI 0) a (nI b) false) fun a=>asInt .i64 a fun a=>sC (aadd C 2) [nI a] (rn [])) (rn [])) (T104k0 C D))) (.fail)
noncomputable def T104 (A:Option Addr) (B C D E F G H:Int):Pg:=
 nw (Vf B C D E F G H) fun a=>nw Zo fun b=>Yy (aadd a 0) fun c d f=>nw Zo fun g=>sC g (Wk c d f) (lI (aadd a 3) fun c=>.join (iB (decide (c>0)) (asSome A fun b=>.act (ld1 (aadd b 2)) fun b=>asMap b fun b=>lI (aadd a 3) fun a=>.act (lkp (.int .i64) (nI 0) b (nI a) false) fun a=>asInt .i64 a fun a=>sC (aadd g 1) [nI a] (rn [])) (rn [])) (T104k1 a A g b))
theorem T104_eq (A:Option Addr) (B C D E F G H:Int):progOf PROG false 104 [(.pointer A),(.agg #[(.int .i64 B),(.int .i64 C),(.int .i64 D),(.int .i64 E),(.int .i64 F),(.int .i64 G),(.int .i64 H)])]=T104 A B C D E F G H:=by kernel_rfl
noncomputable def T105 (A:Option Addr) (B C:Nat) (D:Value):Pg:=
 qI 198 [(.int .u64 (wu64 (B:Int)))] fun a=>qT 197 [.slice A B C,nI 0,(nI (B:Int)),nI a,D] fun a=>asNil a (rr [(.tuple #[])])
theorem T105_eq (A:Option Addr) (B C:Nat) (D:Value):progOf PROG false 105 [.slice A B C,D]=T105 A B C D:=by kernel_rfl
noncomputable def T106 (A B C D:Int):Pg:=
 nw (Wh A B) fun a=>nw (Wh C D) fun b=>lI (aadd a 0) fun a=>lI (aadd b 0) fun b=>qI 107 (Wh a b) fun a=>rr [nI a]
theorem T106_eq (A B C D:Int):progOf PROG false 106 [(.agg #[(.int .i64 A),(.int .i64 B)]),(.agg #[(.int .i64 C),(.int .i64 D)])]=T106 A B C D:=by kernel_rfl
noncomputable def T107 (A B:Int):Pg:=
 qB 199 [nI A] fun a=>qB 199 [nI B] fun b=>iB a (iB b (rr [nI 0]) (rr [(nI (-1))])) (iB b (rr [nI 1]) (iB (decide (A<B)) (rr [(nI (-1))]) (iB (decide (A>B)) (rr [nI 1]) (rr [nI 0]))))
theorem T107_eq (A B:Int):progOf PROG false 107 [(.int .i64 A),(.int .i64 B)]=T107 A B:=by kernel_rfl
noncomputable def T108k0:TK:=
 Uj
noncomputable def T108k1 (A:Int):TK:=
 Vo A
noncomputable def T108b0 (A:Nat) (B:Option Addr) (C:Addr) (D:Option Addr) (E F:Nat):TB:=
 fun a=>Xj a fun a b c d=>iB (decide (a<(A:Int))) (.join (asSome B fun f=>ix a A (lA 3 (aadd f ((Int.toNat a)*3)) fun a=>Yl a fun a f g=>nw (Vi (bs []) 0 false) fun h=>sC h (Vi a f g) (lS (aadd h 0) fun a=>qB 162 [.slice b c d,.string a] fun a=>iB a (rn [.slice b c d]) (Yw C fun a f g i j k=>lS (aadd h 0) fun l=>qT 203 [(We a f g i j k),.slice D E F,.string l] fun a=>asCons a fun a f=>asAgg a fun a=>Xe a fun a g=>Xa f fun f=>nw Zm fun i=>sC i (Wh a g) (.join (iB f (lS (aadd h 0) fun a=>bL 1 1 [.string a] fun a f g=>.act (apS 1 16 b c d a f g) fun a=>asSlice a fun a b c=>rn [.slice a b c]) (rn [.slice b c d])) (T108k0)))))) (T108k1 a)) (re 0 (Wv a b c d))
noncomputable def T108k2:TK:=
 Vs
noncomputable def T108 (A:Option Addr) (B C:Nat) (D:Option Addr) (E F:Nat) (G:Int):Pg:=
 nw (Wa A B C D E F) fun a=>Yw a fun b c d f g h=>qB 200 [(We b c d f g h),nI G] fun b=>iB (!b) (rr [.slice none 0 0]) (Yw a fun b c d f g h=>qL 201 [(We b c d f g h),nI G] fun b c d=>Yw a fun f g h i j k=>qL 202 [(We f g h i j k),.slice b c d] fun f g _=>.loop Zs (T108b0 g f a b c d) (T108k2))
theorem T108_eq (A:Option Addr) (B C:Nat) (D:Option Addr) (E F:Nat) (G:Int):progOf PROG false 108 [(.agg #[.slice A B C,.slice D E F]),(.int .i64 G)]=T108 A B C D E F G:=by kernel_rfl
noncomputable def T109 (A:Option Addr) (B C:Nat) (D:Option Addr) (E F:Nat) (G:Int) (H:ByteArray):Pg:=
 nw (Wa A B C D E F) fun a=>nw Zm fun b=>Yw a fun c d f g h i=>qB 200 [(We c d f g h i),nI G] fun c=>iB (!c) (sC b Zm (.act (ldN 2 b) fun a=>rr [(.tuple #[a,.bool false])])) (.act (ldN 2 a) fun c=>asAgg c fun d=>Xf d fun d f g h i j=>Yw a fun k l m n o p=>qL 201 [(We k l m n o p),nI G] fun k l m=>.get fun n=>grd (chks [((ldN 2 a),c)] n) (qT 203 [(We d f g h i j),.slice k l m,.string H] fun a=>asCons a fun a c=>asAgg a fun a=>Xe a fun a d=>Xa c fun c=>sC b (Wh a d) (.act (ldN 2 b) fun a=>rr [(.tuple #[a,.bool c])])))
theorem T109_eq (A:Option Addr) (B C:Nat) (D:Option Addr) (E F:Nat) (G:Int) (H:ByteArray):progOf PROG false 109 [(.agg #[.slice A B C,.slice D E F]),(.int .i64 G),.string H]=T109 A B C D E F G H:=by kernel_rfl
noncomputable def T110k0 (A:Addr) (B:Option Addr) (C:Int) (D:Nat):TK:=
 fun a b=>sw a .normal (Xa b fun a=>iB a (sC A Zp (.act (ldN 4 A) fun a=>rr [a])) (asSome B fun a=>ix C D (Yz (aadd a ((Int.toNat C)*4)) fun a b c d f g=>sC A (Wo a b c d f g) (.act (ldN 4 A) fun a=>rr [a])))) (.fail)
noncomputable def T110k1 (A:Bool) (B:Int) (C:Addr):TK:=
 fun a b=>sw a .normal (Xh b fun a b _=>.join (iB ((!A)==false) (rn [(.bool (decide (B≥(b:Int))))]) (rn [.bool true])) (T110k0 C a B b)) (.fail)
noncomputable def T110 (A:ByteArray) (B:Option Addr) (C D:Nat) (E:Option Addr) (F G:Nat) (H:Option Addr) (I J:Nat) (K:Option Addr) (L M:Nat) (N:Option Addr) (O Q:Nat) (R:Int) (S:ByteArray) (U:Int) (V:Option Addr) (W X:Nat) (Y:Option Addr) (Z A1:Nat) (A2:Option Addr) (B1 B2:Nat) (C1:Option Addr) (C2 D1:Nat) (D2:Option Addr) (E1 E2:Nat) (F1:Option Addr) (F2 G1:Nat) (G2:Option Addr) (H1 H2:Nat) (I1:Int) (I2:ByteArray):Pg:=
 nw (Wb A B C D E F G H I J K L M N O Q R S U V W X Y Z A1 A2 B1 B2 C1 C2 D1 D2 E1 E2 F1 F2 G1 G2 H1 H2) fun a=>nw Zp fun b=>Yw (aadd a 1) fun c d f g h i=>qT 204 [(We c d f g h i),nI I1,.string I2] fun c=>Yq c fun c d f=>lL (aadd (aadd a 3) 1) fun g h i=>.join (iB d (lL (aadd (aadd a 3) 2) fun a b c=>rn [.slice a b c]) (rn [.slice g h i])) (T110k1 f c b)
theorem T110_eq (A:ByteArray) (B:Option Addr) (C D:Nat) (E:Option Addr) (F G:Nat) (H:Option Addr) (I J:Nat) (K:Option Addr) (L M:Nat) (N:Option Addr) (O Q:Nat) (R:Int) (S:ByteArray) (U:Int) (V:Option Addr) (W X:Nat) (Y:Option Addr) (Z A1:Nat) (A2:Option Addr) (B1 B2:Nat) (C1:Option Addr) (C2 D1:Nat) (D2:Option Addr) (E1 E2:Nat) (F1:Option Addr) (F2 G1:Nat) (G2:Option Addr) (H1 H2:Nat) (I1:Int) (I2:ByteArray):progOf PROG false 110 [(.agg #[.string A,.slice B C D,.slice E F G,.slice H I J,.slice K L M,.slice N O Q,(.int .i64 R),.string S,(.int .i64 U),.slice V W X,.slice Y Z A1,.slice A2 B1 B2,.slice C1 C2 D1,.slice D2 E1 E2,.slice F1 F2 G1,.slice G2 H1 H2]),(.int .i64 I1),.string I2]=T110 A B C D E F G H I J K L M N O Q R S U V W X Y Z A1 A2 B1 B2 C1 C2 D1 D2 E1 E2 F1 F2 G1 G2 H1 H2 I1 I2:=by kernel_rfl
noncomputable def T111k0 (A:Int):TK:=
 fun a b=>sw a .ret (cI b fun a b=>cI b fun b c=>asCons c fun c d=>asInt .u64 c fun c=>asNil d (rr [nI A,nI a,nI b,.int .u64 c])) (sw a .normal (cI b fun a b=>cI b fun b c=>asCons c fun c d=>asInt .u64 c fun c=>asNil d (rn [(nI (wi64 (A+1))),nI a,nI b,.int .u64 c])) (.fail))
noncomputable def T111b0 (A:Nat) (B:Option Addr):TB:=
 fun a=>cI a fun a b=>cI b fun b c=>cI c fun c d=>asCons d fun d f=>asInt .u64 d fun d=>asNil f (iB (decide (a<(((Int.toNat (minV (A:Int) 10)):Nat):Int))) (.join (asSome B fun f=>grd ((decide (0≤a))&&(decide (a<(((Int.toNat (minV (A:Int) 10)):Nat):Int)))) (.act (ld1 (aadd f ((Int.toNat a)*1))) fun f=>asInt .u8 f fun f=>grd (decide (0≤(wi64 (7*a)))) (iB ((andI .u8 f 128) !=0) (rn [nI b,nI c,(.int .u64 (orI .u64 d (shlI .u64 (wu64 (andNotI .u8 f 128)) (wi64 (7*a)))))]) (iB (((decide (a>0))&&(f==0))||((a==9)&&(decide (f>1)))) (rr [nI 0,nI 0,(.int .u64 (orI .u64 d (shlI .u64 (wu64 (andNotI .u8 f 128)) (wi64 (7*a)))))]) (rr [(nI (wi64 (a+1))),(nI (xorI .i64 (wi64 (shrI .u64 (orI .u64 d (shlI .u64 (wu64 (andNotI .u8 f 128)) (wi64 (7*a)))) 1)) (wi64 (0 - (wi64 (andI .u64 (orI .u64 d (shlI .u64 (wu64 (andNotI .u8 f 128)) (wi64 (7*a)))) 1)))))),(.int .u64 (orI .u64 d (shlI .u64 (wu64 (andNotI .u8 f 128)) (wi64 (7*a)))))]))))) (T111k0 a)) (re 0 [nI a,nI b,nI c,.int .u64 d]))
noncomputable def T111k1:TK:=
 fun a b=>sw a (.exit 0) (cI b fun _ a=>cI a fun _ a=>cI a fun _ a=>asCons a fun a b=>asInt .u64 a fun _=>asNil b (rr [(.tuple #[nI 0,nI 0])])) (sw a .ret (cI b fun _ a=>cI a fun a b=>cI b fun b c=>asCons c fun c d=>asInt .u64 c fun _=>asNil d (rr [(.tuple #[nI b,nI a])])) (.fail))
noncomputable def T111 (A:Option Addr) (B C:Nat):Pg:=
 grd ((((decide (0≤(minV (B:Int) 10)))&&(decide ((minV (B:Int) 10)≤(C:Int))))&&(decide ((C:Int)≤(C:Int))))&&((mayCut A 1)||true)) (.loop [nI 0,nI 0,nI 0,.int .u64 0] (T111b0 B A) (T111k1))
theorem T111_eq (A:Option Addr) (B C:Nat):progOf PROG false 111 [.slice A B C]=T111 A B C:=by kernel_rfl
noncomputable def T112 (A:Option Addr) (B C:Nat):Pg:=
 iB (Option.isNone A) (rr [.slice none 0 0]) (bL 1 0 [] fun a b c=>.act (apS 1 1 a b c A B C) fun a=>asSlice a fun a b c=>rr [.slice a b c])
theorem T112_eq (A:Option Addr) (B C:Nat):progOf PROG false 112 [.slice A B C]=T112 A B C:=by kernel_rfl
noncomputable def T113k0:TK:=
 Vn
noncomputable def T113 (A B C:Int):Pg:=
 nw (Wk A B C) fun a=>.join (lI (aadd a 0) fun b=>iB ((decide (b≥0))==true) (lI (aadd a 0) fun a=>rn [(.bool (decide (a≤63)))]) (rn [.bool false])) (T113k0)
theorem T113_eq (A B C:Int):progOf PROG false 113 [(.agg #[(.int .i64 A),(.int .i64 B),(.int .i64 C)])]=T113 A B C:=by kernel_rfl
noncomputable def T114k0 (A:Int):TK:=
 fun a b=>sw a .normal (Xh b fun a b c=>rn [(.int .u64 (shrI .u64 A 7)),.slice a b c]) (.fail)
noncomputable def T114b0:TB:=
 fun a=>asCons a fun a b=>asInt .u64 a fun a=>Xh b fun b c d=>iB (decide (a≥128)) (.join (bL 1 1 [(.int .u8 (orI .u8 (wu8 a) 128))] fun a f g=>.act (apS 1 1 b c d a f g) fun a=>asSlice a fun a b c=>rn [.slice a b c]) (T114k0 a)) (re 0 [.int .u64 a,.slice b c d])
noncomputable def T114k1:TK:=
 fun a b=>sw a (.exit 0) (asCons b fun a b=>asInt .u64 a fun a=>Xh b fun b c d=>bL 1 1 [(.int .u8 (wu8 a))] fun a f g=>.act (apS 1 1 b c d a f g) fun a=>asSlice a fun a b c=>rr [.slice a b c]) (.fail)
noncomputable def T114 (A:Option Addr) (B C:Nat) (D:Int):Pg:=
 .loop [(.int .u64 (xorI .u64 (shlI .u64 (wu64 D) 1) (wu64 (shrI .i64 D 63)))),.slice A B C] (T114b0) (T114k1)
theorem T114_eq (A:Option Addr) (B C:Nat) (D:Int):progOf PROG false 114 [.slice A B C,(.int .i64 D)]=T114 A B C D:=by kernel_rfl
noncomputable def T115k0:TK:=
 Ur
noncomputable def T115k1 (A:Option Addr) (B:Addr) (C:Int) (D:Bool):TK:=
 fun a b=>sw a .normal (Xa b fun a=>.join (iB a (asSome A fun a=>.act (ld1 (aadd a 28)) fun a=>asPtr a fun a=>lI (aadd B 1) fun b=>qT 119 [.pointer a,.int .u64 C,(nI (wi64 (b+1)))] fun a=>asCons a fun a b=>asInt .u64 a fun a=>Xd b fun b=>rn [nI 0,.int .u64 0,nI b,.int .u64 a]) (lI (aadd B 0) fun a=>iB ((a==3)&&D) (rr [nI 0,.int .u64 C,nI 1,.int .u64 0]) (rn [nI 0,.int .u64 0,nI 1,.int .u64 0]))) (T115k0)) (.fail)
noncomputable def T115k2:TK:=
 Ur
noncomputable def T115k3 (A:Option Addr) (B:Addr) (C:Bool) (D:Int):TK:=
 fun a b=>sw a .normal (Xa b fun a=>.join (iB a (asSome A fun a=>.act (ld1 (aadd a 27)) fun a=>asPtr a fun a=>lI (aadd B 1) fun b=>qT 207 (Wu a b) fun a=>asCons a fun a b=>asInt .u64 a fun a=>Xd b fun b=>rn [nI 0,.int .u64 0,nI b,.int .u64 a]) (.join (lI (aadd B 0) fun a=>iB (((a==2)&&C)==true) (lI (aadd B 1) fun a=>rn [(.bool (decide (a≥0)))]) (rn [.bool false])) (T115k1 A B D C))) (T115k2)) (.fail)
noncomputable def T115k4:TK:=
 fun a b=>sw a .normal (cI b fun _ a=>asCons a fun a b=>asInt .u64 a fun _=>cI b fun a b=>asCons b fun b c=>asInt .u64 b fun b=>asNil c (iB (a !=0) (rr [(.tuple #[.int .u64 0,nI 1])]) (rr [(.tuple #[.int .u64 b,nI 0])]))) (sw a .ret (cI b fun a b=>asCons b fun b c=>asInt .u64 b fun b=>cI c fun _ c=>asCons c fun c d=>asInt .u64 c fun _=>asNil d (rr [(.tuple #[.int .u64 b,nI a])])) (.fail))
noncomputable def T115 (A:Option Addr) (B C:Int):Pg:=
 nw (Wh B C) fun a=>qT 205 [.pointer A] fun b=>asCons b fun b c=>asInt .u64 b fun b=>Xa c fun c=>.join (.join (lI (aadd a 0) fun b=>iB ((b==1)==true) (.act (ld1 (aadd a 1)) fun b=>asInt .i64 b fun c=>asSome A fun d=>.act (ld1 (aadd d 27)) fun d=>asPtr d fun d=>qI 206 [.pointer d] fun d=>.get fun f=>grd (chks [((ld1 (aadd a 1)),b)] f) (rn [(.bool (decide (c<(wi64 (d - 1)))))])) (rn [.bool false])) (T115k3 A a c b)) (T115k4)
theorem T115_eq (A:Option Addr) (B C:Int):progOf PROG false 115 [(.pointer A),(.agg #[(.int .i64 B),(.int .i64 C)])]=T115 A B C:=by kernel_rfl
noncomputable def T116k0 (A:Option Addr) (B:Int):TK:=
 fun a b=>sw a .normal (Xa b fun a=>iB a (rr [(.tuple #[.slice none 0 0,.bool false])]) (asSome A fun a=>lL (aadd a 3) fun a b c=>asSome A fun d=>lL (aadd d 3) fun _ d _=>grd (((((decide (0≤(wi64 ((d:Int) - B))))&&(decide ((wi64 ((d:Int) - B))≤(b:Int))))&&(decide ((b:Int)≤(c:Int))))&&(decide ((c:Int)≤(c:Int))))&&((mayCut a 1)||(decide ((wi64 ((d:Int) - B))=0)))) (qL 209 [(.slice (cutS a ((Int.toNat (wi64 ((d:Int) - B)))*1)) (b - (Int.toNat (wi64 ((d:Int) - B)))) (c - (Int.toNat (wi64 ((d:Int) - B)))))] fun a b c=>rr [(.tuple #[.slice a b c,.bool true])]))) (.fail)
noncomputable def T116 (A:Option Addr) (B:Int):Pg:=
 .call 208 [.pointer A] fun a=>asPtr a fun a=>.join (iB (((Option.isNone a)||(decide (B<0)))==false) (asSome a fun a=>lL (aadd a 3) fun _ a _=>rn [(.bool (decide (B>(a:Int))))]) (rn [.bool true])) (T116k0 a B)
theorem T116_eq (A:Option Addr) (B:Int):progOf PROG false 116 [(.pointer A),(.int .i64 B)]=T116 A B:=by kernel_rfl
noncomputable def T118k0 (A B:Option Addr):TK:=
 fun a b=>sw a .normal (Xa b fun a=>iB a (rr [(.tuple #[.int .u64 0,nI 4])]) (asSome A fun a=>lL (aadd a 3) fun _ a _=>asSome A fun b=>lL (aadd b 3) fun b c _=>asSome b fun b=>grd ((decide (0≤(wi64 ((a:Int) - 1))))&&(decide ((wi64 ((a:Int) - 1))<(c:Int)))) (.act (ld1 (aadd b ((Int.toNat (wi64 ((a:Int) - 1)))*1))) fun b=>asInt .u64 b fun b=>asSome A fun c=>lL (aadd c 3) fun c _ d=>grd ((((decide (0≤(wi64 ((a:Int) - 1))))&&(decide ((wi64 ((a:Int) - 1))≤(d:Int))))&&(decide ((d:Int)≤(d:Int))))&&((mayCut c 1)||true)) (asSome A fun f=>sC (aadd f 3) [(.slice c (Int.toNat (wi64 ((a:Int) - 1))) d)] (asSome B fun a=>lI (aadd a 1) fun a=>asSome B fun c=>sC (aadd c 1) [(nI (wi64 (a - 1)))] (rr [(.tuple #[.int .u64 b,nI 0])])))))) (.fail)
noncomputable def T118 (A:Option Addr):Pg:=
 .call 208 [.pointer A] fun a=>asPtr a fun a=>.join (iB ((Option.isNone a)==false) (asSome a fun a=>lL (aadd a 3) fun _ a _=>rn [(.bool ((a:Int)==0))]) (rn [.bool true])) (T118k0 a A)
theorem T118_eq (A:Option Addr):progOf PROG false 118 [(.pointer A)]=T118 A:=by kernel_rfl
noncomputable def T119 (A:Option Addr) (B C:Int):Pg:=
 qT 210 [.pointer A,.int .u64 B,nI C] fun a=>Xn a fun a b=>iB (b !=0) (rr [(.tuple #[.int .u64 0,nI b])]) (asSome a fun a=>.act (ld1 a) fun a=>asInt .u64 a fun a=>rr [(.tuple #[.int .u64 a,nI 0])])
theorem T119_eq (A:Option Addr) (B C:Int):progOf PROG false 119 [(.pointer A),(.int .u64 B),(.int .i64 C)]=T119 A B C:=by kernel_rfl
noncomputable def T120 (A:Option Addr) (B:Int):Pg:=
 asSome A fun a=>.act (ld1 (aadd a 27)) fun a=>asPtr a fun a=>qI 131 [.pointer a,.int .u64 B] fun a=>iB (a !=4) (rr [nI a]) (qI 117 [.pointer A] fun a=>rr [nI a])
theorem T120_eq (A:Option Addr) (B:Int):progOf PROG false 120 [(.pointer A),(.int .u64 B)]=T120 A B:=by kernel_rfl
noncomputable def T121 (A:Option Addr) (B:Int):Pg:=
 asSome A fun a=>lI (aadd a 0) fun a=>asSome A fun b=>lI (aadd b 1) fun b=>rr [(.bool (decide (B≤(wi64 (a - b)))))]
theorem T121_eq (A:Option Addr) (B:Int):progOf PROG false 121 [(.pointer A),(.int .i64 B)]=T121 A B:=by kernel_rfl
noncomputable def T122 (A:Option Addr) (B:Int):Pg:=
 asSome A fun a=>lI (aadd a 0) fun a=>asSome A fun b=>lL (aadd b 2) fun _ b _=>rr [(.bool (decide (B<(wi64 (a - (b:Int))))))]
theorem T122_eq (A:Option Addr) (B:Int):progOf PROG false 122 [(.pointer A),(.int .i64 B)]=T122 A B:=by kernel_rfl
noncomputable def T127k0 (A:Addr) (B:Nat) (C:Int) (D:Option Addr) (E:Nat):TK:=
 fun a b=>sw a .normal (Xa b fun a=>iB a (rr [(.tuple #[.int .u64 0,nI 1])]) (.act (ld1 A) fun a=>asPtr a fun a=>qB 122 (Wu a (B:Int)) fun a=>iB (!a) (rr [(.tuple #[.int .u64 0,nI 8])]) (.act (ld1 A) fun a=>asPtr a fun a=>.call 217 [.pointer a,.int .u64 C,.slice D B E] fun a=>asInt .u64 a fun a=>rr [(.tuple #[.int .u64 a,nI 0])]))) (.fail)
noncomputable def T127 (A:Option Addr) (B C:Int) (D:Option Addr) (E F:Nat):Pg:=
 nw [.pointer A] fun a=>qT 213 (Wk B C (E:Int)) fun b=>asCons b fun b c=>asInt .u64 b fun b=>Xa c fun c=>.join (iB ((!c)==false) (qB 214 [.slice D E F,(.func (.func 215) #[] #[(.pointer (some a))])] fun a=>rn [.bool a]) (rn [.bool true])) (T127k0 a E b D F)
theorem T127_eq (A:Option Addr) (B C:Int) (D:Option Addr) (E F:Nat):progOf PROG false 127 [(.pointer A),(.int .i64 B),(.int .i64 C),.slice D E F]=T127 A B C D E F:=by kernel_rfl
noncomputable def T128 (A:Option Addr) (B:Int):Pg:=
 qT 218 [.pointer A,.int .u64 B] fun a=>Xg a fun a b=>iB (!b) (rr [(.tuple #[nI 0,nI 0,nI 0,nI 4])]) (asSome A fun b=>lL (aadd b 2) fun b c _=>asSome b fun b=>ix a c (.act (ld1 (aadd b ((Int.toNat a)*1))) fun a=>asInt .u64 a fun a=>qT 219 [.int .u64 a] fun a=>Ym a fun a b c _=>rr [(.tuple #[nI a,nI b,nI c,nI 0])]))
theorem T128_eq (A:Option Addr) (B:Int):progOf PROG false 128 [(.pointer A),(.int .u64 B)]=T128 A B:=by kernel_rfl
noncomputable def T129 (A:Int):Pg:=
 iB ((andI .u64 A 1)==0) (rr [(.tuple #[nI 0,.bool false])]) (rr [(.tuple #[(nI (shrI .i64 (wi64 A) 1)),.bool true])])
theorem T129_eq (A:Int):progOf PROG false 129 [(.int .u64 A)]=T129 A:=by kernel_rfl
noncomputable def T130k0 (A:Int):TK:=
 Vm A
noncomputable def T130b0 (A:Nat) (B:Addr):TB:=
 fun a=>Xd a fun a=>iB (decide (a<(A:Int))) (.join (.act (ld1 (aadd B 2)) fun b=>asSlice b fun c d _=>.call 63 [nI 0] fun f=>asInt .u64 f fun f=>.get fun g=>grd (chks [((ld1 (aadd B 2)),b)] g) (asSome c fun b=>ix a d (sC (aadd b ((Int.toNat a)*1)) [.int .u64 f] (rn [])))) (T130k0 a)) (re 1 [nI a])
noncomputable def T130k1 (A:Option Addr) (B:Addr):TK:=
 fun a b=>sw a (.exit 1) (Xd b fun _=>asSome A fun a=>lL (aadd a 2) fun a b c=>bL 1 1 [(.pointer (some B))] fun d f g=>.act (apS 1 8 a b c d f g) fun a=>asSlice a fun a b c=>asSome A fun d=>sC (aadd d 2) [.slice a b c] (asSome A fun a=>.act (ld1 (aadd a 1)) fun b=>asInt .i64 b fun c=>qI 220 [(.pointer (some B))] fun d=>.get fun f=>grd (chks [((ld1 (aadd a 1)),b)] f) (asSome A fun a=>sC (aadd a 1) [(nI (wi64 (c+d)))] (rr [nI 0])))) (.fail)
noncomputable def T130k2 (A B C:Int) (D:Option Addr):TK:=
 fun a b=>sw a .ret (Xd b fun a=>rr [nI a]) (sw a .normal (Xd b fun _=>.act (mkSl 1 8 [.int .u64 0] A A) fun a=>asSlice a fun a b c=>nw [nI B,nI C,.slice a b c,.slice none 0 0] fun a=>lL (aadd a 2) fun _ b _=>.loop [nI 0] (T130b0 b a) (T130k1 D a)) (.fail))
noncomputable def T130 (A:Option Addr) (B C D:Int):Pg:=
 .join (iB (decide (D<0)) (rr [nI 1]) (asSome A fun a=>lI (aadd a 0) fun a=>asSome A fun b=>lI (aadd b 1) fun b=>iB (decide (D>(wi64 ((wi64 (a - b)) - 2)))) (rr [nI 9]) (rn [nI 0]))) (T130k2 D B C A)
theorem T130_eq (A:Option Addr) (B C D:Int):progOf PROG false 130 [(.pointer A),(.int .i64 B),(.int .i64 C),(.int .i64 D)]=T130 A B C D:=by kernel_rfl
noncomputable def T131k0 (A:Option Addr) (B:Int) (C:Option Addr):TK:=
 fun a b=>sw a .ret (Xd b fun a=>rr [nI a]) (sw a .normal (Xd b fun _=>asSome A fun a=>lL (aadd a 3) fun a b c=>bL 1 1 [.int .u64 B] fun d f g=>.act (apS 1 8 a b c d f g) fun a=>asSlice a fun a b c=>asSome A fun d=>sC (aadd d 3) [.slice a b c] (asSome C fun a=>lI (aadd a 1) fun a=>asSome C fun b=>sC (aadd b 1) [(nI (wi64 (a+1)))] (rr [nI 0]))) (.fail))
noncomputable def T131 (A:Option Addr) (B:Int):Pg:=
 .call 208 [.pointer A] fun a=>asPtr a fun a=>.join (iB (Option.isNone a) (rr [nI 4]) (asSome A fun a=>lI (aadd a 1) fun a=>asSome A fun b=>lI (aadd b 0) fun b=>iB (decide (a≥b)) (rr [nI 9]) (rn [nI 0]))) (T131k0 a B A)
theorem T131_eq (A:Option Addr) (B:Int):progOf PROG false 131 [(.pointer A),(.int .u64 B)]=T131 A B:=by kernel_rfl
noncomputable def T132k0 (A:Int):TK:=
 fun a b=>sw a .normal (asNil b (rr [nI A])) (.fail)
noncomputable def T132 (A:Option Addr) (B C:Int):Pg:=
 qT 221 (Wu A B) fun a=>Xn a fun a b=>.join (iB (b==0) (asSome a fun a=>sC a [.int .u64 C] (rn [])) (rn [])) (T132k0 b)
theorem T132_eq (A:Option Addr) (B C:Int):progOf PROG false 132 [(.pointer A),(.int .i64 B),(.int .u64 C)]=T132 A B C:=by kernel_rfl
noncomputable def T135 (A:Option Addr):Pg:=
 asSome A fun a=>.act (ld1 (aadd a 27)) fun a=>asPtr a fun a=>qT 118 [.pointer a] fun a=>asCons a fun a b=>asInt .u64 a fun a=>Xd b fun b=>qT 129 [.int .u64 a] fun a=>Xg a fun a c=>rr [(.tuple #[nI a,(.bool ((b==0)&&c))])]
theorem T135_eq (A:Option Addr):progOf PROG false 135 [(.pointer A)]=T135 A:=by kernel_rfl
noncomputable def T138 (A:Option Addr):Pg:=
 .get fun a=>qI 12 [.pointer A] fun b=>asSome A fun c=>.act (ld1 (aadd c 16)) fun d=>grd (past (ld1 (aadd c 16)) d [a]) (asSlice d fun _ a _=>iB (decide (b≥(a:Int))) (asSome A fun a=>sC (aadd a 22) [nI 3] (rr [nI 0])) (asSome A fun a=>.act (ld1 (aadd a 27)) fun a=>asPtr a fun a=>qB 121 (Wu a 1) fun a=>iB (!a) (rr [nI 9]) (asSome A fun a=>.act (ld1 (aadd a 29)) fun a=>asPtr a fun a=>qT 223 [.pointer a] fun a=>Xg a fun a _=>.call 63 [nI a] fun a=>asInt .u64 a fun a=>qI 120 [.pointer A,.int .u64 a] fun a=>rr [nI a])))
theorem T138_eq (A:Option Addr):progOf PROG false 138 [(.pointer A)]=T138 A:=by kernel_rfl
noncomputable def T140 (A:Option Addr) (B:Int):Pg:=
 asSome A fun a=>lL (aadd a 1) fun a b c=>bL 1 1 [nI B] fun d f g=>.act (apS 1 8 a b c d f g) fun a=>asSlice a fun a b c=>asSome A fun d=>sC (aadd d 1) [.slice a b c] (rr [(.tuple #[])])
theorem T140_eq (A:Option Addr) (B:Int):progOf PROG false 140 [(.pointer A),(.int .i64 B)]=T140 A B:=by kernel_rfl
noncomputable def T142k0 (A:Int):TK:=
 fun a b=>sw a .ret (Xh b fun a b c=>rr (Wv A a b c)) (sw a .normal (Xh b fun a b c=>rn (Wv (wi64 (A+1)) a b c)) (.fail))
noncomputable def T142b0 (A:Nat) (B:Option Addr) (C:Addr) (D:Nat):TB:=
 fun a=>Xj a fun a b c d=>iB (decide (a<(A:Int))) (.join (asSome B fun f=>ix a A (lI (aadd f ((Int.toNat a)*1)) fun a=>lI (aadd C 2) fun f=>iB (a==f) (rr [.slice B A D]) (rn [.slice b c d]))) (T142k0 a)) (re 0 (Wv a b c d))
noncomputable def T142k1 (A:Addr) (B:Option Addr) (C D:Nat):TK:=
 fun a b=>sw a (.exit 0) (Xj b fun _ _ _ _=>lI (aadd A 2) fun a=>bL 1 1 [nI a] fun a b c=>.act (apS 1 8 B C D a b c) fun a=>asSlice a fun a b c=>rr [.slice a b c]) (sw a .ret (Xj b fun _ a b c=>rr [.slice a b c]) (.fail))
noncomputable def T142k2 (A:Int):TK:=
 Vo A
noncomputable def T142b1 (A:Nat) (B:Option Addr):TB:=
 fun a=>Xj a fun a b c d=>iB (decide (a<(A:Int))) (.join (asSome B fun f=>ix a A (Yz (aadd f ((Int.toNat a)*4)) fun a f g h i j=>nw Zp fun k=>sC k (Wo a f g h i j) (Yz k fun a f g h i j=>qL 142 [(Wl a f g h i j),.slice b c d] fun a b c=>rn [.slice a b c]))) (T142k2 a)) (re 2 (Wv a b c d))
noncomputable def T142k3:TK:=
 fun a b=>sw a (.exit 2) (Xj b fun _ a b c=>rr [.slice a b c]) (.fail)
noncomputable def T142 (A:Int) (B:ByteArray) (C:Int) (D:Option Addr) (E F:Nat) (G:Option Addr) (H I:Nat):Pg:=
 nw (Wo A B C D E F) fun a=>lI (aadd a 0) fun b=>iB (b==7) (.loop Zs (T142b0 H G a I) (T142k1 a G H I)) (lL (aadd a 3) fun a b _=>.loop (Wv 0 G H I) (T142b1 b a) (T142k3))
theorem T142_eq (A:Int) (B:ByteArray) (C:Int) (D:Option Addr) (E F:Nat) (G:Option Addr) (H I:Nat):progOf PROG false 142 [(.agg #[(.int .i64 A),.string B,(.int .i64 C),.slice D E F]),.slice G H I]=T142 A B C D E F G H I:=by kernel_rfl
noncomputable def T144k0:TK:=
 fun a b=>sw a .ret (Xd b fun a=>rr [nI a]) (sw a .normal (Xd b fun a=>rn [nI a]) (.fail))
noncomputable def T144b0 (A:Addr) (B:Value):TB:=
 fun a=>Xd a fun a=>.act (nxt (some A)) fun b=>asNx b (fun b c=>.join (asFunc B fun d f g=>.call d (f++[.int .i32 c]++g) fun c=>asBool c fun c=>iB (!c) (rr [nI b]) (rn [nI a])) (T144k0)) (re 0 [nI a])
noncomputable def T144k1 (A:ByteArray):TK:=
 fun a b=>sw a (.exit 0) (Xd b fun _=>rr [(nI ((A.size:Nat):Int))]) (sw a .ret (Xd b fun a=>rr [nI a]) (.fail))
noncomputable def T144 (A:ByteArray) (B:Value):Pg:=
 .act (rng A) fun a=>asPtr a fun a=>asSome a fun a=>.loop [nI 0] (T144b0 a B) (T144k1 A)
theorem T144_eq (A:ByteArray) (B:Value):progOf PROG false 144 [.string A,B]=T144 A B:=by kernel_rfl
noncomputable def T145 (A:Int):Pg:=
 qI 146 [.int .i32 A] fun a=>rr [(.bool (a==3))]
theorem T145_eq (A:Int):progOf PROG false 145 [(.int .i32 A)]=T145 A:=by kernel_rfl
noncomputable def T146k0 (A:Int):TK:=
 fun a b=>sw a .normal (Xa b fun a=>iB a (rr [nI 1]) (iB ((decide (A≥48))&&(decide (A≤57))) (rr [nI 2]) (rn [nI 0]))) (.fail)
noncomputable def T146k1:TK:=
 Vk
noncomputable def T146k2:TK:=
 Vk
noncomputable def T146k3:TK:=
 Vk
noncomputable def T146k4:TK:=
 Vk
noncomputable def T146k5:TK:=
 Vk
noncomputable def T146k6:TK:=
 Vk
noncomputable def T146k7:TK:=
 Vk
noncomputable def T146k8:TK:=
 Vk
noncomputable def T146k9:TK:=
 Vk
noncomputable def T146k10:TK:=
 Vk
noncomputable def T146k11:TK:=
 Vk
noncomputable def T146k12:TK:=
 Vk
noncomputable def T146k13:TK:=
 Vk
noncomputable def T146k14 (A:Int):TK:=
 fun a b=>sw a .normal (Xa b fun a=>iB a (rr [nI 4]) (rn [nI A])) (.fail)
noncomputable def T146k15 (A B:Int):TK:=
 fun a b=>sw a .normal (Xa b fun a=>iB a (rr [nI 3]) (.join (iB (A==40) (rn [(.bool (A==40))]) (.join (iB (A==41) (rn [(.bool (A==41))]) (.join (iB (A==44) (rn [(.bool (A==44))]) (.join (iB (A==59) (rn [(.bool (A==59))]) (.join (iB (A==61) (rn [(.bool (A==61))]) (.join (iB (A==60) (rn [(.bool (A==60))]) (.join (iB (A==62) (rn [(.bool (A==62))]) (.join (iB (A==43) (rn [(.bool (A==43))]) (.join (iB (A==45) (rn [(.bool (A==45))]) (.join (iB (A==42) (rn [(.bool (A==42))]) (.join (iB (A==124) (rn [(.bool (A==124))]) (.join (iB (A==33) (rn [(.bool (A==33))]) (rn [(.bool (A==58))])) (T146k3))) (T146k4))) (T146k5))) (T146k6))) (T146k7))) (T146k8))) (T146k9))) (T146k10))) (T146k11))) (T146k12))) (T146k13))) (T146k14 B))) (.fail)
noncomputable def T146k16:TK:=
 Vz
noncomputable def T146k17 (A:Int):TK:=
 fun a b=>sw a .ret (Xd b fun a=>rr [nI a]) (sw a .normal (Xd b fun a=>.join (.join (iB (A==32) (rn [(.bool (A==32))]) (.join (iB (A==9) (rn [(.bool (A==9))]) (.join (iB (A==10) (rn [(.bool (A==10))]) (rn [(.bool (A==13))])) (T146k1))) (T146k2))) (T146k15 A a)) (T146k16)) (.fail))
noncomputable def T146 (A:Int):Pg:=
 .join (.join (iB (((A==95)||(A==39))==false) (qB 225 [.int .i32 A] fun a=>rn [.bool a]) (rn [.bool true])) (T146k0 A)) (T146k17 A)
theorem T146_eq (A:Int):progOf PROG false 146 [(.int .i32 A)]=T146 A:=by kernel_rfl
noncomputable def T147 (A B:ByteArray):Pg:=
 qB 226 [.string A,.string B] fun a=>rr [.bool a]
theorem T147_eq (A B:ByteArray):progOf PROG false 147 [.string A,.string B]=T147 A B:=by kernel_rfl
noncomputable def T149k0 (A:ByteArray):TK:=
 fun a b=>sw a .normal (Xa b fun a=>iB a (grd (decide (0<((A.size:Nat):Int))) (rr [(.tuple #[(.int .i32 (wi32 (byteAt A 0))),nI 1])])) (qT 227 [.string A] fun a=>asCons a fun a b=>asInt .i32 a fun a=>Xd b fun b=>rr [(.tuple #[.int .i32 a,nI b])])) (.fail)
noncomputable def T149 (A:ByteArray):Pg:=
 .join (iB ((!(A.toList==(bs []).toList))==true) (grd (decide (0<((A.size:Nat):Int))) (rn [(.bool (decide ((byteAt A 0)<128)))])) (rn [.bool false])) (T149k0 A)
theorem T149_eq (A:ByteArray):progOf PROG false 149 [.string A]=T149 A:=by kernel_rfl
noncomputable def T150k0:TK:=
 Vl
noncomputable def T150k1:TK:=
 Vl
noncomputable def T150k2 (A B:Addr):TK:=
 fun a b=>sw a .normal (asNil b (lA 4 A fun a=>Xi a fun a b c d=>sC B (Vb a b c d) (.act (ldN 4 B) fun a=>rr [a]))) (.fail)
noncomputable def T150 (A:ByteArray):Pg:=
 nw Zt fun a=>qI 144 [.string A,(.func (.func 228) #[] #[])] fun b=>grd ((decide (0≤b))&&(decide (b≤((A.size:Nat):Int)))) (nw Zt fun c=>sC c (Vb 2 (A.extract 0 (Int.toNat b)) 0 0) (.join (qB 229 [.string A] fun a=>.join (iB a (sC (aadd c 0) [nI 3] (rn [])) (lS (aadd c 1) fun a=>qB 230 [.string a] fun a=>.join (iB a (sC (aadd c 0) [nI 4] (rn [])) (rn [])) (T150k0))) (T150k1)) (T150k2 c a)))
theorem T150_eq (A:ByteArray):progOf PROG false 150 [.string A]=T150 A:=by kernel_rfl
noncomputable def T153k0 (A:Int):TK:=
 fun a b=>sw a .ret (asNil b (rr [nI A])) (sw a .normal (asNil b (rn [(nI (wi64 (A+1)))])) (.fail))
noncomputable def T153b0 (A:Nat) (B:Option Addr) (C:ByteArray) (D:Addr):TB:=
 fun a=>Xd a fun a=>iB (decide (a<(A:Int))) (.join (asSome B fun b=>ix a A (lS (aadd b ((Int.toNat a)*1)) fun a=>qB 147 [.string C,.string a] fun b=>iB b (sC D (Vb 5 a 0 0) (rr [])) (rn []))) (T153k0 a)) (re 0 [nI a])
noncomputable def T153k1 (A:Addr) (B:ByteArray):TK:=
 fun a b=>sw a .normal (Xa b fun a=>iB a (sC A Zt (.act (ldN 4 A) fun a=>rr [a])) (grd (decide (1≤((B.size:Nat):Int))) (sC A (Vb 5 (B.extract 0 1) 0 0) (.act (ldN 4 A) fun a=>rr [a])))) (.fail)
noncomputable def T153k2 (A:ByteArray) (B:Addr):TK:=
 fun a b=>sw a (.exit 0) (Xd b fun _=>.join (grd (decide (0<((A.size:Nat):Int))) (iB (((byteAt A 0)==62)==false) (grd (decide (0<((A.size:Nat):Int))) (rn [(.bool ((byteAt A 0)==58))])) (rn [.bool true]))) (T153k1 B A)) (sw a .ret (Xd b fun _=>.act (ldN 4 B) fun a=>rr [a]) (.fail))
noncomputable def T153 (A:ByteArray):Pg:=
 nw Zt fun a=>bL 1 2 [(.string (bs [58,61])),(.string (bs [45,62]))] fun b c _=>.loop [nI 0] (T153b0 c b A a) (T153k2 A a)
theorem T153_eq (A:ByteArray):progOf PROG false 153 [.string A]=T153 A:=by kernel_rfl
noncomputable def T154 (A:Option Addr):Pg:=
 asSome A fun a=>lI (aadd a 2) fun a=>asSome A fun b=>lL (aadd b 0) fun _ b _=>iB (decide (a≥(b:Int))) (rr [nI 0]) (asSome A fun a=>lL (aadd a 0) fun a b _=>asSome A fun c=>lI (aadd c 2) fun c=>asSome a fun a=>ix c b (lI (aadd (aadd a ((Int.toNat c)*4)) 0) fun a=>rr [nI a]))
theorem T154_eq (A:Option Addr):progOf PROG false 154 [(.pointer A)]=T154 A:=by kernel_rfl
noncomputable def T155k0:TK:=
 Vn
noncomputable def T155 (A:Option Addr):Pg:=
 .join (qI 154 [.pointer A] fun a=>iB ((a==2)==true) (asSome A fun a=>lL (aadd a 0) fun a b _=>asSome A fun c=>lI (aadd c 2) fun c=>asSome a fun a=>ix c b (lS (aadd (aadd a ((Int.toNat c)*4)) 1) fun a=>rn [(.bool (a.toList==(bs [95]).toList))])) (rn [.bool false])) (T155k0)
theorem T155_eq (A:Option Addr):progOf PROG false 155 [(.pointer A)]=T155 A:=by kernel_rfl
noncomputable def T157k0 (A B:Option Addr):TK:=
 fun a b=>sw a .normal (Xa b fun a=>iB a (rr [.pointer A]) (qA 75 [.pointer B] fun a=>Xi a fun a b c d=>nw Zt fun f=>sC f (Vb a b c d) (.act (ldN 4 f) fun a=>asAgg a fun b=>Xi b fun b c d g=>.call 231 [.pointer B] fun h=>asPtr h fun h=>.get fun i=>grd (chks [((ldN 4 f),a)] i) (.call 232 [(.agg #[nI b,.string c,nI d,nI g]),.pointer A,.pointer h] fun a=>asPtr a fun a=>rr [.pointer a])))) (.fail)
noncomputable def T157 (A:Option Addr):Pg:=
 .call 231 [.pointer A] fun a=>asPtr a fun a=>.join (qB 37 (Wm A 0 (bs [60])) fun a=>iB ((!a)==true) (qB 37 (Wm A 0 (bs [61])) fun a=>rn [(.bool (!a))]) (rn [.bool false])) (T157k0 a A)
theorem T157_eq (A:Option Addr):progOf PROG false 157 [(.pointer A)]=T157 A:=by kernel_rfl
noncomputable def T158k0:TK:=
 Vn
noncomputable def T158 (A:ByteArray):Pg:=
 .join (iB ((!(A.toList==(bs [95]).toList))==true) (qB 233 [.string A,nI 2] fun a=>rn [.bool a]) (rn [.bool false])) (T158k0)
theorem T158_eq (A:ByteArray):progOf PROG false 158 [.string A]=T158 A:=by kernel_rfl
noncomputable def T162 (A:Option Addr) (B C:Nat) (D:ByteArray):Pg:=
 qI 234 [.slice A B C,.string D] fun a=>rr [(.bool (decide (a≥0)))]
theorem T162_eq (A:Option Addr) (B C:Nat) (D:ByteArray):progOf PROG false 162 [.slice A B C,.string D]=T162 A B C D:=by kernel_rfl
noncomputable def T164 (A:Option Addr) (B C:Nat) (D:Value):Pg:=
 qI 235 [.slice A B C,D] fun a=>rr [(.bool (decide (a≥0)))]
theorem T164_eq (A:Option Addr) (B C:Nat) (D:Value):progOf PROG false 164 [.slice A B C,D]=T164 A B C D:=by kernel_rfl
noncomputable def T165k0:TK:=
 Vn
noncomputable def T165k1 (A B:Addr):TK:=
 fun a b=>sw a .normal (Xa b fun a=>iB a (rr [.bool true]) (Yw A fun a b c d f g=>lS (aadd B 2) fun h=>qT 239 [(We a b c d f g),.string h] fun a=>Xx a fun a b c=>.join (iB (c==true) (lL (aadd A 1) fun c d _=>asSome c fun c=>ix a d (lL (aadd (aadd c ((Int.toNat a)*2)) 1) fun a c _=>asSome a fun a=>ix b c (lL (aadd (aadd a ((Int.toNat b)*2)) 1) fun _ a _=>lL (aadd B 4) fun _ b _=>rn [(.bool ((a:Int)==(b:Int)))]))) (rn [.bool false])) (T165k0))) (.fail)
noncomputable def T165k2 (A B:Addr):TK:=
 fun a b=>sw a .normal (Xa b fun a=>iB a (rr [.bool false]) (.join (lI (aadd A 0) fun a=>iB ((a !=5)==true) (lI (aadd A 0) fun a=>rn [(.bool (a !=26))]) (rn [.bool false])) (T165k1 B A))) (.fail)
noncomputable def T165k3 (A B:Addr):TK:=
 fun a b=>sw a .normal (Xa b fun a=>iB a (rr [.bool false]) (lI (aadd A 0) fun a=>qT 238 [nI a] fun a=>Xe a fun a b=>.join (lL (aadd A 4) fun _ c _=>iB ((decide ((c:Int)<a))==false) (lL (aadd A 4) fun _ a _=>iB ((decide ((a:Int)>b))==false) (lI (aadd A 0) fun a=>iB ((a==11)==true) (lL (aadd A 4) fun _ a _=>qB 92 [(nI (a:Int))] fun a=>rn [(.bool (!a))]) (rn [.bool false])) (rn [.bool true])) (rn [.bool true])) (T165k2 A B))) (.fail)
noncomputable def T165 (A:Option Addr) (B C:Nat) (D:Option Addr) (E F:Nat) (G H:Int) (I J:ByteArray) (K:Option Addr) (L M:Nat) (N O:Int):Pg:=
 nw (Wa A B C D E F) fun a=>nw (Ws G H I J K L M N O) fun b=>.join (lI (aadd b 0) fun a=>iB ((decide (a<1))==false) (lI (aadd b 0) fun a=>iB ((decide (a>26))==false) (Za b fun a c d f g h i j k=>qB 236 [(Vc a c d f g h i j k)] fun a=>iB ((!a)==false) (Za b fun a b c d f g h i j=>qB 237 [(Vc a b c d f g h i j)] fun a=>rn [(.bool (!a))]) (rn [.bool true])) (rn [.bool true])) (rn [.bool true])) (T165k3 b a)
theorem T165_eq (A:Option Addr) (B C:Nat) (D:Option Addr) (E F:Nat) (G H:Int) (I J:ByteArray) (K:Option Addr) (L M:Nat) (N O:Int):progOf PROG false 165 [(.agg #[.slice A B C,.slice D E F]),(.agg #[(.int .i64 G),(.int .i64 H),.string I,.string J,.slice K L M,(.int .i64 N),(.int .i64 O)])]=T165 A B C D E F G H I J K L M N O:=by kernel_rfl
noncomputable def T166 (A:Option Addr):Pg:=
 nw Zp fun a=>asSome A fun b=>lI (aadd b 0) fun b=>nw Zp fun c=>sC c (Wo 7 (bs []) b none 0 0) (asSome A fun b=>lI (aadd b 0) fun b=>asSome A fun d=>sC (aadd d 0) [(nI (minV (wi64 (b+1)) 1999))] (Yz c fun b c d f g h=>sC a (Wo b c d f g h) (.act (ldN 4 a) fun a=>rr [a])))
theorem T166_eq (A:Option Addr):progOf PROG false 166 [(.pointer A)]=T166 A:=by kernel_rfl
noncomputable def T167 (A:Option Addr) (B:ByteArray) (C:Int) (D:ByteArray) (E:Int) (F:Option Addr) (G H:Nat):Pg:=
 nw (Wo C D E F G H) fun a=>Yz a fun a b c d f g=>qA 169 [(Wl a b c d f g)] fun a=>Xm a fun a b c d f g h i j=>nw [.string B,.slice a b c,nI d,.string f,nI g,.slice h i j,.pointer A] fun a=>rr [(.pointer (some a))]
theorem T167_eq (A:Option Addr) (B:ByteArray) (C:Int) (D:ByteArray) (E:Int) (F:Option Addr) (G H:Nat):progOf PROG false 167 [(.pointer A),.string B,(.agg #[(.int .i64 C),.string D,(.int .i64 E),.slice F G H])]=T167 A B C D E F G H:=by kernel_rfl
noncomputable def T168 (A:Option Addr) (B C:Int) (D:ByteArray) (E:Int) (F:Option Addr) (G H:Nat) (I:Int) (J:ByteArray) (K:Int) (L:Option Addr) (M N:Nat):Pg:=
 nw (Wo C D E F G H) fun a=>nw (Wo I J K L M N) fun b=>asSome A fun c=>lI (aadd c 10) fun c=>iB (c !=0) (rr [(.tuple #[])]) (asSome A fun c=>.act (ld1 (aadd c 2)) fun c=>asPtr c fun c=>Yz a fun a d f g h i=>Yz b fun b j k l m n=>qI 240 [.pointer c,(Wl a d f g h i),(Wl b j k l m n)] fun a=>asSome A fun b=>sC (aadd b 10) [nI a] (asSome A fun a=>sC (aadd a 11) [nI B] (rr [(.tuple #[])])))
theorem T168_eq (A:Option Addr) (B C:Int) (D:ByteArray) (E:Int) (F:Option Addr) (G H:Nat) (I:Int) (J:ByteArray) (K:Int) (L:Option Addr) (M N:Nat):progOf PROG false 168 [(.pointer A),(.int .i64 B),(.agg #[(.int .i64 C),.string D,(.int .i64 E),.slice F G H]),(.agg #[(.int .i64 I),.string J,(.int .i64 K),.slice L M N])]=T168 A B C D E F G H I J K L M N:=by kernel_rfl
noncomputable def T169 (A:Int) (B:ByteArray) (C:Int) (D:Option Addr) (E F:Nat):Pg:=
 nw (Wo A B C D E F) fun a=>nw Zy fun b=>Yz a fun a c d f g h=>sC b (Vh none 0 0 a c d f g h) (.act (ldN 5 b) fun a=>rr [a])
theorem T169_eq (A:Int) (B:ByteArray) (C:Int) (D:Option Addr) (E F:Nat):progOf PROG false 169 [(.agg #[(.int .i64 A),.string B,(.int .i64 C),.slice D E F])]=T169 A B C D E F:=by kernel_rfl
noncomputable def T171k0 (A:Int):TK:=
 Vm A
noncomputable def T171b0 (A:Nat) (B:Option Addr) (C:Option Nat):TB:=
 fun a=>Xd a fun a=>iB (decide (a<(A:Int))) (.join (asSome B fun b=>ix a A (lI (aadd b ((Int.toNat a)*1)) fun a=>.act (mup (.int .i64) C (nI a) (.bool true)) fun a=>asTuple a fun a=>asNil a (rn []))) (T171k0 a)) (re 2 [nI a])
noncomputable def T171k1:TK:=
 Vu
noncomputable def T171k2 (A:Int):TK:=
 Vm A
noncomputable def T171b1 (A:Nat) (B C:Option Addr) (D:Option Nat):TB:=
 fun a=>Xd a fun a=>iB (decide (a<(A:Int))) (.join (asSome B fun b=>ix a A (Zf (aadd b ((Int.toNat a)*5)) fun a b c d f g h i j=>nw Zy fun k=>sC k (Vh a b c d f g h i j) (Zf k fun a b c d f g h i j=>qL 244 [.pointer C,(.agg #[.slice a b c,nI d,.string f,nI g,.slice h i j])] fun a b _=>.loop [nI 0] (T171b0 b a D) (T171k1)))) (T171k2 a)) (re 0 [nI a])
noncomputable def T171k3:TK:=
 Vl
noncomputable def T171k4 (A:Int):TK:=
 Vm A
noncomputable def T171b2 (A:Nat) (B:Option Addr) (C:Option Nat) (D:Addr):TB:=
 fun a=>Xd a fun a=>iB (decide (a<(A:Int))) (.join (asSome B fun b=>ix a A (lI (aadd b ((Int.toNat a)*1)) fun a=>.act (lkp (.int .i64) (.bool false) C (nI a) false) fun b=>asBool b fun b=>.join (iB (!b) (lL (aadd D 0) fun b c d=>bL 1 1 [nI a] fun a f g=>.act (apS 1 8 b c d a f g) fun a=>asSlice a fun a b c=>sC (aadd D 0) [.slice a b c] (rn [])) (rn [])) (T171k3))) (T171k4 a)) (re 4 [nI a])
noncomputable def T171k5 (A B:Addr):TK:=
 fun a b=>sw a (.exit 4) (Xd b fun _=>lL (aadd A 0) fun a b c=>qT 245 [.slice a b c] fun a=>asNil a (Zf A fun a b c d f g h i j=>sC B (Vh a b c d f g h i j) (.act (ldN 5 B) fun a=>rr [a]))) (.fail)
noncomputable def T171k6 (A:Addr) (B:Option Addr) (C:Option Nat) (D:Addr):TK:=
 fun a b=>sw a (.exit 0) (Xd b fun _=>Yz A fun a b c d f g=>qA 45 [.pointer B,(Wl a b c d f g)] fun a=>Xb a fun a b c d f g=>nw Zy fun h=>sC h (Vh none 0 0 a b c d f g) (Yz (aadd h 1) fun a b c d f g=>qL 70 [(Wl a b c d f g)] fun a b _=>.loop [nI 0] (T171b2 b a C h) (T171k5 h D))) (.fail)
noncomputable def T171k7 (A B:Addr) (C:Nat) (D E:Option Addr):TK:=
 fun a b=>sw a .normal (Xa b fun a=>iB a (Yz A fun a b c d f g=>qA 169 [(Wl a b c d f g)] fun a=>Xm a fun a b c d f g h i j=>sC B (Vh a b c d f g h i j) (.act (ldN 5 B) fun a=>rr [a])) (.act makeMapAct fun a=>asMap a fun a=>.loop [nI 0] (T171b1 C D E a) (T171k6 A E a B))) (.fail)
noncomputable def T171 (A:Option Addr) (B:Int) (C:ByteArray) (D:Int) (E:Option Addr) (F G:Nat) (H:Option Addr) (I J:Nat):Pg:=
 nw (Wo B C D E F G) fun a=>nw Zy fun b=>.join (Yz a fun a b c d f g=>qB 90 [(Wl a b c d f g)] fun a=>iB ((!a)==false) (qB 241 [.slice H I J,(.func (.func 242) #[] #[])] fun a=>rn [.bool a]) (rn [.bool true])) (T171k7 a b I H A)
theorem T171_eq (A:Option Addr) (B:Int) (C:ByteArray) (D:Int) (E:Option Addr) (F G:Nat) (H:Option Addr) (I J:Nat):progOf PROG false 171 [(.pointer A),(.agg #[(.int .i64 B),.string C,(.int .i64 D),.slice E F G]),.slice H I J]=T171 A B C D E F G H I J:=by kernel_rfl
noncomputable def T172k0 (A:Option Addr):TK:=
 fun a b=>sw a .normal (Xh b fun a b c=>asSome A fun d=>.act (ld1 (aadd d 6)) fun d=>asPtr d fun d=>rn [.pointer d,.slice a b c]) (.fail)
noncomputable def T172b0:TB:=
 fun a=>Yr a fun a b c d=>iB (!(Option.isNone a)) (.join (asSome a fun a=>Zf (aadd a 1) fun a f g h i j k l m=>bL 5 1 (Vh a f g h i j k l m) fun a f g=>.act (apS 5 80 b c d a f g) fun a=>asSlice a fun a b c=>rn [.slice a b c]) (T172k0 a)) (re 0 [.pointer a,.slice b c d])
noncomputable def T172k1:TK:=
 fun a b=>sw a (.exit 0) (asCons b fun a b=>asPtr a fun _=>Xh b fun a b c=>rr [.slice a b c]) (.fail)
noncomputable def T172 (A:Option Addr):Pg:=
 .loop [.pointer A,.slice none 0 0] (T172b0) (T172k1)
theorem T172_eq (A:Option Addr):progOf PROG false 172 [(.pointer A)]=T172 A:=by kernel_rfl
noncomputable def T173k0 (A B:Addr) (C D:Option Addr) (E:Addr):TK:=
 fun a b=>sw a .normal (asNil b (.act (ld1 (aadd A 4)) fun a=>asSlice a fun b c _=>asSome b fun b=>grd (decide (1<(c:Int))) (.act (ld1 (aadd b 1)) fun c=>asInt .i64 c fun d=>lS (aadd A 2) fun f=>Zf B fun g h i j k l m n o=>nw [.string f,.slice g h i,nI j,.string k,nI l,.slice m n o,.pointer C] fun f=>.get fun g=>grd (chks [((ld1 (aadd b 1)),c),((ld1 (aadd A 4)),a)] g) (qA 44 (Wq D d (some f)) fun a=>Xb a fun a b c d f g=>sC E (Wo a b c d f g) (.act (ldN 4 E) fun a=>rr [a]))))) (.fail)
noncomputable def T173 (A:Option Addr) (B C D:Int) (E F:ByteArray) (G:Option Addr) (H I:Nat) (J K:Int) (L:Option Addr):Pg:=
 nw (Ws C D E F G H I J K) fun a=>nw Zp fun b=>.get fun c=>asSome A fun d=>.act (ld1 (aadd d 2)) fun d=>asPtr d fun d=>asSome A fun f=>.act (ld1 (aadd f 2)) fun g=>asPtr g fun h=>asSome A fun i=>.act (ld1 (aadd i 2)) fun j=>asPtr j fun k=>.get fun l=>grd (newN c.n l []) (nw Zp fun m=>.get fun n=>.get fun o=>grd (newN c.n o [l.n]) (nw Zp fun p=>.get fun q=>.get fun r=>grd (newN c.n r [o.n,l.n]) (nw Zp fun c=>.get fun s=>qA 166 [.pointer d] fun d=>Xb d fun d t u v w x=>.get fun y=>grd (chks [((ld1 (aadd i 2)),j),((ld1 (aadd f 2)),g)] y) (.get fun f=>grd (chkO [(r.n,(s.get r.n)),(o.n,(q.get o.n)),(l.n,(n.get l.n))] f) (qA 166 [.pointer h] fun f=>Xb f fun f g h y z a0=>.get fun a1=>grd (chks [((ld1 (aadd i 2)),j)] a1) (.get fun i=>grd (chkO [(r.n,(s.get r.n)),(o.n,(q.get o.n)),(l.n,(n.get l.n))] i) (qA 166 [.pointer k] fun i=>Xb i fun i j k a1 a2 a3=>.get fun a4=>grd (chkO [(r.n,(s.get r.n)),(o.n,(q.get o.n)),(l.n,(n.get l.n))] a4) (sC m (Wo d t u v w x) (sC p (Wo f g h y z a0) (sC c (Wo i j k a1 a2 a3) (asSome A fun d=>lL (aadd (aadd d 3) 1) fun d f _=>asSome A fun g=>lL (aadd (aadd g 3) 2) fun g h _=>Yz m fun i j k l n o=>.act (ldN 4 p) fun q=>asAgg q fun r=>Xb r fun r s t u v w=>asSome d fun d=>ix B f (sC (aadd d ((Int.toNat B)*4)) (Wo i j k l n o) (.get fun d=>grd (chks [((ldN 4 p),q)] d) (asSome g fun d=>ix B h (sC (aadd d ((Int.toNat B)*4)) (Wo r s t u v w) (.act (ldN 4 m) fun d=>asAgg d fun f=>Xb f fun f g h i j k=>Yz p fun l n o q r s=>Yz c fun t u v w x y=>bL 4 2 [nI l,.string n,nI o,.slice q r s,nI t,.string u,nI v,.slice w x y] fun l n o=>.get fun q=>grd (chks [((ldN 4 m),d)] q) (qA 86 (Wv 5 l n o) fun l=>Xb l fun l n o q r s=>.get fun t=>grd (chks [((ldN 4 m),d)] t) (qT 168 [.pointer A,nI B,(Wl f g h i j k),(Wl l n o q r s)] fun d=>asNil d (.act (ld1 (aadd a 4)) fun d=>asSlice d fun f g _=>asSome f fun f=>grd (decide (0<(g:Int))) (.act (ld1 (aadd f 0)) fun g=>asInt .i64 g fun h=>lS (aadd a 2) fun i=>Yz m fun j k l n o q=>.get fun r=>.call 167 [.pointer L,.string i,(Wl j k l n o q)] fun i=>asPtr i fun i=>.get fun j=>grd (chks [((ld1 (aadd f 0)),g),((ld1 (aadd a 4)),d)] j) (.act (ld1 (aadd a 3)) fun j=>grd (past (ld1 (aadd a 3)) j [r]) (asStr j fun j=>.act (ldN 4 p) fun k=>grd (past (ldN 4 p) k [r]) (asAgg k fun k=>Xb k fun k l n o p q=>.get fun s=>.call 167 [.pointer i,.string j,(Wl k l n o p q)] fun i=>asPtr i fun i=>.get fun j=>grd (chks [((ld1 (aadd f 0)),g),((ld1 (aadd a 4)),d)] j) (.act (ldN 4 c) fun d=>grd (past (ldN 4 c) d [s,r]) (asAgg d fun c=>Xb c fun c d f g j k=>qT 175 [.pointer A,nI h,.pointer i,(Wl c d f g j k)] fun c=>asNil c (Yz m fun c d f g h i=>qA 169 [(Wl c d f g h i)] fun c=>Xm c fun c d f g h i j k l=>nw Zy fun n=>sC n (Vh c d f g h i j k l) (asSome A fun c=>lI (aadd c 10) fun c=>.join (iB (c==0) (asSome A fun a=>.act (ld1 (aadd a 2)) fun b=>asPtr b fun c=>.act (ldN 4 m) fun d=>asAgg d fun f=>Xb f fun f g h i j k=>qL 172 [.pointer L] fun l o p=>.get fun q=>grd (chks [((ldN 4 m),d),((ld1 (aadd a 2)),b)] q) (qA 171 [.pointer c,(Wl f g h i j k),.slice l o p] fun a=>Xm a fun a b c d f g h i j=>sC n (Vh a b c d f g h i j) (rn []))) (rn [])) (T173k0 a n L A b))))))))))))))))))))))))))))
theorem T173_eq (A:Option Addr) (B C D:Int) (E F:ByteArray) (G:Option Addr) (H I:Nat) (J K:Int) (L:Option Addr):progOf PROG false 173 [(.pointer A),(.int .i64 B),(.agg #[(.int .i64 C),(.int .i64 D),.string E,.string F,.slice G H I,(.int .i64 J),(.int .i64 K)]),(.pointer L)]=T173 A B C D E F G H I J K L:=by kernel_rfl
noncomputable def T175 (A:Option Addr) (B:Int) (C:Option Addr) (D:Int) (E:ByteArray) (F:Int) (G:Option Addr) (H I:Nat):Pg:=
 nw (Wo D E F G H I) fun a=>.get fun b=>qA 44 (Wq A B C) fun c=>Xb c fun c d f g h i=>.act (ldN 4 a) fun j=>grd (past (ldN 4 a) j [b]) (asAgg j fun a=>Xb a fun a b j k l m=>qT 168 [.pointer A,nI B,(Wl c d f g h i),(Wl a b j k l m)] fun a=>asNil a (rr [(.tuple #[])]))
theorem T175_eq (A:Option Addr) (B:Int) (C:Option Addr) (D:Int) (E:ByteArray) (F:Int) (G:Option Addr) (H I:Nat):progOf PROG false 175 [(.pointer A),(.int .i64 B),(.pointer C),(.agg #[(.int .i64 D),.string E,(.int .i64 F),.slice G H I])]=T175 A B C D E F G H I:=by kernel_rfl
noncomputable def T176k0 (A:Option Addr):TK:=
 fun a b=>sw a .ret (Xa b fun a=>rr [.pointer A,.bool a]) (sw a .normal (Xa b fun a=>asSome A fun b=>.act (ld1 (aadd b 6)) fun b=>asPtr b fun b=>rn [.pointer b,.bool a]) (.fail))
noncomputable def T176b0 (A:ByteArray) (B:Addr):TB:=
 fun a=>Ys a fun a b=>iB (!(Option.isNone a)) (.join (asSome a fun c=>lS (aadd c 0) fun c=>iB (c.toList==A.toList) (asSome a fun a=>Zf (aadd a 1) fun a b c d f g h i j=>sC B (Vh a b c d f g h i j) (rr [.bool true])) (rn [.bool b])) (T176k0 a)) (re 0 [.pointer a,.bool b])
noncomputable def T176k1 (A:Addr):TK:=
 fun a b=>sw a (.exit 0) (asCons b fun a b=>asPtr a fun _=>Xa b fun _=>sC A Zy (.act (ldN 5 A) fun a=>rr [(.tuple #[a,.bool false])])) (sw a .ret (asCons b fun a b=>asPtr a fun _=>Xa b fun a=>.act (ldN 5 A) fun b=>rr [(.tuple #[b,.bool a])]) (.fail))
noncomputable def T176 (A:Option Addr) (B:ByteArray):Pg:=
 nw Zy fun a=>.loop [.pointer A,.bool false] (T176b0 B a) (T176k1 a)
theorem T176_eq (A:Option Addr) (B:ByteArray):progOf PROG false 176 [(.pointer A),.string B]=T176 A B:=by kernel_rfl
noncomputable def T177k0 (A:Int):TK:=
 Vm A
noncomputable def T177b0 (A:Nat) (B C:Option Addr) (D:Option Nat):TB:=
 fun a=>Xd a fun a=>iB (decide (a<(A:Int))) (.join (asSome B fun b=>ix a A (lI (aadd b ((Int.toNat a)*1)) fun a=>qA 166 [.pointer C] fun b=>Xb b fun b c d f g h=>.act (mup (.int .i64) D (nI a) (Wl b c d f g h)) fun a=>asTuple a fun a=>asNil a (rn []))) (T177k0 a)) (re 0 [nI a])
noncomputable def T177k1 (A:Addr) (B:Option Nat) (C:Option Addr) (D:Addr):TK:=
 fun a b=>sw a (.exit 0) (Xd b fun _=>Yz (aadd A 1) fun a b c d f g=>qA 247 [(Wl a b c d f g),.map B] fun a=>Xb a fun a b c d f g=>qA 45 [.pointer C,(Wl a b c d f g)] fun a=>Xb a fun a b c d f g=>sC D (Wo a b c d f g) (.act (ldN 4 D) fun a=>rr [a])) (.fail)
noncomputable def T177 (A B:Option Addr) (C D:Nat) (E:Int) (F:ByteArray) (G:Int) (H:Option Addr) (I J:Nat):Pg:=
 nw (Vh B C D E F G H I J) fun a=>nw Zp fun b=>Zf a fun c d f g h i j k l=>qB 243 [(.agg #[.slice c d f,nI g,.string h,nI i,.slice j k l])] fun c=>iB (!c) (Yz (aadd a 1) fun a c d f g h=>sC b (Wo a c d f g h) (.act (ldN 4 b) fun a=>rr [a])) (.act makeMapAct fun c=>asMap c fun c=>lL (aadd a 0) fun d f _=>.loop [nI 0] (T177b0 f d A c) (T177k1 a c A b))
theorem T177_eq (A B:Option Addr) (C D:Nat) (E:Int) (F:ByteArray) (G:Int) (H:Option Addr) (I J:Nat):progOf PROG false 177 [(.pointer A),(.agg #[.slice B C D,(.int .i64 E),.string F,(.int .i64 G),.slice H I J])]=T177 A B C D E F G H I J:=by kernel_rfl
noncomputable def T180 (A:Int) (B:ByteArray) (C:Int) (D:Option Addr) (E F:Nat):Pg:=
 nw (Wo A B C D E F) fun a=>Yz a fun a b c d f g=>qI 249 [(Wl a b c d f g),nI 0] fun a=>rr [nI a]
theorem T180_eq (A:Int) (B:ByteArray) (C:Int) (D:Option Addr) (E F:Nat):progOf PROG false 180 [(.agg #[(.int .i64 A),.string B,(.int .i64 C),.slice D E F])]=T180 A B C D E F:=by kernel_rfl
noncomputable def T181k0 (A:Int):TK:=
 Vr A
noncomputable def T181b0 (A:Nat) (B:Option Addr):TB:=
 fun a=>Xg a fun a b=>iB (decide (a<(A:Int))) (.join (asSome B fun c=>ix a A (Yz (aadd c ((Int.toNat a)*4)) fun a c d f g h=>nw Zp fun i=>sC i (Wo a c d f g h) (Yz i fun a c d f g h=>qB 181 [(Wl a c d f g h)] fun a=>iB (!a) (rr [.bool false]) (rn [.bool b])))) (T181k0 a)) (re 0 (Wd a b))
noncomputable def T181k1:TK:=
 Vt
noncomputable def T181k2 (A:Addr):TK:=
 fun a b=>sw a .normal (Xa b fun a=>iB a (rr [.bool false]) (lL (aadd A 3) fun a b _=>.loop Zi (T181b0 b a) (T181k1))) (.fail)
noncomputable def T181k3 (A:Addr):TK:=
 fun a b=>sw a .normal (Xa b fun a=>iB a (rr [.bool false]) (.join (lI (aadd A 2) fun a=>iB ((decide (a<0))==false) (lI (aadd A 2) fun a=>iB ((decide (a>1999))==false) (lI (aadd A 2) fun a=>iB ((a !=0)==true) (lI (aadd A 0) fun a=>rn [(.bool (a !=7))]) (rn [.bool false])) (rn [.bool true])) (rn [.bool true])) (T181k2 A))) (.fail)
noncomputable def T181 (A:Int) (B:ByteArray) (C:Int) (D:Option Addr) (E F:Nat):Pg:=
 nw (Wo A B C D E F) fun a=>.join (lI (aadd a 0) fun b=>iB ((decide (b<1))==false) (lI (aadd a 0) fun b=>iB ((decide (b>7))==false) (.act (ld1 (aadd a 3)) fun b=>asSlice b fun _ c _=>lI (aadd a 0) fun d=>qI 250 [nI d] fun d=>.get fun f=>grd (chks [((ld1 (aadd a 3)),b)] f) (iB (((c:Int) !=d)==false) (lS (aadd a 1) fun b=>lI (aadd a 0) fun a=>rn [(.bool (!((!(b.toList==(bs []).toList))==(a==4))))]) (rn [.bool true]))) (rn [.bool true])) (rn [.bool true])) (T181k3 a)
theorem T181_eq (A:Int) (B:ByteArray) (C:Int) (D:Option Addr) (E F:Nat):progOf PROG false 181 [(.agg #[(.int .i64 A),.string B,(.int .i64 C),.slice D E F])]=T181 A B C D E F:=by kernel_rfl
noncomputable def T182k0:TK:=
 fun a b=>sw a (.exit 0) (asNil b (re 0 [])) (sw a .normal (asNil b (rn [])) (.fail))
noncomputable def T182b0 (A:Addr) (B:Option Addr):TB:=
 fun a=>asNil a (lI (aadd A 0) fun a=>iB (a==7) (.join (asSome B fun a=>.act (ld1 (aadd a 1)) fun b=>asMap b fun c=>.act (ld1 (aadd A 2)) fun d=>asInt .i64 d fun f=>.act (lkp (.int .i64) Zz c (nI f) true) fun g=>asTuple g fun h=>asCons h fun h i=>asAgg h fun h=>Xb h fun h j k l m n=>Xa i fun i=>nw Zp fun o=>.get fun p=>grd (chks [((lkp (.int .i64) Zz c (nI f) true),g),((ld1 (aadd A 2)),d),((ld1 (aadd a 1)),b)] p) (sC o (Wo h j k l m n) (iB (!i) (re 0 []) (Yz o fun a b c d f g=>sC A (Wo a b c d f g) (rn []))))) (T182k0)) (re 0 []))
noncomputable def T182k1 (A B:Addr):TK:=
 fun a b=>sw a (.exit 0) (asNil b (Yz A fun a b c d f g=>sC B (Wo a b c d f g) (.act (ldN 4 B) fun a=>rr [a]))) (.fail)
noncomputable def T182 (A:Option Addr) (B:Int) (C:ByteArray) (D:Int) (E:Option Addr) (F G:Nat):Pg:=
 nw (Wo B C D E F G) fun a=>nw Zp fun b=>.loop [] (T182b0 a A) (T182k1 a b)
theorem T182_eq (A:Option Addr) (B:Int) (C:ByteArray) (D:Int) (E:Option Addr) (F G:Nat):progOf PROG false 182 [(.pointer A),(.agg #[(.int .i64 B),.string C,(.int .i64 D),.slice E F G])]=T182 A B C D E F G:=by kernel_rfl
noncomputable def T185k0:TK:=
 Us
noncomputable def T185k1:TK:=
 Us
noncomputable def T185k2 (A:Int) (B:Option Addr) (C D:Nat) (E:Int) (F G:Addr):TK:=
 fun a b=>sw a .normal (Xa b fun a=>.join (iB a (bL 2 1 (Wd A false) fun a b c=>.act (apS 2 16 B C D a b c) fun a=>asSlice a fun a b c=>rn (Wa none 0 0 a b c)) (iB (E==9) (.act (ldN 2 F) fun a=>asAgg a fun b=>Xf b fun b c d f g h=>.act (ld1 (aadd G 4)) fun i=>asSlice i fun j k _=>asSome j fun j=>grd (decide (1<(k:Int))) (.act (ld1 (aadd j 1)) fun k=>asInt .i64 k fun l=>bL 2 1 (Wd A false) fun m n o=>.get fun p=>grd (chks [((ld1 (aadd j 1)),k),((ld1 (aadd G 4)),i),((ldN 2 F),a)] p) (.act (apS 2 16 B C D m n o) fun m=>asSlice m fun m n o=>.get fun p=>grd (chks [((ld1 (aadd j 1)),k),((ld1 (aadd G 4)),i),((ldN 2 F),a)] p) (qL 185 [(We b c d f g h),nI l,.slice m n o] fun a b c=>rr (Wa a b c B C D))))) (.join (iB (E==20) (bL 2 1 (Wd A true) fun a b c=>.act (apS 2 16 B C D a b c) fun a=>asSlice a fun a b c=>rn (Wa none 0 0 a b c)) (iB (E==6) (rr (Wa B C D B C D)) (rn (Wa none 0 0 B C D)))) (T185k0)))) (T185k1)) (.fail)
noncomputable def T185k3 (A:Int):TK:=
 Vo A
noncomputable def T185b0 (A:Nat) (B:Option Addr) (C:Addr):TB:=
 fun a=>Xj a fun a b c d=>iB (decide (a<(A:Int))) (.join (asSome B fun f=>ix a A (lI (aadd f ((Int.toNat a)*1)) fun a=>Yw C fun f g h i j k=>qL 185 [(We f g h i j k),nI a,.slice b c d] fun a b c=>rn [.slice a b c])) (T185k3 a)) (re 1 (Wv a b c d))
noncomputable def T185k4:TK:=
 fun a b=>sw a (.exit 1) (Xj b fun _ a b c=>rr [.slice a b c]) (.fail)
noncomputable def T185k5 (A B:Addr):TK:=
 fun a b=>sw a .normal (Xf b fun _ _ _ a b c=>lL (aadd A 4) fun d f _=>.loop (Wv 0 a b c) (T185b0 f d B) (T185k4)) (sw a .ret (Xf b fun a b c _ _ _=>rr [.slice a b c]) (.fail))
noncomputable def T185 (A:Option Addr) (B C:Nat) (D:Option Addr) (E F:Nat) (G:Int) (H:Option Addr) (I J:Nat):Pg:=
 nw (Wa A B C D E F) fun a=>lL (aadd a 0) fun b c _=>asSome b fun b=>ix G c (Za (aadd b ((Int.toNat G)*7)) fun b c d f g h i j k=>nw Zq fun l=>sC l (Ws b c d f g h i j k) (lI (aadd l 0) fun b=>.join (.join (iB (b==8) (rn [(.bool (b==8))]) (rn [(.bool (b==22))])) (T185k2 G H I J b a l)) (T185k5 l a)))
theorem T185_eq (A:Option Addr) (B C:Nat) (D:Option Addr) (E F:Nat) (G:Int) (H:Option Addr) (I J:Nat):progOf PROG false 185 [(.agg #[.slice A B C,.slice D E F]),(.int .i64 G),.slice H I J]=T185 A B C D E F G H I J:=by kernel_rfl
noncomputable def T186k0:TK:=
 Ut
noncomputable def T186k1 (A:Int):TK:=
 fun a b=>sw a .normal (Xd b fun a=>rn (Wh (wi64 (A+1)) a)) (.fail)
noncomputable def T186b0 (A:Nat) (B:Option Addr) (C:Value):TB:=
 fun a=>Xe a fun a b=>iB (decide (a<(A:Int))) (.join (asSome B fun c=>ix a A (lS (aadd c ((Int.toNat a)*1)) fun a=>asFunc C fun c d f=>.call c (d++[.string a]++f) fun c=>asBool c fun c=>.join (iB (!c) (asSome B fun c=>ix b A (sC (aadd c ((Int.toNat b)*1)) [.string a] (rn [(nI (wi64 (b+1)))]))) (rn [nI b])) (T186k0))) (T186k1 a)) (re 0 (Wh a b))
noncomputable def T186k2 (A B:Nat) (C:Option Addr):TK:=
 fun a b=>sw a (.exit 0) (Xe b fun _ a=>grd (((((decide (0≤a))&&(decide (a≤(A:Int))))&&(decide ((A:Int)≤(B:Int))))&&(decide ((B:Int)≤(B:Int))))&&((mayCut C 1)||(decide (a=0)))) (.act (clr [(.string (bs []))] (cutS C ((Int.toNat a)*1)) (A - (Int.toNat a))) fun b=>asTuple b fun b=>asNil b (grd ((((decide (0≤a))&&(decide (a≤(B:Int))))&&(decide ((B:Int)≤(B:Int))))&&((mayCut C 1)||true)) (rr [(.slice C (Int.toNat a) B)])))) (.fail)
noncomputable def T186 (A:Option Addr) (B C:Nat) (D:Value):Pg:=
 qI 235 [.slice A B C,D] fun a=>iB (a==(-1)) (rr [.slice A B C]) (.loop (Wh (wi64 (a+1)) a) (T186b0 B A D) (T186k2 B C A))
theorem T186_eq (A:Option Addr) (B C:Nat) (D:Value):progOf PROG false 186 [.slice A B C,D]=T186 A B C D:=by kernel_rfl
noncomputable def T188k0:TK:=
 Vn
noncomputable def T188 (A:ByteArray) (B:Addr):Pg:=
 .join (lS (aadd B 3) fun a=>iB ((A.toList==a.toList)==false) (lI (aadd B 0) fun a=>iB ((a==9)==true) (lS (aadd B 2) fun a=>rn [(.bool (A.toList==a.toList))]) (rn [.bool false])) (rn [.bool true])) (T188k0)
theorem T188_eq (A:ByteArray) (B:Addr):progOf PROG false 188 [.string A,(.pointer (some B))]=T188 A B:=by kernel_rfl
noncomputable def T189k0:TK:=
 Vk
noncomputable def T189k1:TK:=
 Vk
noncomputable def T189k2:TK:=
 Vk
noncomputable def T189k3:TK:=
 Vk
noncomputable def T189k4:TK:=
 Vk
noncomputable def T189k5:TK:=
 Vk
noncomputable def T189k6:TK:=
 Vk
noncomputable def T189k7:TK:=
 Vk
noncomputable def T189k8:TK:=
 Ua
noncomputable def T189k9:TK:=
 Ub
noncomputable def T189 (A:Int):Pg:=
 .join (.join (iB (A==7) (rn [(.bool (A==7))]) (.join (iB (A==8) (rn [(.bool (A==8))]) (.join (iB (A==9) (rn [(.bool (A==9))]) (.join (iB (A==10) (rn [(.bool (A==10))]) (.join (iB (A==11) (rn [(.bool (A==11))]) (.join (iB (A==13) (rn [(.bool (A==13))]) (.join (iB (A==17) (rn [(.bool (A==17))]) (.join (iB (A==18) (rn [(.bool (A==18))]) (.join (iB (A==19) (rn [(.bool (A==19))]) (rn [(.bool (A==20))])) (T189k0))) (T189k1))) (T189k2))) (T189k3))) (T189k4))) (T189k5))) (T189k6))) (T189k7))) (T189k8)) (T189k9)
theorem T189_eq (A:Int):progOf PROG false 189 [(.int .i64 A)]=T189 A:=by kernel_rfl
noncomputable def T190k0:TK:=
 Vl
noncomputable def T190k1:TK:=
 Vl
noncomputable def T190k2:TK:=
 Vl
noncomputable def T190k3:TK:=
 Vl
noncomputable def T190k4:TK:=
 Vl
noncomputable def T190k5:TK:=
 Vl
noncomputable def T190k6:TK:=
 Vw
noncomputable def T190 (A:Option Addr) (B C D:Int) (E F:ByteArray) (G:Option Addr) (H I:Nat) (J K:Int):Pg:=
 nw (Ws C D E F G H I J K) fun a=>lL (aadd a 4) fun b c _=>lI (aadd a 0) fun d=>.join (.join (iB (d==8) (asSome b fun a=>grd (decide (0<(c:Int))) (lI (aadd a 0) fun a=>qT 101 (Wu A a) fun a=>asNil a (qT 260 (Wu A B) fun a=>asNil a (asSome b fun a=>grd (decide (1<(c:Int))) (lI (aadd a 1) fun a=>qT 101 (Wu A a) fun a=>asNil a (rn [])))))) (.join (iB (d==9) (qT 192 (Wu A B) fun a=>asNil a (qT 260 (Wu A B) fun a=>asNil a (asSome b fun a=>grd (decide (1<(c:Int))) (lI (aadd a 1) fun a=>qT 101 (Wu A a) fun a=>asNil a (rn []))))) (.join (iB (d==10) (qI 49 [.pointer A] fun a=>qI 49 [.pointer A] fun d=>asSome b fun f=>grd (decide (0<(c:Int))) (lI (aadd f 0) fun f=>qT 101 (Wu A f) fun f=>asNil f (qT 261 [.pointer A,nI 12,nI a] fun f=>asNil f (asSome b fun f=>grd (decide (1<(c:Int))) (lI (aadd f 1) fun f=>qT 101 (Wu A f) fun f=>asNil f (qT 261 [.pointer A,nI 11,nI d] fun f=>asNil f (qT 99 (Wu A a) fun a=>asNil a (asSome b fun a=>grd (decide (2<(c:Int))) (lI (aadd a 2) fun a=>qT 101 (Wu A a) fun a=>asNil a (qT 99 (Wu A d) fun a=>asNil a (rn []))))))))))) (.join (iB (d==11) (Za a fun a b c d f g h i j=>qT 262 [.pointer A,(Vc a b c d f g h i j)] fun a=>asNil a (rn [])) (.join (iB (d==12) (asSome b fun a=>grd (decide (0<(c:Int))) (lI (aadd a 0) fun a=>qT 101 (Wu A a) fun a=>asNil a (qT 100 (Ve A 24 0 0) fun a=>asNil a (asSome b fun a=>grd (decide (1<(c:Int))) (lI (aadd a 1) fun a=>qT 101 (Wu A a) fun a=>asNil a (rn [])))))) (.join (iB (d==20) (qI 49 [.pointer A] fun a=>qI 49 [.pointer A] fun d=>qT 261 [.pointer A,nI 21,nI a] fun f=>asNil f (asSome b fun f=>grd (decide (0<(c:Int))) (lI (aadd f 0) fun f=>qT 101 (Wu A f) fun f=>asNil f (qT 100 (Ve A 22 0 0) fun f=>asNil f (qT 261 [.pointer A,nI 11,nI d] fun f=>asNil f (qT 99 (Wu A a) fun a=>asNil a (qT 260 (Wu A B) fun a=>asNil a (asSome b fun a=>grd (decide (1<(c:Int))) (lI (aadd a 1) fun a=>qT 101 (Wu A a) fun a=>asNil a (qT 99 (Wu A d) fun a=>asNil a (rn []))))))))))) (rn [])) (T190k0))) (T190k1))) (T190k2))) (T190k3))) (T190k4))) (T190k5)) (T190k6)
theorem T190_eq (A:Option Addr) (B C D:Int) (E F:ByteArray) (G:Option Addr) (H I:Nat) (J K:Int):progOf PROG false 190 [(.pointer A),(.int .i64 B),(.agg #[(.int .i64 C),(.int .i64 D),.string E,.string F,.slice G H I,(.int .i64 J),(.int .i64 K)])]=T190 A B C D E F G H I J K:=by kernel_rfl
noncomputable def T191k0:TK:=
 Vl
noncomputable def T191k1:TK:=
 Vl
noncomputable def T191k2:TK:=
 Vw
noncomputable def T191 (A:Option Addr) (B:Int) (C:ByteArray):Pg:=
 asSome A fun a=>Yw (aadd a 0) fun a b c d f g=>qT 109 [(We a b c d f g),nI B,.string C] fun a=>asCons a fun a b=>asAgg a fun a=>Xe a fun a c=>Xa b fun b=>nw Zm fun d=>sC d (Wh a c) (iB (!b) (asSome A fun a=>sC (aadd a 6) [.bool true] (rr [(.tuple #[])])) (lI (aadd d 0) fun a=>.join (.join (iB (a==1) (lI (aadd d 1) fun a=>qT 100 (Ve A 3 a 0) fun a=>asNil a (rn [])) (.join (iB (a==2) (lI (aadd d 1) fun a=>qT 100 (Ve A 4 a 0) fun a=>asNil a (rn [])) (qT 100 (Ve A 5 0 0) fun a=>asNil a (rn []))) (T191k0))) (T191k1)) (T191k2)))
theorem T191_eq (A:Option Addr) (B:Int) (C:ByteArray):progOf PROG false 191 [(.pointer A),(.int .i64 B),.string C]=T191 A B C:=by kernel_rfl
noncomputable def T192k0 (A:Int):TK:=
 Vm A
noncomputable def T192b0 (A:Nat) (B:Option Addr) (C:Addr) (D:Option Addr):TB:=
 fun a=>Xd a fun a=>iB (decide (a<(A:Int))) (.join (asSome B fun b=>ix a A (lS (aadd b ((Int.toNat a)*1)) fun a=>lI C fun b=>qT 191 (Wm D b a) fun a=>asNil a (rn []))) (T192k0 a)) (re 0 [nI a])
noncomputable def T192k1 (A:Option Addr) (B:Int):TK:=
 fun a b=>sw a (.exit 0) (Xd b fun _=>asSome A fun a=>lL (aadd a 2) fun a b _=>asSome a fun a=>ix B b (lL (aadd (aadd a ((Int.toNat B)*5)) 3) fun _ a _=>qT 100 (Ve A 7 B (a:Int)) fun a=>asNil a (rr [(.tuple #[])]))) (.fail)
noncomputable def T192 (A:Option Addr) (B:Int):Pg:=
 nw [nI B] fun a=>asSome A fun b=>lL (aadd b 2) fun b c d=>qI 263 [.slice b c d,(.func (.func 264) #[] #[(.pointer (some a))])] fun b=>asSome A fun c=>lL (aadd c 2) fun c d _=>asSome c fun c=>ix b d (lL (aadd (aadd c ((Int.toNat b)*5)) 3) fun c d _=>.loop [nI 0] (T192b0 d c a A) (T192k1 A b))
theorem T192_eq (A:Option Addr) (B:Int):progOf PROG false 192 [(.pointer A),(.int .i64 B)]=T192 A B:=by kernel_rfl
noncomputable def T193k0 (A:Int):TK:=
 Vm A
noncomputable def T193b0 (A:Nat) (B C:Option Addr):TB:=
 fun a=>Xd a fun a=>iB (decide (a<(A:Int))) (.join (asSome B fun b=>ix a A (lI (aadd b ((Int.toNat a)*1)) fun a=>qT 101 (Wu C a) fun a=>asNil a (rn []))) (T193k0 a)) (re 0 [nI a])
noncomputable def T193k1:TK:=
 Uc
noncomputable def T193 (A B:Option Addr) (C D:Nat):Pg:=
 .loop [nI 0] (T193b0 C B A) (T193k1)
theorem T193_eq (A B:Option Addr) (C D:Nat):progOf PROG false 193 [(.pointer A),.slice B C D]=T193 A B C D:=by kernel_rfl
noncomputable def T195k0:TK:=
 Vl
noncomputable def T195k1:TK:=
 Vl
noncomputable def T195k2:TK:=
 Vl
noncomputable def T195k3:TK:=
 Vl
noncomputable def T195k4:TK:=
 Vl
noncomputable def T195k5:TK:=
 Vl
noncomputable def T195k6:TK:=
 Vl
noncomputable def T195k7:TK:=
 Vl
noncomputable def T195k8:TK:=
 Vw
noncomputable def T195 (A:Option Addr) (B C D:Int) (E F:ByteArray) (G:Option Addr) (H I:Nat) (J K:Int):Pg:=
 nw (Ws C D E F G H I J K) fun a=>lI (aadd a 0) fun b=>.join (.join (iB (b==7) (qT 100 (Ve A 8 B 0) fun a=>asNil a (rn [])) (.join (iB (b==14) (lS (aadd a 2) fun a=>qI 265 [.string a] fun a=>qT 100 (Ve A 13 a 0) fun a=>asNil a (rn [])) (.join (iB (b==15) (qT 100 (Ve A 15 0 0) fun a=>asNil a (rn [])) (.join (iB (b==16) (qT 100 (Ve A 16 0 0) fun a=>asNil a (rn [])) (.join (iB (b==13) (qT 100 (Ve A 17 0 0) fun a=>asNil a (qT 100 (Ve A 2 0 0) fun a=>asNil a (rn []))) (.join (iB (b==17) (qT 100 (Ve A 18 0 0) fun a=>asNil a (qT 100 (Ve A 2 0 0) fun a=>asNil a (rn []))) (.join (iB (b==18) (qT 100 (Ve A 19 0 0) fun a=>asNil a (rn [])) (.join (iB (b==19) (qT 100 (Ve A 20 0 0) fun a=>asNil a (rn [])) (rn [])) (T195k0))) (T195k1))) (T195k2))) (T195k3))) (T195k4))) (T195k5))) (T195k6))) (T195k7)) (T195k8)
theorem T195_eq (A:Option Addr) (B C D:Int) (E F:ByteArray) (G:Option Addr) (H I:Nat) (J K:Int):progOf PROG false 195 [(.pointer A),(.int .i64 B),(.agg #[(.int .i64 C),(.int .i64 D),.string E,.string F,.slice G H I,(.int .i64 J),(.int .i64 K)])]=T195 A B C D E F G H I J K:=by kernel_rfl
noncomputable def T196k0 (A:Bool):TK:=
 fun a b=>sw a .normal (Xd b fun a=>rn (Wd a A)) (.fail)
noncomputable def T196k1 (A:Addr) (B:Option Addr) (C:Int) (D:Bool):TK:=
 fun a b=>sw a .normal (asNil b (lI (aadd (aadd A 0) 0) fun a=>.join (iB (decide (a>0)) (Zd A fun a b c d f g h=>qA 104 [.pointer B,(.agg #[nI a,nI b,nI c,nI d,nI f,nI g,nI h])] fun a=>Xl a fun a b c=>qI 30 [(Wj a b c)] fun a=>rn [(nI (wi64 (C+a)))]) (rn [nI C])) (T196k0 D))) (.fail)
noncomputable def T196k2 (A:Option Addr) (B C:Int) (D:Addr):TK:=
 fun a b=>sw a .normal (Xa b fun a=>asSome A fun b=>lL (aadd b 1) fun b c _=>asSome b fun b=>ix B c (sC (aadd b ((Int.toNat B)*1)) [nI C] (lI (aadd D 5) fun b=>.join (iB (decide (b>0)) (asSome A fun a=>.act (ld1 (aadd a 2)) fun a=>asMap a fun a=>lI (aadd D 5) fun b=>.act (mup (.int .i64) a (nI b) (nI C)) fun a=>asTuple a fun a=>asNil a (rn [])) (rn [])) (T196k1 D A C a)))) (.fail)
noncomputable def T196k3 (A:Int):TK:=
 fun a b=>sw a .normal (Xg b fun a b=>rn [(nI (wi64 (A+1))),nI a,.bool b]) (.fail)
noncomputable def T196b0 (A:Nat) (B C:Option Addr):TB:=
 fun a=>Xx a fun a b c=>iB (decide (a<(A:Int))) (.join (asSome B fun d=>ix a A (Zd (aadd d ((Int.toNat a)*7)) fun d f g h i j k=>nw (Vf 0 0 0 0 0 0 0) fun l=>sC l (Vf d f g h i j k) (.join (iB (c==false) (asSome C fun c=>lL (aadd c 1) fun c d _=>asSome c fun c=>ix a d (lI (aadd c ((Int.toNat a)*1)) fun a=>rn [(.bool (a !=b))])) (rn [.bool true])) (T196k2 C a b l)))) (T196k3 a)) (re 0 [nI a,nI b,.bool c])
noncomputable def T196k4:TK:=
 fun a b=>sw a (.exit 0) (Xx b fun _ _ a=>rr [.bool a]) (.fail)
noncomputable def T196 (A:Option Addr):Pg:=
 asSome A fun a=>lL (aadd a 0) fun a b _=>.loop [nI 0,nI 0,.bool false] (T196b0 b a A) (T196k4)
theorem T196_eq (A:Option Addr):progOf PROG false 196 [(.pointer A)]=T196 A:=by kernel_rfl
noncomputable def T197k0 (A:Bool) (B:Int):TK:=
 Uu A B
noncomputable def T197k1 (A:Option Addr) (B C:Nat) (D E F:Int) (G:Value) (H I:Bool) (J:Int):TK:=
 fun a b=>sw a .normal (Xa b fun a=>iB a (qI 272 [.slice A B C,nI D,nI E,nI F,G] fun a=>rn (Vj E H I a J)) (qT 273 [.slice A B C,nI D,nI E,nI F,G] fun a=>Xg a fun a b=>.join (iB (decide ((wi64 (a - D))<(wi64 (E - a)))) (qT 197 [.slice A B C,nI D,nI a,nI J,G] fun b=>asNil b (rn [nI E,(nI (wi64 (a+1))),(.bool (decide ((wi64 (a - D))≥(wi64 (Int.tdiv (wi64 (E - D)) 8)))))])) (qT 197 [.slice A B C,(nI (wi64 (a+1))),nI E,nI J,G] fun b=>asNil b (rn [nI a,nI D,(.bool (decide ((wi64 (E - a))≥(wi64 (Int.tdiv (wi64 (E - D)) 8)))))]))) (T197k0 b J))) (.fail)
noncomputable def T197k2 (A:Int) (B C:Bool) (D E:Int) (F:Option Addr) (G:Nat) (H:Int) (I:Value) (J:Nat):TK:=
 fun a b=>sw a .ret (asNil b (rr (Vj A B C D E))) (sw a .normal (asNil b (.join (iB ((decide (D>0))==true) (asSome F fun a=>grd ((decide (0≤(wi64 (D - 1))))&&(decide ((wi64 (D - 1))<(G:Int)))) (lA 2 (aadd a ((Int.toNat (wi64 (D - 1)))*2)) fun a=>Xe a fun a b=>asSome F fun c=>ix H G (Yx (aadd c ((Int.toNat H)*2)) fun c d=>asFunc I fun f g h=>.call f (g++[(Wt a b),(Wt c d)]++h) fun a=>asInt .i64 a fun a=>rn [(.bool (!(decide (a<0))))]))) (rn [.bool false])) (T197k1 F G J D A H I B C E))) (.fail))
noncomputable def T197k3 (A B:Bool) (C:Option Addr) (D E:Nat) (F G:Int) (H:Value) (I:Int):TK:=
 fun a b=>sw a .normal (Xe b fun a b=>.join (iB ((A&&B)&&(a==1)) (qB 271 [.slice C D E,nI F,nI G,H] fun a=>iB a (rr []) (rn [])) (rn [])) (T197k2 G A B F I C D b H E)) (.fail)
noncomputable def T197k4 (A:Option Addr) (B C:Nat) (D E:Int) (F:Value) (G H:Bool):TK:=
 fun a b=>sw a .normal (Xd b fun a=>qT 269 [.slice A B C,nI D,nI E,F] fun b=>Xe b fun b c=>.join (iB (c==2) (qT 270 [.slice A B C,nI D,nI E,F] fun a=>asNil a (rn (Wh 1 (wi64 ((wi64 (E - 1)) - (wi64 (b - D))))))) (rn (Wh c b))) (T197k3 G H A B C D E F a)) (.fail)
noncomputable def T197k5:TK:=
 Uv
noncomputable def T197b0 (A:Option Addr) (B C:Nat) (D:Value):TB:=
 fun a=>Xq a fun a b c d f=>.join (iB (decide ((wi64 (a - d))≤12)) (qT 266 [.slice A B C,nI d,nI a,D] fun g=>asNil g (rr (Vj a b c d f))) (iB (f==0) (qT 267 [.slice A B C,nI d,nI a,D] fun g=>asNil g (rr (Vj a b c d f))) (.join (iB (!b) (qT 268 [.slice A B C,nI d,nI a,D] fun a=>asNil a (rn [(nI (wi64 (f - 1)))])) (rn [nI f])) (T197k4 A B C d a D b c)))) (T197k5)
noncomputable def T197k6:TK:=
 Uw
noncomputable def T197 (A:Option Addr) (B C:Nat) (D E F:Int) (G:Value):Pg:=
 .loop (Vj E true true D F) (T197b0 A B C G) (T197k6)
theorem T197_eq (A:Option Addr) (B C:Nat) (D E F:Int) (G:Value):progOf PROG false 197 [.slice A B C,(.int .i64 D),(.int .i64 E),(.int .i64 F),G]=T197 A B C D E F G:=by kernel_rfl
noncomputable def T198 (A:Int):Pg:=
 qI 275 [.int .u64 A] fun a=>rr [nI a]
theorem T198_eq (A:Int):progOf PROG false 198 [(.int .u64 A)]=T198 A:=by kernel_rfl
noncomputable def T199 (A:Int):Pg:=
 rr [(.bool (A !=A))]
theorem T199_eq (A:Int):progOf PROG false 199 [(.int .i64 A)]=T199 A:=by kernel_rfl
noncomputable def T200k0:TK:=
 Vn
noncomputable def T200 (A:Option Addr) (B C:Nat) (D:Option Addr) (E F:Nat) (G:Int):Pg:=
 nw (Wa A B C D E F) fun a=>.join (iB ((decide (G≥0))==true) (lL (aadd a 0) fun _ b _=>iB ((decide (G<(b:Int)))==true) (Yw a fun a b c d f g=>qB 42 [(We a b c d f g)] fun a=>rn [.bool a]) (rn [.bool false])) (rn [.bool false])) (T200k0)
theorem T200_eq (A:Option Addr) (B C:Nat) (D:Option Addr) (E F:Nat) (G:Int):progOf PROG false 200 [(.agg #[.slice A B C,.slice D E F]),(.int .i64 G)]=T200 A B C D E F G:=by kernel_rfl
noncomputable def T201k0:TK:=
 Ut
noncomputable def T201b0 (A:Addr) (B:Int):TB:=
 fun a=>Xd a fun a=>lL (aadd A 4) fun b c _=>asSome b fun b=>ix a c (lI (aadd b ((Int.toNat a)*1)) fun b=>iB (decide (b>B)) (.join (rn [(nI (wi64 (a - 1)))]) (T201k0)) (re 2 [nI a]))
noncomputable def T201k1 (A:Int) (B:Option Addr) (C D:Nat) (E:Addr):TK:=
 fun a b=>sw a (.exit 2) (Xd b fun a=>bL 2 1 (Wh A a) fun b c d=>.act (apS 2 16 B C D b c d) fun b=>asSlice b fun b c d=>lL (aadd E 4) fun f g _=>asSome f fun f=>ix a g (lI (aadd f ((Int.toNat a)*1)) fun a=>rn (Wv a b c d))) (.fail)
noncomputable def T201k2:TK:=
 fun a b=>sw a .normal (Xj b fun a b c d=>rn (Wv a b c d)) (.fail)
noncomputable def T201b1 (A:Int) (B:Addr):TB:=
 fun a=>Xj a fun a b c d=>iB (a !=A) (.join (lL (aadd B 0) fun f g _=>asSome f fun f=>ix a g (Za (aadd f ((Int.toNat a)*7)) fun f g h i j k l m n=>nw Zq fun o=>sC o (Ws f g h i j k l m n) (lL (aadd o 4) fun _ f _=>.loop [(nI (wi64 ((f:Int) - 1)))] (T201b0 o A) (T201k1 a b c d o)))) (T201k2)) (re 0 (Wv a b c d))
noncomputable def T201k3:TK:=
 fun a b=>sw a (.exit 0) (Xj b fun _ a b c=>qT 276 [.slice a b c] fun d=>asNil d (rr [.slice a b c])) (.fail)
noncomputable def T201 (A:Option Addr) (B C:Nat) (D:Option Addr) (E F:Nat) (G:Int):Pg:=
 nw (Wa A B C D E F) fun a=>.loop Zs (T201b1 G a) (T201k3)
theorem T201_eq (A:Option Addr) (B C:Nat) (D:Option Addr) (E F:Nat) (G:Int):progOf PROG false 201 [(.agg #[.slice A B C,.slice D E F]),(.int .i64 G)]=T201 A B C D E F G:=by kernel_rfl
noncomputable def T202k0 (A:Int):TK:=
 Vo A
noncomputable def T202b0 (A:Nat) (B:Option Addr) (C:Addr):TB:=
 fun a=>Xj a fun a b c d=>iB (decide (a<(A:Int))) (.join (asSome B fun f=>ix a A (Yx (aadd f ((Int.toNat a)*2)) fun a f=>nw Zm fun g=>sC g (Wh a f) (Yw C fun a f h i j k=>Yx g fun g l=>qL 277 [(We a f h i j k),(Wt g l)] fun a f g=>.act (apS 3 32 b c d a f g) fun a=>asSlice a fun a b c=>rn [.slice a b c]))) (T202k0 a)) (re 0 (Wv a b c d))
noncomputable def T202k1:TK:=
 Vs
noncomputable def T202 (A:Option Addr) (B C:Nat) (D:Option Addr) (E F:Nat) (G:Option Addr) (H I:Nat):Pg:=
 nw (Wa A B C D E F) fun a=>.loop Zs (T202b0 H G a) (T202k1)
theorem T202_eq (A:Option Addr) (B C:Nat) (D:Option Addr) (E F:Nat) (G:Option Addr) (H I:Nat):progOf PROG false 202 [(.agg #[.slice A B C,.slice D E F]),.slice G H I]=T202 A B C D E F G H I:=by kernel_rfl
noncomputable def T203k0 (A B:Addr) (C:Int) (D:ByteArray):TK:=
 fun a b=>sw a .normal (Xa b fun a=>iB a (sC A (Wh 3 0) (.act (ldN 2 A) fun a=>rr [(.tuple #[a,.bool true])])) (Yw B fun a b c d f g=>qL 97 [(We a b c d f g),nI C] fun a b c=>qI 234 [.slice a b c,.string D] fun a=>iB (decide (a≥0)) (sC A (Wh 2 a) (.act (ldN 2 A) fun a=>rr [(.tuple #[a,.bool true])])) (sC A Zm (.act (ldN 2 A) fun a=>rr [(.tuple #[a,.bool false])])))) (.fail)
noncomputable def T203 (A:Option Addr) (B C:Nat) (D:Option Addr) (E F:Nat) (G:Option Addr) (H I:Nat) (J:ByteArray):Pg:=
 nw (Wa A B C D E F) fun a=>nw Zm fun b=>Yw a fun c d f g h i=>qL 202 [(We c d f g h i),.slice G H I] fun c d f=>qT 278 [.slice c d f,.string J] fun c=>asCons c fun c d=>asAgg c fun c=>Xg c fun c f=>Xa d fun d=>nw Zi fun g=>sC g (Wd c f) (iB (!d) (sC b Zm (.act (ldN 2 b) fun a=>rr [(.tuple #[a,.bool false])])) (Yw a fun c d f h i j=>qI 279 [(We c d f h i j),.slice G H I] fun c=>Yw a fun d f h i j k=>.get fun l=>qL 95 [(We d f h i j k),nI c] fun d f h=>.act (ldN 2 g) fun i=>grd (past (ldN 2 g) i [l]) (asAgg i fun i=>Xg i fun i j=>qI 280 [.slice d f h,(.agg #[nI i,.bool j])] fun d=>iB (decide (d≥0)) (sC b (Wh 1 d) (.act (ldN 2 b) fun a=>rr [(.tuple #[a,.bool true])])) (.join (lI (aadd g 0) fun a=>iB ((c==a)==true) (lB (aadd g 1) fun a=>rn [(.bool (!a))]) (rn [.bool false])) (T203k0 b a c J)))))
theorem T203_eq (A:Option Addr) (B C:Nat) (D:Option Addr) (E F:Nat) (G:Option Addr) (H I:Nat) (J:ByteArray):progOf PROG false 203 [(.agg #[.slice A B C,.slice D E F]),.slice G H I,.string J]=T203 A B C D E F G H I J:=by kernel_rfl
noncomputable def T204 (A:Option Addr) (B C:Nat) (D:Option Addr) (E F:Nat) (G:Int) (H:ByteArray):Pg:=
 nw (Wa A B C D E F) fun a=>Yw a fun b c d f g h=>qB 200 [(We b c d f g h),nI G] fun b=>iB (!b) (rr [(.tuple #[nI 0,.bool false,.bool false])]) (.get fun b=>.act (ldN 2 a) fun c=>asAgg c fun d=>Xf d fun d f g h i j=>Yw a fun k l m n o p=>.get fun q=>grd (newN b.n q []) (nw Zi fun b=>.get fun r=>qL 201 [(We k l m n o p),nI G] fun k l m=>.get fun n=>grd (chks [((ldN 2 a),c)] n) (.get fun a=>grd (chkO [(q.n,(r.get q.n))] a) (qL 202 [(We d f g h i j),.slice k l m] fun a c d=>.get fun f=>grd (chkO [(q.n,(r.get q.n))] f) (qT 278 [.slice a c d,.string H] fun a=>asCons a fun a c=>asAgg a fun a=>Xg a fun a d=>Xa c fun c=>.get fun f=>grd (chkO [(q.n,(r.get q.n))] f) (sC b (Wd a d) (lI (aadd b 0) fun a=>lB (aadd b 1) fun b=>rr [(.tuple #[nI a,.bool b,.bool c])])))))))
theorem T204_eq (A:Option Addr) (B C:Nat) (D:Option Addr) (E F:Nat) (G:Int) (H:ByteArray):progOf PROG false 204 [(.agg #[.slice A B C,.slice D E F]),(.int .i64 G),.string H]=T204 A B C D E F G H:=by kernel_rfl
noncomputable def T205 (A:Option Addr):Pg:=
 asSome A fun a=>.act (ld1 (aadd a 27)) fun b=>asPtr b fun c=>asSome A fun d=>.act (ld1 (aadd d 27)) fun d=>asPtr d fun d=>qI 206 [.pointer d] fun d=>.get fun f=>grd (chks [((ld1 (aadd a 27)),b)] f) (qT 207 (Wu c (wi64 (d - 1))) fun a=>asCons a fun a b=>asInt .u64 a fun a=>Xd b fun b=>qT 129 [.int .u64 a] fun c=>Xg c fun _ c=>rr [(.tuple #[.int .u64 a,(.bool ((b==0)&&(!c)))])])
theorem T205_eq (A:Option Addr):progOf PROG false 205 [(.pointer A)]=T205 A:=by kernel_rfl
noncomputable def T206 (A:Option Addr):Pg:=
 .call 208 [.pointer A] fun a=>asPtr a fun a=>iB (!(Option.isNone a)) (asSome a fun a=>lL (aadd a 2) fun _ a _=>rr [(nI (a:Int))]) (rr [nI 0])
theorem T206_eq (A:Option Addr):progOf PROG false 206 [(.pointer A)]=T206 A:=by kernel_rfl
noncomputable def T207 (A:Option Addr) (B:Int):Pg:=
 qT 221 (Wu A B) fun a=>Xn a fun a b=>iB (b !=0) (rr [(.tuple #[.int .u64 0,nI b])]) (asSome a fun a=>.act (ld1 a) fun a=>asInt .u64 a fun a=>rr [(.tuple #[.int .u64 a,nI 0])])
theorem T207_eq (A:Option Addr) (B:Int):progOf PROG false 207 [(.pointer A),(.int .i64 B)]=T207 A B:=by kernel_rfl
noncomputable def T208 (A:Option Addr):Pg:=
 asSome A fun a=>lL (aadd a 2) fun _ a _=>iB ((a:Int)==0) (rr [.pointer none]) (asSome A fun a=>lL (aadd a 2) fun a b _=>asSome A fun c=>lL (aadd c 2) fun _ c _=>asSome a fun a=>grd ((decide (0≤(wi64 ((c:Int) - 1))))&&(decide ((wi64 ((c:Int) - 1))<(b:Int)))) (.act (ld1 (aadd a ((Int.toNat (wi64 ((c:Int) - 1)))*1))) fun a=>asPtr a fun a=>rr [.pointer a]))
theorem T208_eq (A:Option Addr):progOf PROG false 208 [(.pointer A)]=T208 A:=by kernel_rfl
noncomputable def T209 (A:Option Addr) (B C:Nat):Pg:=
 iB (Option.isNone A) (rr [.slice none 0 0]) (bL 1 0 [] fun a b c=>.act (apS 1 8 a b c A B C) fun a=>asSlice a fun a b c=>rr [.slice a b c])
theorem T209_eq (A:Option Addr) (B C:Nat):progOf PROG false 209 [.slice A B C]=T209 A B C:=by kernel_rfl
noncomputable def T210k0 (A:Option Addr) (B:Int) (C:Nat):TK:=
 fun a b=>sw a .normal (Xa b fun a=>iB a (rr [(.tuple #[.pointer none,nI 1])]) (asSome A fun a=>ix B C (rr [(.tuple #[(.pointer (some (aadd a ((Int.toNat B)*1)))),nI 0])]))) (.fail)
noncomputable def T210 (A:Option Addr) (B C:Int):Pg:=
 qT 218 [.pointer A,.int .u64 B] fun a=>Xg a fun a b=>iB (!b) (rr [(.tuple #[.pointer none,nI 4])]) (qL 281 (Wu A a) fun a b _=>.join (iB ((decide (C<0))==false) (rn [(.bool (decide (C≥(b:Int))))]) (rn [.bool true])) (T210k0 a C b))
theorem T210_eq (A:Option Addr) (B C:Int):progOf PROG false 210 [(.pointer A),(.int .u64 B),(.int .i64 C)]=T210 A B C:=by kernel_rfl
noncomputable def T213 (A B C:Int):Pg:=
 iB ((((((decide (A<1))||(decide (A>3)))||(decide (B<0)))||(decide (B>255)))||(decide (C<0)))||(decide (C>65535))) (rr [(.tuple #[.int .u64 0,.bool false])]) (.call 63 [(nI (orI .i64 (orI .i64 C (shlI .i64 B 16)) (shlI .i64 A 24)))] fun a=>asInt .u64 a fun a=>rr [(.tuple #[.int .u64 a,.bool true])])
theorem T213_eq (A B C:Int):progOf PROG false 213 [(.int .i64 A),(.int .i64 B),(.int .i64 C)]=T213 A B C:=by kernel_rfl
noncomputable def T214 (A:Option Addr) (B C:Nat) (D:Value):Pg:=
 qI 282 [.slice A B C,D] fun a=>rr [(.bool (decide (a≥0)))]
theorem T214_eq (A:Option Addr) (B C:Nat) (D:Value):progOf PROG false 214 [.slice A B C,D]=T214 A B C D:=by kernel_rfl
noncomputable def T215 (A:Int) (B:Addr):Pg:=
 .act (ld1 B) fun a=>asPtr a fun a=>qB 216 [.pointer a,.int .u64 A] fun a=>rr [(.bool (!a))]
theorem T215_eq (A:Int) (B:Addr):progOf PROG false 215 [(.int .u64 A),(.pointer (some B))]=T215 A B:=by kernel_rfl
noncomputable def T216 (A:Option Addr) (B:Int):Pg:=
 qT 129 [.int .u64 B] fun a=>Xg a fun _ a=>iB a (rr [.bool true]) (qT 218 [.pointer A,.int .u64 B] fun a=>Xg a fun _ a=>rr [.bool a])
theorem T216_eq (A:Option Addr) (B:Int):progOf PROG false 216 [(.pointer A),(.int .u64 B)]=T216 A B:=by kernel_rfl
noncomputable def T217 (A:Option Addr) (B:Int) (C:Option Addr) (D E:Nat):Pg:=
 asSome A fun a=>lL (aadd a 2) fun _ a _=>asSome A fun b=>lL (aadd b 2) fun b c d=>bL 1 1 [.int .u64 B] fun f g h=>.act (apS 1 8 b c d f g h) fun b=>asSlice b fun b c d=>.act (apS 1 8 b c d C D E) fun b=>asSlice b fun b c d=>asSome A fun f=>sC (aadd f 2) [.slice b c d] (asSome A fun b=>lL (aadd b 3) fun b c d=>.act (apI 1 1 b c d [.bool false] (wi64 ((D:Int)+1))) fun b=>asSlice b fun b c d=>asSome A fun f=>sC (aadd f 3) [.slice b c d] (asSome A fun b=>lL (aadd b 3) fun b c _=>asSome b fun b=>grd (decide ((a:Int)<(c:Int))) (sC (aadd b (a*1)) [.bool true] (.call 283 [(nI (a:Int))] fun a=>asInt .u64 a fun a=>rr [.int .u64 a]))))
theorem T217_eq (A:Option Addr) (B:Int) (C:Option Addr) (D E:Nat):progOf PROG false 217 [(.pointer A),(.int .u64 B),.slice C D E]=T217 A B C D E:=by kernel_rfl
noncomputable def T218k0:TK:=
 fun a b=>sw a .normal (Yt b fun a b=>rr [(.tuple #[nI b,.bool a])]) (.fail)
noncomputable def T218 (A:Option Addr) (B:Int):Pg:=
 qT 284 [.int .u64 B] fun a=>Xg a fun a b=>.join (iB (b==true) (asSome A fun b=>lL (aadd b 3) fun _ b _=>iB ((decide (a<(b:Int)))==true) (asSome A fun b=>lL (aadd b 3) fun b c _=>asSome b fun b=>ix a c (lB (aadd b ((Int.toNat a)*1)) fun b=>rn [.bool b,nI a])) (rn [.bool false,nI a])) (rn [.bool false,nI a])) (T218k0)
theorem T218_eq (A:Option Addr) (B:Int):progOf PROG false 218 [(.pointer A),(.int .u64 B)]=T218 A B:=by kernel_rfl
noncomputable def T219 (A:Int):Pg:=
 qT 129 [.int .u64 A] fun a=>Xg a fun a b=>iB ((((!b)||(decide (a<0)))||(decide (a>67108863)))||(decide ((shrI .i64 a 24)<1))) (rr [(.tuple #[nI 0,nI 0,nI 0,.bool false])]) (rr [(.tuple #[(nI (shrI .i64 a 24)),(nI (andI .i64 (shrI .i64 a 16) 255)),(nI (andI .i64 a 65535)),.bool true])])
theorem T219_eq (A:Int):progOf PROG false 219 [(.int .u64 A)]=T219 A:=by kernel_rfl
noncomputable def T220 (A:Option Addr):Pg:=
 asSome A fun a=>lL (aadd a 2) fun _ a _=>asSome A fun b=>lL (aadd b 3) fun _ b _=>rr [(nI (wi64 ((wi64 (2+(a:Int)))+(b:Int))))]
theorem T220_eq (A:Option Addr):progOf PROG false 220 [(.pointer A)]=T220 A:=by kernel_rfl
noncomputable def T221k0:TK:=
 fun a b=>sw a .normal (Xa b fun a=>iB a (rr [nI 1,.pointer none]) (rn [nI 0,.pointer none])) (.fail)
noncomputable def T221k1 (A:Option Addr) (B:Int):TK:=
 fun a b=>sw a .ret (Yu b fun a b=>rr [(.tuple #[.pointer b,nI a])]) (sw a .normal (cI b fun _ a=>asCons a fun a b=>asPtr a fun _=>asNil b (asSome A fun a=>lL (aadd a 2) fun a b _=>asSome a fun a=>ix B b (rr [(.tuple #[(.pointer (some (aadd a ((Int.toNat B)*1)))),nI 0])]))) (.fail))
noncomputable def T221 (A:Option Addr) (B:Int):Pg:=
 .call 208 [.pointer A] fun a=>asPtr a fun a=>.join (iB (Option.isNone a) (rr [nI 4,.pointer none]) (.join (iB ((decide (B<0))==false) (asSome a fun a=>lL (aadd a 2) fun _ a _=>rn [(.bool (decide (B≥(a:Int))))]) (rn [.bool true])) (T221k0))) (T221k1 a B)
theorem T221_eq (A:Option Addr) (B:Int):progOf PROG false 221 [(.pointer A),(.int .i64 B)]=T221 A B:=by kernel_rfl
noncomputable def T223 (A:Option Addr):Pg:=
 asSome A fun a=>lI (aadd a 2) fun a=>asSome A fun b=>lL (aadd b 0) fun _ b _=>iB (decide (a≥(b:Int))) (rr [(.tuple #[nI 0,.bool false])]) (asSome A fun a=>lI (aadd a 2) fun a=>asSome A fun b=>sC (aadd b 2) [(nI (wi64 (a+1)))] (asSome A fun a=>lL (aadd a 0) fun a b _=>asSome A fun c=>lI (aadd c 2) fun c=>asSome a fun a=>grd ((decide (0≤(wi64 (c - 1))))&&(decide ((wi64 (c - 1))<(b:Int)))) (lI (aadd a ((Int.toNat (wi64 (c - 1)))*1)) fun a=>rr [(.tuple #[nI a,.bool true])])))
theorem T223_eq (A:Option Addr):progOf PROG false 223 [(.pointer A)]=T223 A:=by kernel_rfl
noncomputable def T226k0:TK:=
 Vn
noncomputable def T226 (A B:ByteArray):Pg:=
 .join (iB ((decide (((A.size:Nat):Int)≥((B.size:Nat):Int)))==true) (grd (decide (((B.size:Nat):Int)≤((A.size:Nat):Int))) (rn [(.bool ((A.extract 0 B.size).toList==B.toList))])) (rn [.bool false])) (T226k0)
theorem T226_eq (A B:ByteArray):progOf PROG false 226 [.string A,.string B]=T226 A B:=by kernel_rfl
noncomputable def T228 (A:Int):Pg:=
 qI 146 [.int .i32 A] fun a=>rr [(.bool ((a==1)||(a==2)))]
theorem T228_eq (A:Int):progOf PROG false 228 [(.int .i32 A)]=T228 A:=by kernel_rfl
noncomputable def T229k0:TK:=
 fun a b=>sw a .ret (Xa b fun a=>rr [.bool a]) (.fail)
noncomputable def T229b0 (A:Addr):TB:=
 fun a=>Xa a fun a=>.act (nxt (some A)) fun b=>asNx b (fun _ a=>.join (qB 287 [.int .i32 a] fun a=>rr [.bool a]) (T229k0)) (re 0 [.bool a])
noncomputable def T229k1:TK:=
 fun a b=>sw a (.exit 0) (Xa b fun _=>rr [.bool false]) (sw a .ret (Xa b fun a=>rr [.bool a]) (.fail))
noncomputable def T229 (A:ByteArray):Pg:=
 .act (rng A) fun a=>asPtr a fun a=>asSome a fun a=>.loop [.bool false] (T229b0 a) (T229k1)
theorem T229_eq (A:ByteArray):progOf PROG false 229 [.string A]=T229 A:=by kernel_rfl
noncomputable def T230k0:TK:=
 Vk
noncomputable def T230k1:TK:=
 Vk
noncomputable def T230k2:TK:=
 Vk
noncomputable def T230k3:TK:=
 Vk
noncomputable def T230k4:TK:=
 Vk
noncomputable def T230k5:TK:=
 Vk
noncomputable def T230k6:TK:=
 Vk
noncomputable def T230k7:TK:=
 Vk
noncomputable def T230k8:TK:=
 Vk
noncomputable def T230k9:TK:=
 Vk
noncomputable def T230k10:TK:=
 Vk
noncomputable def T230k11:TK:=
 Vk
noncomputable def T230k12:TK:=
 Vk
noncomputable def T230k13:TK:=
 Vk
noncomputable def T230k14:TK:=
 Vk
noncomputable def T230k15:TK:=
 Vk
noncomputable def T230k16:TK:=
 Vk
noncomputable def T230k17:TK:=
 Ua
noncomputable def T230k18:TK:=
 Ub
noncomputable def T230 (A:ByteArray):Pg:=
 .join (.join (iB (A.toList==(bs [116,121,112,101]).toList) (rn [(.bool (A.toList==(bs [116,121,112,101]).toList))]) (.join (iB (A.toList==(bs [111,102]).toList) (rn [(.bool (A.toList==(bs [111,102]).toList))]) (.join (iB (A.toList==(bs [108,101,116]).toList) (rn [(.bool (A.toList==(bs [108,101,116]).toList))]) (.join (iB (A.toList==(bs [114,101,99]).toList) (rn [(.bool (A.toList==(bs [114,101,99]).toList))]) (.join (iB (A.toList==(bs [105,110]).toList) (rn [(.bool (A.toList==(bs [105,110]).toList))]) (.join (iB (A.toList==(bs [102,117,110]).toList) (rn [(.bool (A.toList==(bs [102,117,110]).toList))]) (.join (iB (A.toList==(bs [105,102]).toList) (rn [(.bool (A.toList==(bs [105,102]).toList))]) (.join (iB (A.toList==(bs [116,104,101,110]).toList) (rn [(.bool (A.toList==(bs [116,104,101,110]).toList))]) (.join (iB (A.toList==(bs [101,108,115,101]).toList) (rn [(.bool (A.toList==(bs [101,108,115,101]).toList))]) (.join (iB (A.toList==(bs [109,97,116,99,104]).toList) (rn [(.bool (A.toList==(bs [109,97,116,99,104]).toList))]) (.join (iB (A.toList==(bs [119,105,116,104]).toList) (rn [(.bool (A.toList==(bs [119,105,116,104]).toList))]) (.join (iB (A.toList==(bs [101,110,100]).toList) (rn [(.bool (A.toList==(bs [101,110,100]).toList))]) (.join (iB (A.toList==(bs [114,101,102]).toList) (rn [(.bool (A.toList==(bs [114,101,102]).toList))]) (.join (iB (A.toList==(bs [112,114,105,110,116]).toList) (rn [(.bool (A.toList==(bs [112,114,105,110,116]).toList))]) (.join (iB (A.toList==(bs [114,101,97,100]).toList) (rn [(.bool (A.toList==(bs [114,101,97,100]).toList))]) (.join (iB (A.toList==(bs [114,97,105,115,101]).toList) (rn [(.bool (A.toList==(bs [114,97,105,115,101]).toList))]) (.join (iB (A.toList==(bs [116,114,121]).toList) (rn [(.bool (A.toList==(bs [116,114,121]).toList))]) (.join (iB (A.toList==(bs [116,114,117,101]).toList) (rn [(.bool (A.toList==(bs [116,114,117,101]).toList))]) (rn [(.bool (A.toList==(bs [102,97,108,115,101]).toList))])) (T230k0))) (T230k1))) (T230k2))) (T230k3))) (T230k4))) (T230k5))) (T230k6))) (T230k7))) (T230k8))) (T230k9))) (T230k10))) (T230k11))) (T230k12))) (T230k13))) (T230k14))) (T230k15))) (T230k16))) (T230k17)) (T230k18)
theorem T230_eq (A:ByteArray):progOf PROG false 230 [.string A]=T230 A:=by kernel_rfl
noncomputable def T231k0:TK:=
 Ud
noncomputable def T231k1 (A B:Option Addr):TK:=
 fun a b=>sw a .normal (Xa b fun a=>iB a (.join (qA 75 [.pointer A] fun a=>Xi a fun a b c d=>nw Zt fun f=>sC f (Vb a b c d) (.act (ldN 4 f) fun a=>asAgg a fun b=>Xi b fun b c d g=>.call 288 [.pointer A] fun h=>asPtr h fun h=>.get fun i=>grd (chks [((ldN 4 f),a)] i) (.call 232 [(.agg #[nI b,.string c,nI d,nI g]),.pointer B,.pointer h] fun a=>asPtr a fun a=>rn [.pointer a]))) (T231k0)) (re 0 [.pointer B])) (.fail)
noncomputable def T231b0 (A:Option Addr):TB:=
 fun a=>Xo a fun a=>.join (qB 37 (Wm A 0 (bs [43])) fun a=>iB (a==false) (qB 37 (Wm A 0 (bs [45])) fun a=>rn [.bool a]) (rn [.bool true])) (T231k1 A a)
noncomputable def T231k2:TK:=
 Ue
noncomputable def T231 (A:Option Addr):Pg:=
 .call 288 [.pointer A] fun a=>asPtr a fun a=>.loop [.pointer a] (T231b0 A) (T231k2)
theorem T231_eq (A:Option Addr):progOf PROG false 231 [(.pointer A)]=T231 A:=by kernel_rfl
noncomputable def T233k0:TK:=
 Vn
noncomputable def T233k1 (A:ByteArray) (B:Int):TK:=
 fun a b=>sw a .normal (Xa b fun a=>iB a (rr [.bool false]) (qA 74 [.string A] fun a=>Xi a fun a b c d=>nw Zt fun f=>sC f (Vb a b c d) (.join (lI (aadd f 0) fun a=>iB ((a==B)==true) (lS (aadd f 1) fun a=>rn [(.bool (a.toList==A.toList))]) (rn [.bool false])) (T233k0)))) (.fail)
noncomputable def T233 (A:ByteArray) (B:Int):Pg:=
 .join (iB ((A.toList==(bs []).toList)==false) (rn [(.bool (decide (((A.size:Nat):Int)>4000)))]) (rn [.bool true])) (T233k1 A B)
theorem T233_eq (A:ByteArray) (B:Int):progOf PROG false 233 [.string A,(.int .i64 B)]=T233 A B:=by kernel_rfl
noncomputable def T234k0 (A:Int):TK:=
 Vp A
noncomputable def T234b0 (A:Nat) (B:Option Addr) (C:ByteArray):TB:=
 fun a=>Xe a fun a b=>iB (decide (a<(A:Int))) (.join (asSome B fun c=>ix a A (lS (aadd c ((Int.toNat a)*1)) fun c=>iB (C.toList==c.toList) (rr [nI a]) (rn [nI b]))) (T234k0 a)) (re 0 (Wh a b))
noncomputable def T234k1:TK:=
 Vq
noncomputable def T234 (A:Option Addr) (B C:Nat) (D:ByteArray):Pg:=
 .loop Zm (T234b0 B A D) (T234k1)
theorem T234_eq (A:Option Addr) (B C:Nat) (D:ByteArray):progOf PROG false 234 [.slice A B C,.string D]=T234 A B C D:=by kernel_rfl
noncomputable def T235k0 (A:Int):TK:=
 Vp A
noncomputable def T235b0 (A:Nat) (B:Option Addr) (C:Value):TB:=
 fun a=>Xe a fun a b=>iB (decide (a<(A:Int))) (.join (asSome B fun c=>ix a A (lS (aadd c ((Int.toNat a)*1)) fun c=>asFunc C fun d f g=>.call d (f++[.string c]++g) fun c=>asBool c fun c=>iB c (rr [nI a]) (rn [nI b]))) (T235k0 a)) (re 0 (Wh a b))
noncomputable def T235k1:TK:=
 Vq
noncomputable def T235 (A:Option Addr) (B C:Nat) (D:Value):Pg:=
 .loop Zm (T235b0 B A D) (T235k1)
theorem T235_eq (A:Option Addr) (B C:Nat) (D:Value):progOf PROG false 235 [.slice A B C,D]=T235 A B C D:=by kernel_rfl
noncomputable def T236k0:TK:=
 Vn
noncomputable def T236k1:TK:=
 Vn
noncomputable def T236k2 (A:Addr):TK:=
 fun a b=>sw a .normal (Xa b fun a=>iB a (.join (lI (aadd A 1) fun a=>iB ((a==0)==false) (lI (aadd A 1) fun a=>rn [(.bool (a==1))]) (rn [.bool true])) (T236k1)) (rn [.bool false])) (.fail)
noncomputable def T236k3 (A:Addr) (B:Int):TK:=
 fun a b=>sw a .normal (Xa b fun a=>iB a (.join (lI (aadd A 1) fun a=>iB ((decide (a≥0))==true) (lI (aadd A 1) fun a=>rn [(.bool (decide (a≤4611686018427387903)))]) (rn [.bool false])) (T236k0)) (.join (iB (B==2) (rn [(.bool (B==2))]) (rn [(.bool (B==24))])) (T236k2 A))) (.fail)
noncomputable def T236k4 (A:Addr):TK:=
 fun a b=>sw a .ret (Xa b fun a=>rr [.bool a]) (sw a .normal (Xa b fun _=>lI (aadd A 1) fun a=>rr [(.bool (a==0))]) (.fail))
noncomputable def T236 (A B:Int) (C D:ByteArray) (E:Option Addr) (F G:Nat) (H I:Int):Pg:=
 nw (Ws A B C D E F G H I) fun a=>lI (aadd a 0) fun b=>.join (.join (iB (b==1) (rn [(.bool (b==1))]) (rn [(.bool (b==23))])) (T236k3 a b)) (T236k4 a)
theorem T236_eq (A B:Int) (C D:ByteArray) (E:Option Addr) (F G:Nat) (H I:Int):progOf PROG false 236 [(.agg #[(.int .i64 A),(.int .i64 B),.string C,.string D,.slice E F G,(.int .i64 H),(.int .i64 I)])]=T236 A B C D E F G H I:=by kernel_rfl
noncomputable def T237k0:TK:=
 Vk
noncomputable def T237k1:TK:=
 Vk
noncomputable def T237k2 (A:ByteArray):TK:=
 fun a b=>sw a .normal (Xa b fun a=>rn [.bool a,(.bool (A.toList==(bs []).toList))]) (.fail)
noncomputable def T237k3 (A:Addr) (B:Int) (C D:ByteArray):TK:=
 fun a b=>sw a .normal (Xa b fun a=>.join (iB a (lS (aadd A 2) fun a=>qB 160 [.string a] fun a=>rn [.bool a]) (.join (iB (B==14) (bL 1 5 [(.string (bs [43])),(.string (bs [45])),(.string (bs [42])),(.string (bs [60])),(.string (bs [61]))] fun a b c=>lS (aadd A 2) fun d=>qB 162 [.slice a b c,.string d] fun a=>rn [.bool a]) (rn [(.bool (C.toList==(bs []).toList))])) (T237k1))) (T237k2 D)) (.fail)
noncomputable def T237k4:TK:=
 fun a b=>sw a .normal (Yg b fun a b=>rn [.bool b,.bool a]) (.fail)
noncomputable def T237k5 (A:Addr) (B:ByteArray) (C:Int) (D:ByteArray):TK:=
 fun a b=>sw a .normal (Xa b fun a=>.join (iB a (lS (aadd A 3) fun a=>qB 158 [.string a] fun a=>rn [(.bool (B.toList==(bs []).toList)),.bool a]) (.join (iB (C==5) (rn [(.bool (C==5))]) (rn [(.bool (C==26))])) (T237k3 A C B D))) (T237k4)) (.fail)
noncomputable def T237k6:TK:=
 Ux
noncomputable def T237k7:TK:=
 Ux
noncomputable def T237k8 (A:Addr) (B:ByteArray) (C:Int) (D:ByteArray):TK:=
 fun a b=>sw a .normal (Xa b fun a=>.join (iB a (lS (aadd A 2) fun a=>qB 158 [.string a] fun a=>rn [(.bool (B.toList==(bs []).toList)),.bool a]) (.join (iB (C==9) (lS (aadd A 2) fun a=>.get fun b=>qB 158 [.string a] fun a=>.act (ld1 (aadd A 3)) fun c=>grd (past (ld1 (aadd A 3)) c [b]) (asStr c fun b=>qB 158 [.string b] fun b=>rn [.bool b,.bool a])) (.join (iB (C==6) (rn [(.bool (C==6))]) (rn [(.bool (C==20))])) (T237k5 A D C B))) (T237k6))) (T237k7)) (.fail)
noncomputable def T237k9:TK:=
 fun a b=>sw a .normal (Yg b fun a b=>rr [(.bool (b&&a))]) (.fail)
noncomputable def T237 (A B:Int) (C D:ByteArray) (E:Option Addr) (F G:Nat) (H I:Int):Pg:=
 nw (Ws A B C D E F G H I) fun a=>lS (aadd a 2) fun b=>lS (aadd a 3) fun c=>lI (aadd a 0) fun d=>.join (.join (iB (d==4) (rn [(.bool (d==4))]) (.join (iB (d==8) (rn [(.bool (d==8))]) (rn [(.bool (d==22))])) (T237k0))) (T237k8 a c d b)) (T237k9)
theorem T237_eq (A B:Int) (C D:ByteArray) (E:Option Addr) (F G:Nat) (H I:Int):progOf PROG false 237 [(.agg #[(.int .i64 A),(.int .i64 B),.string C,.string D,.slice E F G,(.int .i64 H),(.int .i64 I)])]=T237 A B C D E F G H I:=by kernel_rfl
noncomputable def T238k0:TK:=
 Vk
noncomputable def T238k1:TK:=
 Vk
noncomputable def T238k2:TK:=
 Vk
noncomputable def T238k3:TK:=
 Vk
noncomputable def T238k4:TK:=
 Vk
noncomputable def T238k5:TK:=
 Vk
noncomputable def T238k6:TK:=
 Vk
noncomputable def T238k7:TK:=
 Vk
noncomputable def T238k8 (A:Int):TK:=
 fun a b=>sw a .normal (Xa b fun a=>iB a (rr (Wh 2 2)) (iB (A==10) (rr (Wh 3 3)) (rn Zm))) (.fail)
noncomputable def T238k9 (A:Int):TK:=
 fun a b=>sw a .normal (Xa b fun a=>iB a (rr (Wh 1 1)) (.join (iB (A==7) (rn [(.bool (A==7))]) (.join (iB (A==8) (rn [(.bool (A==8))]) (.join (iB (A==9) (rn [(.bool (A==9))]) (.join (iB (A==12) (rn [(.bool (A==12))]) (.join (iB (A==13) (rn [(.bool (A==13))]) (.join (iB (A==14) (rn [(.bool (A==14))]) (rn [(.bool (A==20))])) (T238k3))) (T238k4))) (T238k5))) (T238k6))) (T238k7))) (T238k8 A))) (.fail)
noncomputable def T238k10 (A:Int):TK:=
 fun a b=>sw a .normal (Xa b fun a=>iB a (rr (Wh 3 0)) (iB (A==11) (rr (Wh 1000 3)) (.join (iB (A==6) (rn [(.bool (A==6))]) (.join (iB (A==15) (rn [(.bool (A==15))]) (.join (iB (A==16) (rn [(.bool (A==16))]) (.join (iB (A==17) (rn [(.bool (A==17))]) (rn [(.bool (A==19))])) (T238k0))) (T238k1))) (T238k2))) (T238k9 A)))) (.fail)
noncomputable def T238k11:TK:=
 fun a b=>sw a .ret (Xe b fun a b=>rr [(.tuple #[nI b,nI a])]) (sw a .normal (Xe b fun _ _=>rr [(.tuple #[nI 0,nI 0])]) (.fail))
noncomputable def T238 (A:Int):Pg:=
 .join (.join (iB (A==5) (rn [(.bool (A==5))]) (rn [(.bool (A==26))])) (T238k10 A)) (T238k11)
theorem T238_eq (A:Int):progOf PROG false 238 [(.int .i64 A)]=T238 A:=by kernel_rfl
noncomputable def T241 (A:Option Addr) (B C:Nat) (D:Value):Pg:=
 qI 292 [.slice A B C,D] fun a=>rr [(.bool (decide (a≥0)))]
theorem T241_eq (A:Option Addr) (B C:Nat) (D:Value):progOf PROG false 241 [.slice A B C,D]=T241 A B C D:=by kernel_rfl
noncomputable def T243k0 (A:Bool):TK:=
 Vy A
noncomputable def T243k1 (A:Int):TK:=
 Vr A
noncomputable def T243b0 (A:Nat) (B C:Option Addr) (D E:Nat) (F:Addr):TB:=
 fun a=>Xg a fun a b=>iB (decide (a<(A:Int))) (.join (asSome B fun c=>ix a A (lI (aadd c ((Int.toNat a)*1)) fun c=>.join (qB 293 [.slice C D E,nI c] fun b=>iB ((!b)==false) (iB ((decide (a>0))==true) (lL (aadd F 0) fun b d _=>asSome b fun b=>grd ((decide (0≤(wi64 (a - 1))))&&(decide ((wi64 (a - 1))<(d:Int)))) (lI (aadd b ((Int.toNat (wi64 (a - 1)))*1)) fun a=>rn [(.bool (decide (a≥c)))])) (rn [.bool false])) (rn [.bool true])) (T243k0 b))) (T243k1 a)) (re 0 (Wd a b))
noncomputable def T243k2:TK:=
 Vt
noncomputable def T243 (A:Option Addr) (B C:Nat) (D:Int) (E:ByteArray) (F:Int) (G:Option Addr) (H I:Nat):Pg:=
 nw (Vh A B C D E F G H I) fun a=>Yz (aadd a 1) fun b c d f g h=>qB 90 [(Wl b c d f g h)] fun b=>iB (!b) (rr [.bool false]) (Yz (aadd a 1) fun b c d f g h=>qL 70 [(Wl b c d f g h)] fun b c d=>lL (aadd a 0) fun f g _=>.loop Zi (T243b0 g f b c d a) (T243k2))
theorem T243_eq (A:Option Addr) (B C:Nat) (D:Int) (E:ByteArray) (F:Int) (G:Option Addr) (H I:Nat):progOf PROG false 243 [(.agg #[.slice A B C,(.int .i64 D),.string E,(.int .i64 F),.slice G H I])]=T243 A B C D E F G H I:=by kernel_rfl
noncomputable def T245 (A:Option Addr) (B C:Nat):Pg:=
 qI 198 [(.int .u64 (wu64 (B:Int)))] fun a=>qT 295 [.slice A B C,nI 0,(nI (B:Int)),nI a] fun a=>asNil a (rr [(.tuple #[])])
theorem T245_eq (A:Option Addr) (B C:Nat):progOf PROG false 245 [.slice A B C]=T245 A B C:=by kernel_rfl
noncomputable def T247k0 (A:Int):TK:=
 Vm A
noncomputable def T247b0 (A:Nat) (B:Option Addr) (C:Addr) (D:Option Nat):TB:=
 fun a=>Xd a fun a=>iB (decide (a<(A:Int))) (.join (asSome B fun b=>ix a A (Yz (aadd b ((Int.toNat a)*4)) fun a b c d f g=>nw Zp fun h=>sC h (Wo a b c d f g) (.act (ld1 (aadd C 3)) fun a=>asSlice a fun b c d=>Yz h fun f g h i j k=>qA 247 [(Wl f g h i j k),.map D] fun f=>Xb f fun f g h i j k=>.get fun l=>grd (chks [((ld1 (aadd C 3)),a)] l) (bL 4 1 (Wo f g h i j k) fun f g h=>.get fun i=>grd (chks [((ld1 (aadd C 3)),a)] i) (.act (apS 4 56 b c d f g h) fun a=>asSlice a fun a b c=>sC (aadd C 3) [.slice a b c] (rn [])))))) (T247k0 a)) (re 0 [nI a])
noncomputable def T247k1 (A B:Addr):TK:=
 Uq A B
noncomputable def T247 (A:Int) (B:ByteArray) (C:Int) (D:Option Addr) (E F:Nat) (G:Option Nat):Pg:=
 nw (Wo A B C D E F) fun a=>nw Zp fun b=>lI (aadd a 0) fun c=>iB (c==7) (lI (aadd a 2) fun c=>.act (lkp (.int .i64) Zz G (nI c) true) fun c=>asTuple c fun c=>asCons c fun c d=>asAgg c fun c=>Xb c fun c f g h i j=>Xa d fun d=>nw Zp fun k=>sC k (Wo c f g h i j) (iB d (Yz k fun a c d f g h=>sC b (Wo a c d f g h) (.act (ldN 4 b) fun a=>rr [a])) (Yz a fun a c d f g h=>sC b (Wo a c d f g h) (.act (ldN 4 b) fun a=>rr [a])))) (Yz a fun c d f g h i=>nw Zp fun j=>sC j (Wo c d f g h i) (sC (aadd j 3) [.slice none 0 0] (lL (aadd a 3) fun a c _=>.loop [nI 0] (T247b0 c a j G) (T247k1 j b))))
theorem T247_eq (A:Int) (B:ByteArray) (C:Int) (D:Option Addr) (E F:Nat) (G:Option Nat):progOf PROG false 247 [(.agg #[(.int .i64 A),.string B,(.int .i64 C),.slice D E F]),(.map G)]=T247 A B C D E F G:=by kernel_rfl
noncomputable def T249k0 (A:Int):TK:=
 Uy A
noncomputable def T249b0 (A:Nat) (B:Option Addr):TB:=
 fun a=>Xe a fun a b=>iB (decide (a<(A:Int))) (.join (asSome B fun c=>ix a A (Yz (aadd c ((Int.toNat a)*4)) fun a c d f g h=>nw Zp fun i=>sC i (Wo a c d f g h) (iB (decide (b>500)) (re 0 [nI b]) (Yz i fun a c d f g h=>qI 249 [(Wl a c d f g h),nI b] fun a=>rn [nI a])))) (T249k0 a)) (re 0 (Wh a b))
noncomputable def T249k1:TK:=
 Uz
noncomputable def T249 (A:Int) (B:ByteArray) (C:Int) (D:Option Addr) (E F:Nat) (G:Int):Pg:=
 nw (Wo A B C D E F) fun a=>lL (aadd a 3) fun a b _=>.loop (Wh 0 (wi64 (G+1))) (T249b0 b a) (T249k1)
theorem T249_eq (A:Int) (B:ByteArray) (C:Int) (D:Option Addr) (E F:Nat) (G:Int):progOf PROG false 249 [(.agg #[(.int .i64 A),.string B,(.int .i64 C),.slice D E F]),(.int .i64 G)]=T249 A B C D E F G:=by kernel_rfl
noncomputable def T250k0:TK:=
 Vz
noncomputable def T250 (A:Int):Pg:=
 .join (iB (A==5) (rr [nI 2]) (iB (A==6) (rr [nI 1]) (rn [nI 0]))) (T250k0)
theorem T250_eq (A:Int):progOf PROG false 250 [(.int .i64 A)]=T250 A:=by kernel_rfl
noncomputable def T256k0:TK:=
 Vn
noncomputable def T256 (A:Option Addr) (B C:Nat) (D:Option Addr) (E F:Nat) (G:Int):Pg:=
 nw (Wa A B C D E F) fun a=>.join (iB ((decide (G≥0))==true) (lL (aadd a 0) fun _ b _=>iB ((decide (G<(b:Int)))==true) (Yw a fun a b c d f g=>qB 42 [(We a b c d f g)] fun a=>rn [.bool a]) (rn [.bool false])) (rn [.bool false])) (T256k0)
theorem T256_eq (A:Option Addr) (B C:Nat) (D:Option Addr) (E F:Nat) (G:Int):progOf PROG false 256 [(.agg #[.slice A B C,.slice D E F]),(.int .i64 G)]=T256 A B C D E F G:=by kernel_rfl
noncomputable def T258 (A:Option Nat):Pg:=
 nw [.map A] fun a=>rr [(.func (.func 300) #[] #[(.pointer (some a))])]
theorem T258_eq (A:Option Nat):progOf PROG false 258 [(.map A)]=T258 A:=by kernel_rfl
noncomputable def T259k0 (A:Int):TK:=
 Vm A
noncomputable def T259b0 (A:Nat) (B:Option Addr) (C:Option Nat):TB:=
 fun a=>Xd a fun a=>iB (decide (a<(A:Int))) (.join (asSome B fun b=>ix a A (lS (aadd b ((Int.toNat a)*1)) fun a=>.act (mdel .string C (.string a)) fun a=>asTuple a fun a=>asNil a (rn []))) (T259k0 a)) (re 2 [nI a])
noncomputable def T259k1 (A B:Option Nat):TK:=
 fun a b=>sw a (.exit 2) (Xd b fun _=>qT 302 [.map A,.map B] fun a=>asNil a (rn [])) (.fail)
noncomputable def T259k2 (A:Int):TK:=
 Vm A
noncomputable def T259b1 (A:Nat) (B:Option Addr) (C D:Addr) (E:Option Nat):TB:=
 fun a=>Xd a fun a=>iB (decide (a<(A:Int))) (.join (asSome B fun b=>ix a A (lI (aadd b ((Int.toNat a)*1)) fun b=>Yw C fun c d f g h i=>.call 259 [(We c d f g h i),nI b] fun b=>asMap b fun b=>Yw C fun c d f g h i=>Za D fun j k l m n o p q r=>qL 301 [(We c d f g h i),(Vc j k l m n o p q r),nI a] fun a c _=>.loop [nI 0] (T259b0 c a b) (T259k1 E b))) (T259k2 a)) (re 0 [nI a])
noncomputable def T259k3 (A:Option Nat):TK:=
 Vx A
noncomputable def T259k4 (A B:Addr) (C:Option Nat):TK:=
 fun a b=>sw a .normal (asNil b (lL (aadd A 4) fun a b _=>.loop [nI 0] (T259b1 b a B A C) (T259k3 C))) (.fail)
noncomputable def T259 (A:Option Addr) (B C:Nat) (D:Option Addr) (E F:Nat) (G:Int):Pg:=
 nw (Wa A B C D E F) fun a=>lL (aadd a 0) fun b c _=>asSome b fun b=>ix G c (Za (aadd b ((Int.toNat G)*7)) fun b c d f g h i j k=>nw Zq fun l=>sC l (Ws b c d f g h i j k) (.act makeMapAct fun b=>asMap b fun b=>lI (aadd l 0) fun c=>.join (iB (c==4) (lS (aadd l 2) fun a=>.act (mup .string b (.string a) (.bool true)) fun a=>asTuple a fun a=>asNil a (rn [])) (rn [])) (T259k4 l a b)))
theorem T259_eq (A:Option Addr) (B C:Nat) (D:Option Addr) (E F:Nat) (G:Int):progOf PROG false 259 [(.agg #[.slice A B C,.slice D E F]),(.int .i64 G)]=T259 A B C D E F G:=by kernel_rfl
noncomputable def T260 (A:Option Addr) (B:Int):Pg:=
 asSome A fun a=>.act (ld1 (aadd a 7)) fun a=>asMap a fun a=>.act (lkp (.int .i64) (nI 0) a (nI B) false) fun a=>asInt .i64 a fun a=>qT 100 (Ve A 6 a 0) fun a=>asNil a (rr [(.tuple #[])])
theorem T260_eq (A:Option Addr) (B:Int):progOf PROG false 260 [(.pointer A),(.int .i64 B)]=T260 A B:=by kernel_rfl
noncomputable def T263k0 (A:Int):TK:=
 Vp A
noncomputable def T263b0 (A:Nat) (B:Option Addr) (C:Value):TB:=
 fun a=>Xe a fun a b=>iB (decide (a<(A:Int))) (.join (asSome B fun c=>ix a A (Zc (aadd c ((Int.toNat a)*5)) fun c d f g h i j=>asFunc C fun k l m=>.call k (l++[(.agg #[nI c,.string d,.string f,.slice g h i,nI j])]++m) fun c=>asBool c fun c=>iB c (rr [nI a]) (rn [nI b]))) (T263k0 a)) (re 0 (Wh a b))
noncomputable def T263k1:TK:=
 Vq
noncomputable def T263 (A:Option Addr) (B C:Nat) (D:Value):Pg:=
 .loop Zm (T263b0 B A D) (T263k1)
theorem T263_eq (A:Option Addr) (B C:Nat) (D:Value):progOf PROG false 263 [.slice A B C,D]=T263 A B C D:=by kernel_rfl
noncomputable def T264 (A:Int) (B C:ByteArray) (D:Option Addr) (E F:Nat) (G:Int) (H:Addr):Pg:=
 nw (Vd A B C D E F G) fun a=>lI (aadd a 0) fun a=>lI H fun b=>rr [(.bool (a==b))]
theorem T264_eq (A:Int) (B C:ByteArray) (D:Option Addr) (E F:Nat) (G:Int) (H:Addr):progOf PROG false 264 [(.agg #[(.int .i64 A),.string B,.string C,.slice D E F,(.int .i64 G)]),(.pointer (some H))]=T264 A B C D E F G H:=by kernel_rfl
noncomputable def T266k0 (A:Int):TK:=
 Ka A
noncomputable def T266k1 (A:Option Addr) (B:Int) (C:Nat):TK:=
 fun a b=>sw a .normal (Xa b fun a=>iB a (.join (asSome A fun a=>grd ((decide (0≤(wi64 (B - 1))))&&(decide ((wi64 (B - 1))<(C:Int)))) (lA 2 (aadd a ((Int.toNat (wi64 (B - 1)))*2)) fun a=>Xe a fun a b=>asSome A fun c=>ix B C (Yx (aadd c ((Int.toNat B)*2)) fun c d=>asSome A fun f=>ix B C (sC (aadd f ((Int.toNat B)*2)) (Wh a b) (asSome A fun a=>grd ((decide (0≤(wi64 (B - 1))))&&(decide ((wi64 (B - 1))<(C:Int)))) (sC (aadd a ((Int.toNat (wi64 (B - 1)))*2)) (Wh c d) (rn []))))))) (T266k0 B)) (re 2 [nI B])) (.fail)
noncomputable def T266b0 (A:Int) (B:Option Addr) (C:Nat) (D:Value):TB:=
 fun a=>Xd a fun a=>.join (iB ((decide (a>A))==true) (asSome B fun b=>ix a C (Yx (aadd b ((Int.toNat a)*2)) fun b c=>asSome B fun d=>grd ((decide (0≤(wi64 (a - 1))))&&(decide ((wi64 (a - 1))<(C:Int)))) (lA 2 (aadd d ((Int.toNat (wi64 (a - 1)))*2)) fun a=>Xe a fun a d=>asFunc D fun f g h=>.call f (g++[(Wt b c),(Wt a d)]++h) fun a=>asInt .i64 a fun a=>rn [(.bool (decide (a<0)))]))) (rn [.bool false])) (T266k1 B a C)
noncomputable def T266k2:TK:=
 Vu
noncomputable def T266k3 (A:Int):TK:=
 Vm A
noncomputable def T266b1 (A B:Int) (C:Option Addr) (D:Nat) (E:Value):TB:=
 fun a=>Xd a fun a=>iB (decide (a<A)) (.join (.loop [nI a] (T266b0 B C D E) (T266k2)) (T266k3 a)) (re 0 [nI a])
noncomputable def T266k4:TK:=
 Uc
noncomputable def T266 (A:Option Addr) (B C:Nat) (D E:Int) (F:Value):Pg:=
 .loop [(nI (wi64 (D+1)))] (T266b1 E D A B F) (T266k4)
theorem T266_eq (A:Option Addr) (B C:Nat) (D E:Int) (F:Value):progOf PROG false 266 [.slice A B C,(.int .i64 D),(.int .i64 E),F]=T266 A B C D E F:=by kernel_rfl
noncomputable def T275k0:TK:=
 fun a b=>sw a .normal (cI b fun a b=>asCons b fun b c=>asInt .u64 b fun b=>asNil c (grd ((decide (0≤(wu8 b)))&&(decide ((wu8 b)<256))) (rr [(nI (wi64 (a+(wi64 (byteAt (bs [0,1,2,2,3,3,3,3,4,4,4,4,4,4,4,4,5,5,5,5,5,5,5,5,5,5,5,5,5,5,5,5,6,6,6,6,6,6,6,6,6,6,6,6,6,6,6,6,6,6,6,6,6,6,6,6,6,6,6,6,6,6,6,6,7,7,7,7,7,7,7,7,7,7,7,7,7,7,7,7,7,7,7,7,7,7,7,7,7,7,7,7,7,7,7,7,7,7,7,7,7,7,7,7,7,7,7,7,7,7,7,7,7,7,7,7,7,7,7,7,7,7,7,7,7,7,7,7,8,8,8,8,8,8,8,8,8,8,8,8,8,8,8,8,8,8,8,8,8,8,8,8,8,8,8,8,8,8,8,8,8,8,8,8,8,8,8,8,8,8,8,8,8,8,8,8,8,8,8,8,8,8,8,8,8,8,8,8,8,8,8,8,8,8,8,8,8,8,8,8,8,8,8,8,8,8,8,8,8,8,8,8,8,8,8,8,8,8,8,8,8,8,8,8,8,8,8,8,8,8,8,8,8,8,8,8,8,8,8,8,8,8,8,8,8,8,8,8,8,8,8,8,8,8,8,8]) (Int.toNat (wu8 b)))))))]))) (.fail)
noncomputable def T275k1:TK:=
 fun a b=>sw a .normal (cI b fun a b=>asCons b fun b c=>asInt .u64 b fun b=>asNil c (.join (iB (decide (b≥256)) (rn [(nI (wi64 (a+8))),(.int .u64 (shrI .u64 b 8))]) (rn [nI a,.int .u64 b])) (T275k0))) (.fail)
noncomputable def T275k2:TK:=
 fun a b=>sw a .normal (cI b fun a b=>asCons b fun b c=>asInt .u64 b fun b=>asNil c (.join (iB (decide (b≥65536)) (rn [(nI (wi64 (a+16))),(.int .u64 (shrI .u64 b 16))]) (rn [nI a,.int .u64 b])) (T275k1))) (.fail)
noncomputable def T275 (A:Int):Pg:=
 .join (iB (decide (A≥4294967296)) (rn [nI 32,(.int .u64 (shrI .u64 A 32))]) (rn [nI 0,.int .u64 A])) (T275k2)
theorem T275_eq (A:Int):progOf PROG false 275 [(.int .u64 A)]=T275 A:=by kernel_rfl
noncomputable def T276k0 (A B:Int):TK:=
 fun a b=>sw a .normal (asNil b (rn (Wh (wi64 (A - 1)) (wi64 (B+1))))) (.fail)
noncomputable def T276b0 (A:Option Addr) (B:Nat):TB:=
 fun a=>Xe a fun a b=>iB (decide (b<a)) (.join (asSome A fun c=>ix a B (Yx (aadd c ((Int.toNat a)*2)) fun c d=>asSome A fun f=>ix b B (Yx (aadd f ((Int.toNat b)*2)) fun f g=>asSome A fun h=>ix b B (sC (aadd h ((Int.toNat b)*2)) (Wh c d) (asSome A fun b=>ix a B (sC (aadd b ((Int.toNat a)*2)) (Wh f g) (rn []))))))) (T276k0 a b)) (re 0 (Wh a b))
noncomputable def T276k1:TK:=
 fun a b=>sw a (.exit 0) (Xe b fun _ _=>rr [(.tuple #[])]) (.fail)
noncomputable def T276 (A:Option Addr) (B C:Nat):Pg:=
 .loop (Wh (wi64 ((B:Int) - 1)) 0) (T276b0 A B) (T276k1)
theorem T276_eq (A:Option Addr) (B C:Nat):progOf PROG false 276 [.slice A B C]=T276 A B C:=by kernel_rfl
noncomputable def T277k0:TK:=
 Uk
noncomputable def T277k1 (A B C:Addr):TK:=
 fun a b=>sw a .normal (Xa b fun a=>iB a (Yw A fun a b c d f g=>lL (aadd B 4) fun h i _=>lI (aadd C 1) fun j=>asSome h fun h=>grd ((decide (0≤(wi64 (j - 1))))&&(decide ((wi64 (j - 1))<(i:Int)))) (lI (aadd h ((Int.toNat (wi64 (j - 1)))*1)) fun h=>qL 309 [(We a b c d f g),nI h] fun a b c=>rr [.slice a b c])) (rn [.slice none 0 0])) (.fail)
noncomputable def T277k2:TK:=
 Uf
noncomputable def T277k3:TK:=
 Uf
noncomputable def T277k4:TK:=
 Uf
noncomputable def T277k5:TK:=
 Kb
noncomputable def T277 (A:Option Addr) (B C:Nat) (D:Option Addr) (E F:Nat) (G H:Int):Pg:=
 nw (Wa A B C D E F) fun a=>nw (Wh G H) fun b=>lL (aadd a 0) fun c d _=>lI (aadd b 0) fun f=>asSome c fun c=>ix f d (Za (aadd c ((Int.toNat f)*7)) fun c d f g h i j k l=>nw Zq fun m=>sC m (Ws c d f g h i j k l) (lI (aadd m 0) fun c=>.join (iB (c==6) (lS (aadd m 3) fun a=>lI (aadd b 0) fun b=>bL 3 1 (Vi a b true) fun a b c=>rr [.slice a b c]) (.join (iB (c==8) (lI (aadd b 1) fun a=>iB (a==1) (lS (aadd m 2) fun a=>lI (aadd b 0) fun b=>bL 3 1 (Vi a b false) fun a b c=>rr [.slice a b c]) (rn [.slice none 0 0])) (iB (c==9) (lS (aadd m 2) fun a=>lI (aadd b 0) fun c=>bL 3 1 (Vi a c false) fun a c d=>lI (aadd b 1) fun f=>.join (iB (f==0) (lS (aadd m 3) fun f=>lI (aadd b 0) fun b=>bL 3 1 (Vi f b true) fun b f g=>.act (apS 3 32 b f g a c d) fun a=>asSlice a fun a b c=>rn [.slice a b c]) (rn [.slice a c d])) (T277k0)) (.join (iB (c==20) (lI (aadd b 1) fun a=>iB (a==1) (lS (aadd m 3) fun a=>lI (aadd b 0) fun b=>bL 3 1 (Vi a b true) fun a b c=>rr [.slice a b c]) (rn [.slice none 0 0])) (.join (iB (c==11) (.join (lI (aadd b 1) fun a=>iB ((decide (a>0))==true) (lI (aadd b 1) fun a=>qB 92 [nI a] fun a=>rn [(.bool (!a))]) (rn [.bool false])) (T277k1 a m b)) (rn [.slice none 0 0])) (T277k2))) (T277k3)))) (T277k4))) (T277k5)))
theorem T277_eq (A:Option Addr) (B C:Nat) (D:Option Addr) (E F:Nat) (G H:Int):progOf PROG false 277 [(.agg #[.slice A B C,.slice D E F]),(.agg #[(.int .i64 G),(.int .i64 H)])]=T277 A B C D E F G H:=by kernel_rfl
noncomputable def T278k0 (A:Int):TK:=
 Vr A
noncomputable def T278b0 (A:Nat) (B:Option Addr) (C:ByteArray) (D:Addr):TB:=
 fun a=>Xg a fun a b=>iB (decide (a<(A:Int))) (.join (asSome B fun c=>ix a A (lA 3 (aadd c ((Int.toNat a)*3)) fun a=>Yl a fun a c d=>nw (Vi (bs []) 0 false) fun f=>sC f (Vi a c d) (lS (aadd f 0) fun a=>iB (a.toList==C.toList) (Zg (aadd f 1) fun a b=>sC D (Wd a b) (rr [.bool true])) (rn [.bool b])))) (T278k0 a)) (re 0 (Wd a b))
noncomputable def T278k1 (A:Addr):TK:=
 fun a b=>sw a (.exit 0) (Xg b fun _ _=>sC A Zi (.act (ldN 2 A) fun a=>rr [(.tuple #[a,.bool false])])) (sw a .ret (Xg b fun _ a=>.act (ldN 2 A) fun b=>rr [(.tuple #[b,.bool a])]) (.fail))
noncomputable def T278 (A:Option Addr) (B C:Nat) (D:ByteArray):Pg:=
 nw Zi fun a=>.loop Zi (T278b0 B A D a) (T278k1 a)
theorem T278_eq (A:Option Addr) (B C:Nat) (D:ByteArray):progOf PROG false 278 [.slice A B C,.string D]=T278 A B C D:=by kernel_rfl
noncomputable def T279k0 (A:Int):TK:=
 Vp A
noncomputable def T279b0 (A:Nat) (B:Option Addr) (C:Addr):TB:=
 fun a=>Xe a fun a b=>iB (decide (a<(A:Int))) (.join (asSome B fun c=>ix a A (Yx (aadd c ((Int.toNat a)*2)) fun a c=>nw Zm fun d=>sC d (Wh a c) (Yw C fun a c f g h i=>Yx d fun j k=>qB 310 [(We a c f g h i),(Wt j k)] fun a=>iB a (lI (aadd d 0) fun a=>rr [nI a]) (rn [nI b])))) (T279k0 a)) (re 0 (Wh a b))
noncomputable def T279k1:TK:=
 Vq
noncomputable def T279 (A:Option Addr) (B C:Nat) (D:Option Addr) (E F:Nat) (G:Option Addr) (H I:Nat):Pg:=
 nw (Wa A B C D E F) fun a=>.loop Zm (T279b0 H G a) (T279k1)
theorem T279_eq (A:Option Addr) (B C:Nat) (D:Option Addr) (E F:Nat) (G:Option Addr) (H I:Nat):progOf PROG false 279 [(.agg #[.slice A B C,.slice D E F]),.slice G H I]=T279 A B C D E F G H I:=by kernel_rfl
noncomputable def T280k0 (A:Int):TK:=
 Vp A
noncomputable def T280b0 (A:Nat) (B:Addr) (C:Option Addr):TB:=
 fun a=>Xe a fun a b=>iB (decide (a<(A:Int))) (.join (Zg B fun c d=>asSome C fun f=>ix a A (Zg (aadd f ((Int.toNat a)*2)) fun f g=>iB ((c==f)&&((d==g)&&true)) (rr [nI a]) (rn [nI b]))) (T280k0 a)) (re 0 (Wh a b))
noncomputable def T280k1:TK:=
 Vq
noncomputable def T280 (A:Option Addr) (B C:Nat) (D:Int) (E:Bool):Pg:=
 nw (Wd D E) fun a=>.loop Zm (T280b0 B a A) (T280k1)
theorem T280_eq (A:Option Addr) (B C:Nat) (D:Int) (E:Bool):progOf PROG false 280 [.slice A B C,(.agg #[(.int .i64 D),.bool E])]=T280 A B C D E:=by kernel_rfl
noncomputable def T281 (A:Option Addr) (B:Int):Pg:=
 asSome A fun a=>lL (aadd a 2) fun a b _=>asSome a fun a=>ix B b (.act (ld1 (aadd a ((Int.toNat B)*1))) fun a=>asInt .u64 a fun a=>qT 219 [.int .u64 a] fun a=>Ym a fun _ _ a _=>asSome A fun b=>lL (aadd b 2) fun b _ c=>grd (((((decide (0≤(wi64 (B+1))))&&(decide ((wi64 (B+1))≤(wi64 ((wi64 (B+1))+a)))))&&(decide ((wi64 ((wi64 (B+1))+a))≤(c:Int))))&&(decide ((c:Int)≤(c:Int))))&&((mayCut b 1)||(decide ((wi64 (B+1))=0)))) (rr [(.slice (cutS b ((Int.toNat (wi64 (B+1)))*1)) ((Int.toNat (wi64 ((wi64 (B+1))+a))) - (Int.toNat (wi64 (B+1)))) (c - (Int.toNat (wi64 (B+1)))))]))
theorem T281_eq (A:Option Addr) (B:Int):progOf PROG false 281 [(.pointer A),(.int .i64 B)]=T281 A B:=by kernel_rfl
noncomputable def T282k0 (A:Int):TK:=
 Vp A
noncomputable def T282b0 (A:Nat) (B:Option Addr) (C:Value):TB:=
 fun a=>Xe a fun a b=>iB (decide (a<(A:Int))) (.join (asSome B fun c=>ix a A (.act (ld1 (aadd c ((Int.toNat a)*1))) fun c=>asInt .u64 c fun c=>asFunc C fun d f g=>.call d (f++[.int .u64 c]++g) fun c=>asBool c fun c=>iB c (rr [nI a]) (rn [nI b]))) (T282k0 a)) (re 0 (Wh a b))
noncomputable def T282k1:TK:=
 Vq
noncomputable def T282 (A:Option Addr) (B C:Nat) (D:Value):Pg:=
 .loop Zm (T282b0 B A D) (T282k1)
theorem T282_eq (A:Option Addr) (B C:Nat) (D:Value):progOf PROG false 282 [.slice A B C,D]=T282 A B C D:=by kernel_rfl
noncomputable def T283 (A:Int):Pg:=
 rr [(.int .u64 (shlI .u64 (wu64 (minV (maxV A 0) 2147483647)) 1))]
theorem T283_eq (A:Int):progOf PROG false 283 [(.int .i64 A)]=T283 A:=by kernel_rfl
noncomputable def T284k0 (A:Int):TK:=
 fun a b=>sw a .normal (Xa b fun a=>iB a (rr [(.tuple #[nI 0,.bool false])]) (rr [(.tuple #[(nI (wi64 (shrI .u64 A 1))),.bool true])])) (.fail)
noncomputable def T284 (A:Int):Pg:=
 .join (iB (((andI .u64 A 1)==1)==false) (rn [(.bool (decide ((shrI .u64 A 1)>2147483647)))]) (rn [.bool true])) (T284k0 A)
theorem T284_eq (A:Int):progOf PROG false 284 [(.int .u64 A)]=T284 A:=by kernel_rfl
noncomputable def T288k0:TK:=
 Ud
noncomputable def T288b0 (A:Option Addr):TB:=
 fun a=>Xo a fun a=>qB 37 (Wm A 0 (bs [42])) fun b=>iB b (.join (qA 75 [.pointer A] fun b=>Xi b fun b c d f=>nw Zt fun g=>sC g (Vb b c d f) (.act (ldN 4 g) fun b=>asAgg b fun c=>Xi c fun c d f h=>.call 317 [.pointer A] fun i=>asPtr i fun i=>.get fun j=>grd (chks [((ldN 4 g),b)] j) (.call 232 [(.agg #[nI c,.string d,nI f,nI h]),.pointer a,.pointer i] fun a=>asPtr a fun a=>rn [.pointer a]))) (T288k0)) (re 0 [.pointer a])
noncomputable def T288k1:TK:=
 Ue
noncomputable def T288 (A:Option Addr):Pg:=
 .call 317 [.pointer A] fun a=>asPtr a fun a=>.loop [.pointer a] (T288b0 A) (T288k1)
theorem T288_eq (A:Option Addr):progOf PROG false 288 [(.pointer A)]=T288 A:=by kernel_rfl
noncomputable def T290k0:TK:=
 Uh
noncomputable def T290k1:TK:=
 fun a b=>sw a .normal (Xa b fun a=>iB a (rr [nI 5]) (rn [nI 0])) (.fail)
noncomputable def T290k2 (A B:Addr) (C:Option Addr):TK:=
 fun a b=>sw a .normal (Xa b fun a=>iB a (lI (aadd A 2) fun a=>lI (aadd B 2) fun b=>.join (iB (a !=b) (asSome C fun a=>.act (ld1 (aadd a 1)) fun a=>asMap a fun a=>lI (aadd A 2) fun b=>lI (aadd B 2) fun c=>lI (aadd A 2) fun d=>lI (aadd B 2) fun f=>.act (mup (.int .i64) a (nI (maxV b c)) (Wl 7 (bs []) (minV d f) none 0 0)) fun a=>asTuple a fun a=>asNil a (rn [])) (rn [])) (T290k0)) (lI (aadd A 0) fun a=>iB (a==7) (lI (aadd A 2) fun a=>Yz B fun b c d f g h=>qI 318 [.pointer C,nI a,(Wl b c d f g h)] fun a=>rr [nI a]) (lI (aadd B 0) fun a=>iB (a==7) (lI (aadd B 2) fun a=>Yz A fun b c d f g h=>qI 318 [.pointer C,nI a,(Wl b c d f g h)] fun a=>rr [nI a]) (.join (lI (aadd A 0) fun a=>lI (aadd B 0) fun b=>iB ((a !=b)==false) (lS (aadd A 1) fun a=>lS (aadd B 1) fun b=>rn [(.bool (!(a.toList==b.toList)))]) (rn [.bool true])) (T290k1))))) (.fail)
noncomputable def T290k3 (A:Int):TK:=
 Vp A
noncomputable def T290b0 (A:Nat) (B C:Addr) (D:Option Addr):TB:=
 fun a=>Xe a fun a b=>iB (decide (a<(A:Int))) (.join (lL (aadd B 3) fun c d _=>asSome c fun c=>ix a d (Yz (aadd c ((Int.toNat a)*4)) fun c d f g h i=>lL (aadd C 3) fun j k _=>asSome j fun j=>ix a k (Yz (aadd j ((Int.toNat a)*4)) fun a j k l m n=>qI 290 [.pointer D,(Wl c d f g h i),(Wl a j k l m n)] fun a=>iB (a !=0) (rr [nI a]) (rn [nI b])))) (T290k3 a)) (re 1 (Wh a b))
noncomputable def T290k4:TK:=
 fun a b=>sw a (.exit 1) (Xe b fun _ _=>rr [nI 0]) (sw a .ret (Xe b fun _ a=>rr [nI a]) (.fail))
noncomputable def T290k5 (A B:Addr) (C:Option Addr):TK:=
 fun a b=>sw a .ret (Xd b fun a=>rr [nI a]) (sw a .normal (Xd b fun a=>lL (aadd A 3) fun _ b _=>.loop (Wh 0 a) (T290b0 b A B C) (T290k4)) (.fail))
noncomputable def T290k6 (A:Addr) (B:Option Addr) (C:Addr):TK:=
 fun a b=>sw a .normal (Xa b fun a=>iB a (rr [nI 2]) (Yz A fun a b c d f g=>.get fun h=>qA 182 [.pointer B,(Wl a b c d f g)] fun a=>Xb a fun a b c d f g=>.act (ldN 4 C) fun i=>grd (past (ldN 4 C) i [h]) (asAgg i fun h=>Xb h fun h i j k l m=>qA 182 [.pointer B,(Wl h i j k l m)] fun h=>Xb h fun h i j k l m=>sC A (Wo a b c d f g) (sC C (Wo h i j k l m) (.join (.join (lI (aadd A 0) fun a=>iB ((a==7)==true) (lI (aadd C 0) fun a=>rn [(.bool (a==7))]) (rn [.bool false])) (T290k2 A C B)) (T290k5 A C B)))))) (.fail)
noncomputable def T290 (A:Option Addr) (B:Int) (C:ByteArray) (D:Int) (E:Option Addr) (F G:Nat) (H:Int) (I:ByteArray) (J:Int) (K:Option Addr) (L M:Nat):Pg:=
 nw (Wo B C D E F G) fun a=>nw (Wo H I J K L M) fun b=>.join (Yz a fun a c d f g h=>qB 291 [.pointer A,(Wl a c d f g h)] fun a=>iB ((!a)==false) (Yz b fun a b c d f g=>qB 291 [.pointer A,(Wl a b c d f g)] fun a=>rn [(.bool (!a))]) (rn [.bool true])) (T290k6 a A b)
theorem T290_eq (A:Option Addr) (B:Int) (C:ByteArray) (D:Int) (E:Option Addr) (F G:Nat) (H:Int) (I:ByteArray) (J:Int) (K:Option Addr) (L M:Nat):progOf PROG false 290 [(.pointer A),(.agg #[(.int .i64 B),.string C,(.int .i64 D),.slice E F G]),(.agg #[(.int .i64 H),.string I,(.int .i64 J),.slice K L M])]=T290 A B C D E F G H I J K L M:=by kernel_rfl
noncomputable def T291 (A:Option Addr) (B:Int) (C:ByteArray) (D:Int) (E:Option Addr) (F G:Nat):Pg:=
 nw (Wo B C D E F G) fun a=>Yz a fun a b c d f g=>qI 319 [.pointer A,(Wl a b c d f g),nI 0] fun a=>rr [(.bool (decide (a≤500)))]
theorem T291_eq (A:Option Addr) (B:Int) (C:ByteArray) (D:Int) (E:Option Addr) (F G:Nat):progOf PROG false 291 [(.pointer A),(.agg #[(.int .i64 B),.string C,(.int .i64 D),.slice E F G])]=T291 A B C D E F G:=by kernel_rfl
noncomputable def T292k0 (A:Int):TK:=
 Vp A
noncomputable def T292b0 (A:Nat) (B:Option Addr) (C:Value):TB:=
 fun a=>Xe a fun a b=>iB (decide (a<(A:Int))) (.join (asSome B fun c=>ix a A (Zf (aadd c ((Int.toNat a)*5)) fun c d f g h i j k l=>asFunc C fun m n o=>.call m (n++[(.agg #[.slice c d f,nI g,.string h,nI i,.slice j k l])]++o) fun c=>asBool c fun c=>iB c (rr [nI a]) (rn [nI b]))) (T292k0 a)) (re 0 (Wh a b))
noncomputable def T292k1:TK:=
 Vq
noncomputable def T292 (A:Option Addr) (B C:Nat) (D:Value):Pg:=
 .loop Zm (T292b0 B A D) (T292k1)
theorem T292_eq (A:Option Addr) (B C:Nat) (D:Value):progOf PROG false 292 [.slice A B C,D]=T292 A B C D:=by kernel_rfl
noncomputable def T293 (A:Option Addr) (B C:Nat) (D:Int):Pg:=
 qI 320 [.slice A B C,nI D] fun a=>rr [(.bool (decide (a≥0)))]
theorem T293_eq (A:Option Addr) (B C:Nat) (D:Int):progOf PROG false 293 [.slice A B C,(.int .i64 D)]=T293 A B C D:=by kernel_rfl
noncomputable def T295k0 (A:Bool) (B:Int):TK:=
 Uu A B
noncomputable def T295k1 (A:Option Addr) (B C:Nat) (D E F:Int) (G H:Bool) (I:Int):TK:=
 fun a b=>sw a .normal (Xa b fun a=>iB a (qI 328 [.slice A B C,nI D,nI E,nI F] fun a=>rn (Vj E G H a I)) (qT 329 [.slice A B C,nI D,nI E,nI F] fun a=>Xg a fun a b=>.join (iB (decide ((wi64 (a - D))<(wi64 (E - a)))) (qT 295 [.slice A B C,nI D,nI a,nI I] fun b=>asNil b (rn [nI E,(nI (wi64 (a+1))),(.bool (decide ((wi64 (a - D))≥(wi64 (Int.tdiv (wi64 (E - D)) 8)))))])) (qT 295 [.slice A B C,(nI (wi64 (a+1))),nI E,nI I] fun b=>asNil b (rn [nI a,nI D,(.bool (decide ((wi64 (E - a))≥(wi64 (Int.tdiv (wi64 (E - D)) 8)))))]))) (T295k0 b I))) (.fail)
noncomputable def T295k2 (A:Int) (B C:Bool) (D E:Int) (F:Option Addr) (G:Nat) (H:Int) (I:Nat):TK:=
 fun a b=>sw a .ret (asNil b (rr (Vj A B C D E))) (sw a .normal (asNil b (.join (iB ((decide (D>0))==true) (asSome F fun a=>grd ((decide (0≤(wi64 (D - 1))))&&(decide ((wi64 (D - 1))<(G:Int)))) (lI (aadd a ((Int.toNat (wi64 (D - 1)))*1)) fun a=>asSome F fun b=>ix H G (lI (aadd b ((Int.toNat H)*1)) fun b=>qB 327 (Wh a b) fun a=>rn [(.bool (!a))]))) (rn [.bool false])) (T295k1 F G I D A H B C E))) (.fail))
noncomputable def T295k3 (A B:Bool) (C:Option Addr) (D E:Nat) (F G H:Int):TK:=
 fun a b=>sw a .normal (Xe b fun a b=>.join (iB ((A&&B)&&(a==1)) (qB 326 (Wy C D E F G) fun a=>iB a (rr []) (rn [])) (rn [])) (T295k2 G A B F H C D b E)) (.fail)
noncomputable def T295k4 (A:Option Addr) (B C:Nat) (D E:Int) (F G:Bool):TK:=
 fun a b=>sw a .normal (Xd b fun a=>qT 324 (Wy A B C D E) fun b=>Xe b fun b c=>.join (iB (c==2) (qT 325 (Wy A B C D E) fun a=>asNil a (rn (Wh 1 (wi64 ((wi64 (E - 1)) - (wi64 (b - D))))))) (rn (Wh c b))) (T295k3 F G A B C D E a)) (.fail)
noncomputable def T295k5:TK:=
 Uv
noncomputable def T295b0 (A:Option Addr) (B C:Nat):TB:=
 fun a=>Xq a fun a b c d f=>.join (iB (decide ((wi64 (a - d))≤12)) (qT 321 (Wy A B C d a) fun g=>asNil g (rr (Vj a b c d f))) (iB (f==0) (qT 322 (Wy A B C d a) fun g=>asNil g (rr (Vj a b c d f))) (.join (iB (!b) (qT 323 (Wy A B C d a) fun a=>asNil a (rn [(nI (wi64 (f - 1)))])) (rn [nI f])) (T295k4 A B C d a b c)))) (T295k5)
noncomputable def T295k6:TK:=
 Uw
noncomputable def T295 (A:Option Addr) (B C:Nat) (D E F:Int):Pg:=
 .loop (Vj E true true D F) (T295b0 A B C) (T295k6)
theorem T295_eq (A:Option Addr) (B C:Nat) (D E F:Int):progOf PROG false 295 [.slice A B C,(.int .i64 D),(.int .i64 E),(.int .i64 F)]=T295 A B C D E F:=by kernel_rfl
noncomputable def T301k0 (A B:Addr) (C:Int):TK:=
 fun a b=>sw a .normal (Xa b fun a=>iB a (Yw A fun a b c d f g=>lL (aadd B 4) fun h i _=>asSome h fun h=>grd ((decide (0≤(wi64 (C - 1))))&&(decide ((wi64 (C - 1))<(i:Int)))) (lI (aadd h ((Int.toNat (wi64 (C - 1)))*1)) fun h=>qL 85 [(We a b c d f g),nI h] fun a b c=>rr [.slice a b c])) (rn [.slice none 0 0])) (.fail)
noncomputable def T301k1 (A:Addr) (B:Int) (C:Addr):TK:=
 fun a b=>sw a .normal (Xa b fun a=>iB a (lS (aadd A 2) fun a=>bL 1 1 [.string a] fun a b c=>rr [.slice a b c]) (lI (aadd A 0) fun a=>iB (a==9) (lS (aadd A 2) fun a=>lS (aadd A 3) fun b=>bL 1 2 [.string a,.string b] fun a b c=>rr [.slice a b c]) (.join (lI (aadd A 0) fun a=>iB (((a==11)&&(decide (B>0)))==true) (qB 92 [nI B] fun a=>rn [(.bool (!a))]) (rn [.bool false])) (T301k0 C A B)))) (.fail)
noncomputable def T301k2 (A:Addr) (B:Int) (C:Addr):TK:=
 fun a b=>sw a .normal (Xa b fun a=>iB a (lS (aadd A 3) fun a=>bL 1 1 [.string a] fun a b c=>rr [.slice a b c]) (lI (aadd A 0) fun a=>.join (iB ((a==8)&&(B==1)) (rn [(.bool ((a==8)&&(B==1)))]) (lI (aadd A 0) fun a=>rn [(.bool ((a==9)&&(B==1)))])) (T301k1 A B C))) (.fail)
noncomputable def T301k3:TK:=
 Kb
noncomputable def T301 (A:Option Addr) (B C:Nat) (D:Option Addr) (E F:Nat) (G H:Int) (I J:ByteArray) (K:Option Addr) (L M:Nat) (N O Q:Int):Pg:=
 nw (Wa A B C D E F) fun a=>nw (Ws G H I J K L M N O) fun b=>.join (lI (aadd b 0) fun c=>.join (iB (c==6) (rn [(.bool (c==6))]) (lI (aadd b 0) fun a=>rn [(.bool ((a==20)&&(Q==1)))])) (T301k2 b Q a)) (T301k3)
theorem T301_eq (A:Option Addr) (B C:Nat) (D:Option Addr) (E F:Nat) (G H:Int) (I J:ByteArray) (K:Option Addr) (L M:Nat) (N O Q:Int):progOf PROG false 301 [(.agg #[.slice A B C,.slice D E F]),(.agg #[(.int .i64 G),(.int .i64 H),.string I,.string J,.slice K L M,(.int .i64 N),(.int .i64 O)]),(.int .i64 Q)]=T301 A B C D E F G H I J K L M N O Q:=by kernel_rfl
noncomputable def T310k0:TK:=
 Vn
noncomputable def T310 (A:Option Addr) (B C:Nat) (D:Option Addr) (E F:Nat) (G H:Int):Pg:=
 nw (Wa A B C D E F) fun a=>nw (Wh G H) fun b=>.join (lL (aadd a 0) fun a c _=>lI (aadd b 0) fun d=>asSome a fun a=>ix d c (lI (aadd (aadd a ((Int.toNat d)*7)) 0) fun a=>qB 96 [nI a] fun a=>iB (a==true) (lI (aadd b 1) fun a=>rn [(.bool (a==0))]) (rn [.bool false]))) (T310k0)
theorem T310_eq (A:Option Addr) (B C:Nat) (D:Option Addr) (E F:Nat) (G H:Int):progOf PROG false 310 [(.agg #[.slice A B C,.slice D E F]),(.agg #[(.int .i64 G),(.int .i64 H)])]=T310 A B C D E F G H:=by kernel_rfl
noncomputable def T317k0:TK:=
 Ud
noncomputable def T317b0 (A:Option Addr):TB:=
 fun a=>Xo a fun a=>qB 342 [.pointer A] fun b=>iB b (.join (.call 341 [.pointer A] fun b=>asPtr b fun b=>asSome a fun c=>lI (aadd (aadd c 0) 5) fun c=>bL 1 2 [.pointer a,.pointer b] fun a b d=>.call 80 (Wz 7 c a b d) fun a=>asPtr a fun a=>rn [.pointer a]) (T317k0)) (re 0 [.pointer a])
noncomputable def T317k1:TK:=
 Ue
noncomputable def T317 (A:Option Addr):Pg:=
 .call 341 [.pointer A] fun a=>asPtr a fun a=>.loop [.pointer a] (T317b0 A) (T317k1)
theorem T317_eq (A:Option Addr):progOf PROG false 317 [(.pointer A)]=T317 A:=by kernel_rfl
noncomputable def T318 (A:Option Addr) (B C:Int) (D:ByteArray) (E:Int) (F:Option Addr) (G H:Nat):Pg:=
 nw (Wo C D E F G H) fun a=>Yz a fun b c d f g h=>.act makeMapAct fun i=>asMap i fun i=>qB 343 [.pointer A,nI B,(Wl b c d f g h),.map i] fun b=>iB b (rr [nI 5]) (asSome A fun b=>.act (ld1 (aadd b 1)) fun b=>asMap b fun b=>Yz a fun a c d f g h=>.act (mup (.int .i64) b (nI B) (Wl a c d f g h)) fun a=>asTuple a fun a=>asNil a (rr [nI 0]))
theorem T318_eq (A:Option Addr) (B C:Int) (D:ByteArray) (E:Int) (F:Option Addr) (G H:Nat):progOf PROG false 318 [(.pointer A),(.int .i64 B),(.agg #[(.int .i64 C),.string D,(.int .i64 E),.slice F G H])]=T318 A B C D E F G H:=by kernel_rfl
noncomputable def T319k0 (A:Int):TK:=
 Uy A
noncomputable def T319b0 (A:Nat) (B C:Option Addr):TB:=
 fun a=>Xe a fun a b=>iB (decide (a<(A:Int))) (.join (asSome B fun c=>ix a A (Yz (aadd c ((Int.toNat a)*4)) fun a c d f g h=>nw Zp fun i=>sC i (Wo a c d f g h) (iB (decide (b>500)) (re 0 [nI b]) (Yz i fun a c d f g h=>qI 319 [.pointer C,(Wl a c d f g h),nI b] fun a=>rn [nI a])))) (T319k0 a)) (re 0 (Wh a b))
noncomputable def T319k1:TK:=
 Uz
noncomputable def T319 (A:Option Addr) (B:Int) (C:ByteArray) (D:Int) (E:Option Addr) (F G:Nat) (H:Int):Pg:=
 nw (Wo B C D E F G) fun a=>Yz a fun b c d f g h=>qA 182 [.pointer A,(Wl b c d f g h)] fun b=>Xb b fun b c d f g h=>sC a (Wo b c d f g h) (lL (aadd a 3) fun a b _=>.loop (Wh 0 (wi64 (H+1))) (T319b0 b a A) (T319k1))
theorem T319_eq (A:Option Addr) (B:Int) (C:ByteArray) (D:Int) (E:Option Addr) (F G:Nat) (H:Int):progOf PROG false 319 [(.pointer A),(.agg #[(.int .i64 B),.string C,(.int .i64 D),.slice E F G]),(.int .i64 H)]=T319 A B C D E F G H:=by kernel_rfl
noncomputable def T320k0 (A:Int):TK:=
 Vp A
noncomputable def T320b0 (A:Nat) (B:Option Addr) (C:Int):TB:=
 fun a=>Xe a fun a b=>iB (decide (a<(A:Int))) (.join (asSome B fun c=>ix a A (lI (aadd c ((Int.toNat a)*1)) fun c=>iB (C==c) (rr [nI a]) (rn [nI b]))) (T320k0 a)) (re 0 (Wh a b))
noncomputable def T320k1:TK:=
 Vq
noncomputable def T320 (A:Option Addr) (B C:Nat) (D:Int):Pg:=
 .loop Zm (T320b0 B A D) (T320k1)
theorem T320_eq (A:Option Addr) (B C:Nat) (D:Int):progOf PROG false 320 [.slice A B C,(.int .i64 D)]=T320 A B C D:=by kernel_rfl
end Go.Pg
