/- TCv, V, LexP -/
import Derived.Test.YtadmleckoibeeaaGreatDoorProg
import Derived.KernelRfl
import Derived.Test.YtadmleckoibeeaaGreatDoorRows
import Derived.Test.YtadmleckoibeeaaGreatDoorP3
namespace Go.Pg
open Go.Proofs
set_option linter.unusedVariables false
set_option maxRecDepth 100000
noncomputable abbrev PROG : Program := Tryz.prog
abbrev cI (l : List Value) (f : Int → List Value → Pg) : Pg := asCons l fun v r => asInt .i64 v fun i => f i r
abbrev cS (l : List Value) (f : ByteArray → List Value → Pg) : Pg := asCons l fun v r => asStr v fun i => f i r
abbrev cB (l : List Value) (f : Bool → List Value → Pg) : Pg := asCons l fun v r => asBool v fun i => f i r
abbrev cL (l : List Value) (f : Option Addr → Nat → Nat → List Value → Pg) : Pg := asCons l fun v r => asSlice v fun p n c => f p n c r
noncomputable def T6k0 : Ex → List Value → Pg :=
 fun a b => sw a .normal (cI b fun a b => asNil b (.ret .normal [.int .i64 a])) (.fail)
noncomputable def T6k1 (i38 : Int) (i41 : Int) : Ex → List Value → Pg :=
 fun a b => sw a .normal (cB b fun a b => asNil b (.join (bif a then (.ret .normal [.int .i64 i38]) else (.ret .normal [.int .i64 i41])) (T6k0))) (.fail)
noncomputable def T6k2 (i38 : Int) : Ex → List Value → Pg :=
 fun a b => sw a .normal (cI b fun a b => asNil b (.ret .normal [(.int .i64 (wi64 (i38 + 1))), .int .i64 a])) (.fail)
noncomputable def T6b0 (a23 : Addr) : List Value → Pg :=
 fun a => cI a fun a b => cI b fun b c => asNil c (.act (ld1 (aadd a23 0)) fun c => asSlice c fun _ c _ => bif (decide (a < (c:Int))) then (.join (.join (.act (ld1 (aadd a23 0)) fun b => asSlice b fun b c _ => asSome b fun b => grd (decide (0 ≤ a) && decide (a < (c:Int))) (.act (ld1 (aadd (aadd b ((Int.toNat a) * 7)) 0)) fun b => asInt .i64 b fun b => bif (b == 21) == false then (.act (ld1 (aadd a23 0)) fun b => asSlice b fun b c _ => asSome b fun b => grd (decide (0 ≤ a) && decide (a < (c:Int))) (.act (ld1 (aadd (aadd b ((Int.toNat a) * 7)) 0)) fun a => asInt .i64 a fun a => .ret .normal [(.bool (a == 22))])) else (.ret .normal [.bool true]))) (T6k1 a b)) (T6k2 a)) else (.ret (.exit 0) [.int .i64 a, .int .i64 b]))
noncomputable def T6k3 (b89 : Bool) : Ex → List Value → Pg :=
 fun a b => sw a .normal (cB b fun a b => asNil b (bif a then (.ret .ret [.bool false]) else (.ret .normal [.bool b89]))) (.fail)
noncomputable def T6k4 (i82 : Int) (a23 : Addr) (i86 : Int) (b89 : Bool) : Ex → List Value → Pg :=
 fun a b => sw a .normal (cB b fun a b => asNil b (bif a then (.ret .ret [.bool false]) else (.join (bif (decide (i82 ≥ 0)) == true then (.act (ldN 2 a23) fun a => asAgg a fun a => cL a fun a c d b => cL b fun b g h f => asNil f (.act (bdSl 1 1 [.int .i64 i82]) fun f => asSlice f fun f i j => .act (bdSl 1 1 [.slice f i j]) fun f => asSlice f fun f i j => .act (bdSl 1 1 [.int .i64 i86]) fun k => asSlice k fun k l m => .call 17 [(.agg #[.slice a c d, .slice b g h]), .slice f i j, .slice k l m] fun a => asBool a fun a => bif a == false then (.act (ldN 2 a23) fun a => asAgg a fun a => cL a fun a c d b => cL b fun b g h f => asNil f (.act (bdSl 1 1 [.int .i64 i82]) fun f => asSlice f fun f i j => .act (bdSl 1 1 [.slice f i j]) fun f => asSlice f fun f i j => .call 11 [(.agg #[.slice a c d, .slice b g h]), .slice f i j] fun a => asBool a fun a => .ret .normal [(.bool (!a))])) else (.ret .normal [.bool true]))) else (.ret .normal [.bool false])) (T6k3 b89)))) (.fail)
noncomputable def T6k5 (b89 : Bool) (a23 : Addr) (i86 : Int) (i82 : Int) : Ex → List Value → Pg :=
 fun a b => sw a .normal (cB b fun a b => asNil b (bif a then (.ret .normal [.bool b89]) else (.join (.act (ldN 2 a23) fun a => asAgg a fun a => cL a fun a c d b => cL b fun b g h f => asNil f (.act (bdSl 1 1 [.int .i64 i86]) fun f => asSlice f fun f i j => .call 17 [(.agg #[.slice a c d, .slice b g h]), .slice none 0 0, .slice f i j] fun a => asBool a fun a => bif (!a) == false then (.act (ldN 2 a23) fun a => asAgg a fun a => cL a fun a c d b => cL b fun b g h f => asNil f (.act (bdSl 1 1 [.int .i64 i86]) fun f => asSlice f fun f i j => .act (bdSl 1 1 [.slice f i j]) fun f => asSlice f fun f i j => .act (bdSl 1 1 [.int .i64 i86]) fun k => asSlice k fun k l m => .call 17 [(.agg #[.slice a c d, .slice b g h]), .slice f i j, .slice k l m] fun a => asBool a fun a => .ret .normal [.bool a])) else (.ret .normal [.bool true]))) (T6k4 i82 a23 i86 b89)))) (.fail)
noncomputable def T6k6 (i86 : Int) : Ex → List Value → Pg :=
 fun a b => sw a .ret (cB b fun a b => asNil b (.ret .ret [.int .i64 i86, .bool a])) (sw a .normal (cB b fun a b => asNil b (.ret .normal [(.int .i64 (wi64 (i86 + 1))), .bool a])) (.fail))
noncomputable def T6b1 (a23 : Addr) (i82 : Int) : List Value → Pg :=
 fun a => cI a fun a b => cB b fun b c => asNil c (.act (ld1 (aadd a23 0)) fun c => asSlice c fun _ c _ => bif (decide (a < (c:Int))) then (.join (.join (.act (ld1 (aadd a23 0)) fun b => asSlice b fun b c _ => asSome b fun b => grd (decide (0 ≤ a) && decide (a < (c:Int))) (.act (ld1 (aadd (aadd b ((Int.toNat a) * 7)) 0)) fun b => asInt .i64 b fun b => bif (decide (b < 21)) == false then (.act (ldN 2 a23) fun b => asAgg b fun b => cL b fun b d f c => cL c fun c h i g => asNil g (.call 19 [(.agg #[.slice b d f, .slice c h i]), .int .i64 a] fun a => asBool a fun a => .ret .normal [(.bool (!a))])) else (.ret .normal [.bool true]))) (T6k5 b a23 a i82)) (T6k6 a)) else (.ret (.exit 2) [.int .i64 a, .bool b]))
noncomputable def T6k7 : Ex → List Value → Pg :=
 fun a b => sw a (.exit 2) (cI b fun _ b => cB b fun _ b => asNil b (.ret .ret [.bool true])) (sw a .ret (cI b fun _ b => cB b fun a b => asNil b (.ret .ret [.bool a])) (.fail))
noncomputable def T6k8 (a23 : Addr) : Ex → List Value → Pg :=
 fun a b => sw a (.exit 0) (cI b fun _ b => cI b fun a b => asNil b (.loop [.int .i64 0, .bool false] (T6b1 a23 a) (T6k7))) (.fail)
noncomputable def T6k9 (a23 : Addr) : Ex → List Value → Pg :=
 fun a b => sw a .normal (cB b fun a b => asNil b (bif a then (.ret .ret [.bool true]) else (.loop [.int .i64 0, (.int .i64 (-1))] (T6b0 a23) (T6k8 a23)))) (.fail)
noncomputable def T6 (s0 : ByteArray) : Pg :=
 .call 8 [] fun a => asBool a fun a => bif (!a) then (.ret .ret [.bool false]) else (.call 12 [.string s0] fun a => asTuple a fun a => asCons a fun a b => asAgg a fun a => cL a fun a d f c => cL c fun c h i g => asNil g (cB b fun b g => asNil g (.act (newC [.slice none 0 0, .slice none 0 0]) fun g => asPtr g fun g => asSome g fun g => .act (stC g [.slice a d f, .slice c h i]) fun a => asTuple a fun a => asNil a (.join (bif (!b) == false then (.act (ld1 (aadd g 0)) fun a => asSlice a fun _ a _ => .ret .normal [(.bool (decide ((a:Int) > 80)))]) else (.ret .normal [.bool true])) (T6k9 g)))))
theorem T6_eq (s0 : ByteArray) : progOf PROG false 6 [(.string s0)] = T6 s0 := by kernel_rfl
noncomputable def T8 : Pg :=
 .call 9 [(.string (bs [109, 97, 116, 99, 104, 32, 120, 32, 119, 105, 116, 104, 32, 116, 114, 117, 101, 32, 45, 62, 32, 49, 32, 124, 32, 95, 32, 45, 62, 32, 50, 32, 101, 110, 100]))] fun a => asTuple a fun a => cI a fun a b => cI b fun _ c => asNil c (.call 9 [(.string (bs [109, 97, 116, 99, 104, 32, 120, 32, 119, 105, 116, 104, 32, 95, 32, 45, 62, 32, 49, 32, 124, 32, 116, 114, 117, 101, 32, 45, 62, 32, 50, 32, 101, 110, 100]))] fun b => asTuple b fun b => cI b fun b c => cI c fun c d => asNil d (.ret .ret [(.bool (((a == 0) && (b == 7)) && (c == 4)))]))
theorem T8_eq : progOf PROG false 8 [] = T8 := by kernel_rfl
noncomputable def T9 (s0 : ByteArray) : Pg :=
 .call 12 [.string s0] fun a => asTuple a fun a => asCons a fun a b => asAgg a fun a => cL a fun a d f c => cL c fun c h i g => asNil g (cB b fun b g => asNil g (.act (newC [.slice none 0 0, .slice none 0 0]) fun g => asPtr g fun g => asSome g fun g => .act (stC g [.slice a d f, .slice c h i]) fun a => asTuple a fun a => asNil a (bif (!b) then (.ret .ret [(.tuple #[(.int .i64 (-1)), .int .i64 0])]) else (.act (ldN 2 g) fun a => asAgg a fun a => cL a fun a c d b => cL b fun b g h f => asNil f (.call 10 [(.agg #[.slice a c d, .slice b g h])] fun a => asTuple a fun a => cI a fun a b => cI b fun b c => asNil c (.ret .ret [(.tuple #[.int .i64 a, .int .i64 b])]))))))
theorem T9_eq (s0 : ByteArray) : progOf PROG false 9 [(.string s0)] = T9 s0 := by kernel_rfl
noncomputable def T10k0 (i30 : Int) : Ex → List Value → Pg :=
 fun a b => sw a .ret (cI b fun a b => cI b fun b c => asNil c (.ret .ret [.int .i64 i30, .int .i64 a, .int .i64 b])) (sw a .normal (cI b fun a b => cI b fun b c => asNil c (.ret .normal [(.int .i64 (wi64 (i30 + 1))), .int .i64 a, .int .i64 b])) (.fail))
noncomputable def T10b0 (n25 : Nat) (p24 : Option Addr) (a8 : Addr) : List Value → Pg :=
 fun a => cI a fun a b => cI b fun b c => cI c fun c d => asNil d (bif (decide (a < (n25:Int))) then (.join (asSome p24 fun d => grd (decide (0 ≤ a) && decide (a < (n25:Int))) (.act (ldN 7 (aadd d ((Int.toNat a) * 7))) fun d => asAgg d fun d => cI d fun d f => cI f fun f g => cS g fun g h => cS h fun h i => cL i fun i k l j => cI j fun j m => cI m fun m n => asNil n (.act (newC [.int .i64 0, .int .i64 0, (.string (bs [])), (.string (bs [])), .slice none 0 0, .int .i64 0, .int .i64 0]) fun n => asPtr n fun n => asSome n fun n => .act (stC n [.int .i64 d, .int .i64 f, .string g, .string h, .slice i k l, .int .i64 j, .int .i64 m]) fun d => asTuple d fun d => asNil d (.act (ld1 (aadd n 0)) fun d => asInt .i64 d fun d => bif (d != 11) then (.ret .normal [.int .i64 b, .int .i64 c]) else (.act (ldN 2 a8) fun d => asAgg d fun d => cL d fun d g h f => cL f fun f j k i => asNil i (.call 22 [(.agg #[.slice d g h, .slice f j k]), .int .i64 a] fun a => asTuple a fun a => cI a fun a d => cI d fun d f => asNil f (bif (a != 0) then (.ret .ret [.int .i64 d, .int .i64 a]) else (.ret .normal [.int .i64 b, .int .i64 c])))))))) (T10k0 a)) else (.ret (.exit 0) [.int .i64 a, .int .i64 b, .int .i64 c]))
noncomputable def T10k1 : Ex → List Value → Pg :=
 fun a b => sw a (.exit 0) (cI b fun _ b => cI b fun _ b => cI b fun _ b => asNil b (.ret .ret [(.tuple #[.int .i64 0, .int .i64 0])])) (sw a .ret (cI b fun _ b => cI b fun a b => cI b fun b c => asNil c (.ret .ret [(.tuple #[.int .i64 b, .int .i64 a])])) (.fail))
noncomputable def T10 (p0 : Option Addr) (n1 : Nat) (n2 : Nat) (p3 : Option Addr) (n4 : Nat) (n5 : Nat) : Pg :=
 .act (newC [.slice p0 n1 n2, .slice p3 n4 n5]) fun a => asPtr a fun a => asSome a fun a => .act (ldN 2 a) fun b => asAgg b fun b => cL b fun b d f c => cL c fun c h i g => asNil g (.call 21 [(.agg #[.slice b d f, .slice c h i])] fun b => asBool b fun b => bif (!b) then (.ret .ret [(.tuple #[.int .i64 1, .int .i64 0])]) else (.act (ld1 (aadd a 0)) fun b => asSlice b fun b c _ => .loop [.int .i64 0, .int .i64 0, .int .i64 0] (T10b0 c b a) (T10k1)))
theorem T10_eq (p0 : Option Addr) (n1 : Nat) (n2 : Nat) (p3 : Option Addr) (n4 : Nat) (n5 : Nat) : progOf PROG false 10 [(.agg #[(.slice p0 n1 n2), (.slice p3 n4 n5)])] = T10 p0 n1 n2 p3 n4 n5 := by kernel_rfl
noncomputable def T11k0 : Ex → List Value → Pg :=
 fun a b => sw a .normal (cB b fun a b => asNil b (.ret .ret [.bool a])) (.fail)
noncomputable def T11 (p0 : Option Addr) (n1 : Nat) (n2 : Nat) (p3 : Option Addr) (n4 : Nat) (n5 : Nat) (p6 : Option Addr) (n7 : Nat) (n8 : Nat) : Pg :=
 .act (newC [.slice p0 n1 n2, .slice p3 n4 n5]) fun a => asPtr a fun a => asSome a fun a => bif ((n7:Int) == 0) then (.ret .ret [.bool false]) else (.act (ldN 2 a) fun a => asAgg a fun a => cL a fun a c d b => cL b fun b g h f => asNil f (.act (newC [.slice a c d, .slice b g h, .int .i64 0]) fun a => asPtr a fun a => asSome a fun a => asSome p6 fun b => grd (decide (0 < (n7:Int))) (.act (ld1 (aadd b 0)) fun b => asSlice b fun _ b _ => .act (bdSl 1 1 [.slice none 0 0]) fun c => asSlice c fun c d f => .call 23 [.slice c d f, (.int .i64 (b:Int))] fun c => asSlice c fun c d _ => asSome c fun c => grd (decide (0 < (d:Int))) (.act (ld1 (aadd c 0)) fun c => asSlice c fun c d f => .join (.call 23 [.slice p6 n7 n8, (.int .i64 (b:Int))] fun b => asSlice b fun b g h => .call 24 [(.pointer (some a)), .slice b g h, .slice c d f] fun b => asBool b fun b => bif (!b) == true then (.act (ld1 (aadd a 2)) fun a => asInt .i64 a fun a => .ret .normal [(.bool (decide (a ≤ 10000)))]) else (.ret .normal [.bool false])) (T11k0)))))
theorem T11_eq (p0 : Option Addr) (n1 : Nat) (n2 : Nat) (p3 : Option Addr) (n4 : Nat) (n5 : Nat) (p6 : Option Addr) (n7 : Nat) (n8 : Nat) : progOf PROG false 11 [(.agg #[(.slice p0 n1 n2), (.slice p3 n4 n5)]), (.slice p6 n7 n8)] = T11 p0 n1 n2 p3 n4 n5 p6 n7 n8 := by kernel_rfl
noncomputable def T12k0 (i41 : Int) : Ex → List Value → Pg :=
 fun a b => sw a .normal (asNil b (.ret .normal [(.int .i64 (wi64 (i41 + 1)))])) (.fail)
noncomputable def T12b0 (a30 : Addr) (a35 : Addr) : List Value → Pg :=
 fun a => cI a fun a b => asNil b (.act (ld1 (aadd a30 0)) fun b => asSlice b fun _ b _ => bif (decide (a < (b:Int))) then (.join (.act (ld1 (aadd a30 0)) fun b => asSlice b fun b c _ => asSome b fun b => grd (decide (0 ≤ a) && decide (a < (c:Int))) (.act (ldN 7 (aadd b ((Int.toNat a) * 7))) fun a => asAgg a fun a => cI a fun a b => cI b fun b c => cS c fun c d => cS d fun d f => cL f fun f h i g => cI g fun g j => cI j fun j k => asNil k (.act (newC [.int .i64 0, .int .i64 0, (.string (bs [])), (.string (bs [])), .slice none 0 0, .int .i64 0, .int .i64 0]) fun k => asPtr k fun k => asSome k fun k => .act (stC k [.int .i64 a, .int .i64 b, .string c, .string d, .slice f h i, .int .i64 g, .int .i64 j]) fun a => asTuple a fun a => asNil a (.act (ld1 (aadd a35 0)) fun a => asSlice a fun b c d => .act (ld1 (aadd k 0)) fun f => asInt .i64 f fun g => .act (ld1 (aadd k 1)) fun h => asInt .i64 h fun i => .act (ld1 (aadd k 2)) fun j => asStr j fun l => .act (ld1 (aadd k 3)) fun m => asStr m fun n => .get fun o => .act (bdSl 1 0 []) fun p => asSlice p fun p q r => .get fun s => grd (chks [((ld1 (aadd k 3)), m), ((ld1 (aadd k 2)), j), ((ld1 (aadd k 1)), h), ((ld1 (aadd k 0)), f), ((ld1 (aadd a35 0)), a)] s) (.act (ld1 (aadd k 4)) fun s => grd (past (ld1 (aadd k 4)) s [o]) (asSlice s fun s t u => .get fun v => .act (apS 1 8 p q r s t u) fun p => asSlice p fun p q r => .get fun s => grd (chks [((ld1 (aadd k 3)), m), ((ld1 (aadd k 2)), j), ((ld1 (aadd k 1)), h), ((ld1 (aadd k 0)), f), ((ld1 (aadd a35 0)), a)] s) (.act (ld1 (aadd k 5)) fun f => grd (past (ld1 (aadd k 5)) f [v, o]) (asInt .i64 f fun f => .act (ld1 (aadd k 6)) fun h => grd (past (ld1 (aadd k 6)) h [v, o]) (asInt .i64 h fun h => .act (bdSl 7 1 [.int .i64 g, .int .i64 i, .string l, .string n, .slice p q r, .int .i64 f, .int .i64 h]) fun f => asSlice f fun f g h => .get fun i => grd (chks [((ld1 (aadd a35 0)), a)] i) (.act (apS 7 88 b c d f g h) fun a => asSlice a fun a b c => .act (stC (aadd a35 0) [.slice a b c]) fun a => asTuple a fun a => asNil a (.ret .normal []))))))))))) (T12k0 a)) else (.ret (.exit 0) [.int .i64 a]))
noncomputable def T12k1 (i154 : Int) : Ex → List Value → Pg :=
 fun a b => sw a .normal (asNil b (.ret .normal [(.int .i64 (wi64 (i154 + 1)))])) (.fail)
noncomputable def T12b1 (a30 : Addr) (i134 : Int) (a148 : Addr) : List Value → Pg :=
 fun a => cI a fun a b => asNil b (.act (ld1 (aadd a30 1)) fun b => asSlice b fun b c _ => asSome b fun b => grd (decide (0 ≤ i134) && decide (i134 < (c:Int))) (.act (ld1 (aadd (aadd b ((Int.toNat i134) * 2)) 1)) fun b => asSlice b fun _ b _ => bif (decide (a < (b:Int))) then (.join (.act (ld1 (aadd a148 1)) fun b => asSlice b fun c d f => .act (ld1 (aadd a30 1)) fun g => asSlice g fun h i _ => asSome h fun h => grd (decide (0 ≤ i134) && decide (i134 < (i:Int))) (.act (ld1 (aadd (aadd h ((Int.toNat i134) * 2)) 1)) fun i => asSlice i fun j k _ => asSome j fun j => grd (decide (0 ≤ a) && decide (a < (k:Int))) (.act (ld1 (aadd (aadd j ((Int.toNat a) * 2)) 0)) fun k => asStr k fun l => .get fun m => .act (bdSl 1 0 []) fun n => asSlice n fun n o p => .get fun q => grd (chks [((ld1 (aadd (aadd j ((Int.toNat a) * 2)) 0)), k), ((ld1 (aadd (aadd h ((Int.toNat i134) * 2)) 1)), i), ((ld1 (aadd a30 1)), g), ((ld1 (aadd a148 1)), b)] q) (.act (ld1 (aadd a30 1)) fun q => grd (past (ld1 (aadd a30 1)) q [m]) (asSlice q fun q r _ => asSome q fun q => grd (decide (0 ≤ i134) && decide (i134 < (r:Int))) (.act (ld1 (aadd (aadd q ((Int.toNat i134) * 2)) 1)) fun r => grd (past (ld1 (aadd (aadd q ((Int.toNat i134) * 2)) 1)) r [m]) (asSlice r fun q r _ => asSome q fun q => grd (decide (0 ≤ a) && decide (a < (r:Int))) (.act (ld1 (aadd (aadd q ((Int.toNat a) * 2)) 1)) fun r => grd (past (ld1 (aadd (aadd q ((Int.toNat a) * 2)) 1)) r [m]) (asSlice r fun m q r => .act (apS 1 16 n o p m q r) fun m => asSlice m fun m n o => .get fun p => grd (chks [((ld1 (aadd (aadd j ((Int.toNat a) * 2)) 0)), k), ((ld1 (aadd (aadd h ((Int.toNat i134) * 2)) 1)), i), ((ld1 (aadd a30 1)), g), ((ld1 (aadd a148 1)), b)] p) (.act (bdSl 2 1 [.string l, .slice m n o]) fun a => asSlice a fun a g h => .get fun i => grd (chks [((ld1 (aadd a148 1)), b)] i) (.act (apS 2 40 c d f a g h) fun a => asSlice a fun a b c => .act (stC (aadd a148 1) [.slice a b c]) fun a => asTuple a fun a => asNil a (.ret .normal [])))))))))))) (T12k1 a)) else (.ret (.exit 4) [.int .i64 a])))
noncomputable def T12k2 (a35 : Addr) (a148 : Addr) : Ex → List Value → Pg :=
 fun a b => sw a (.exit 4) (cI b fun _ b => asNil b (.act (ld1 (aadd a35 1)) fun a => asSlice a fun a b c => .act (ldN 2 a148) fun d => asAgg d fun d => cS d fun d f => cL f fun f h i g => asNil g (.act (bdSl 2 1 [.string d, .slice f h i]) fun d => asSlice d fun d f g => .act (apS 2 40 a b c d f g) fun a => asSlice a fun a b c => .act (stC (aadd a35 1) [.slice a b c]) fun a => asTuple a fun a => asNil a (.ret .normal [])))) (.fail)
noncomputable def T12k3 (i134 : Int) : Ex → List Value → Pg :=
 fun a b => sw a .normal (asNil b (.ret .normal [(.int .i64 (wi64 (i134 + 1)))])) (.fail)
noncomputable def T12b2 (a30 : Addr) (a35 : Addr) : List Value → Pg :=
 fun a => cI a fun a b => asNil b (.act (ld1 (aadd a30 1)) fun b => asSlice b fun _ b _ => bif (decide (a < (b:Int))) then (.join (.act (ld1 (aadd a30 1)) fun b => asSlice b fun b c _ => asSome b fun b => grd (decide (0 ≤ a) && decide (a < (c:Int))) (.act (ld1 (aadd (aadd b ((Int.toNat a) * 2)) 0)) fun b => asStr b fun b => .act (newC [(.string (bs [])), .slice none 0 0]) fun c => asPtr c fun c => asSome c fun c => .act (stC c [.string b, .slice none 0 0]) fun b => asTuple b fun b => asNil b (.loop [.int .i64 0] (T12b1 a30 a c) (T12k2 a35 c)))) (T12k3 a)) else (.ret (.exit 2) [.int .i64 a]))
noncomputable def T12k4 (a35 : Addr) (a3 : Addr) (i24 : Int) : Ex → List Value → Pg :=
 fun a b => sw a (.exit 2) (cI b fun _ b => asNil b (.act (ldN 2 a35) fun a => asAgg a fun a => cL a fun a c d b => cL b fun b g h f => asNil f (.act (stC a3 [.slice a c d, .slice b g h]) fun a => asTuple a fun a => asNil a (.act (ldN 2 a3) fun a => .ret .ret [(.tuple #[a, (.bool (i24 == 0))])])))) (.fail)
noncomputable def T12k5 (a30 : Addr) (a35 : Addr) (a3 : Addr) (i24 : Int) : Ex → List Value → Pg :=
 fun a b => sw a (.exit 0) (cI b fun _ b => asNil b (.loop [.int .i64 0] (T12b2 a30 a35) (T12k4 a35 a3 i24))) (.fail)
noncomputable def T12 (s0 : ByteArray) : Pg :=
 .act (newC [.slice none 0 0, .slice none 0 0]) fun a => asPtr a fun a => asSome a fun a => bif (decide (((s0.size : Nat) : Int) > 1500)) then (.act (stC a [.slice none 0 0, .slice none 0 0]) fun b => asTuple b fun b => asNil b (.act (ldN 2 a) fun a => .ret .ret [(.tuple #[a, .bool false])])) else (.call 25 [.string s0] fun b => asTuple b fun b => asCons b fun b c => asAgg b fun b => cL b fun b f g d => cL d fun d i j h => asNil h (cI c fun c h => cI h fun _ k => asNil k (.act (newC [.slice none 0 0, .slice none 0 0]) fun h => asPtr h fun h => asSome h fun h => .act (stC h [.slice b f g, .slice d i j]) fun b => asTuple b fun b => asNil b (.act (newC [.slice none 0 0, .slice none 0 0]) fun b => asPtr b fun b => asSome b fun b => .act (stC b [.slice none 0 0, .slice none 0 0]) fun d => asTuple d fun d => asNil d (.loop [.int .i64 0] (T12b0 h b) (T12k5 h b a c))))))
theorem T12_eq (s0 : ByteArray) : progOf PROG false 12 [(.string s0)] = T12 s0 := by kernel_rfl
noncomputable def T17 (p0 : Option Addr) (n1 : Nat) (n2 : Nat) (p3 : Option Addr) (n4 : Nat) (n5 : Nat) (p6 : Option Addr) (n7 : Nat) (n8 : Nat) (p9 : Option Addr) (n10 : Nat) (n11 : Nat) : Pg :=
 .act (newC [.slice p0 n1 n2, .slice p3 n4 n5]) fun a => asPtr a fun a => asSome a fun a => .act (ldN 2 a) fun a => asAgg a fun a => cL a fun a c d b => cL b fun b g h f => asNil f (.act (newC [.slice a c d, .slice b g h, .int .i64 0]) fun a => asPtr a fun a => asSome a fun a => .call 23 [.slice p6 n7 n8, (.int .i64 (n10:Int))] fun b => asSlice b fun b c d => .call 24 [(.pointer (some a)), .slice b c d, .slice p9 n10 n11] fun a => asBool a fun a => .ret .ret [.bool a])
theorem T17_eq (p0 : Option Addr) (n1 : Nat) (n2 : Nat) (p3 : Option Addr) (n4 : Nat) (n5 : Nat) (p6 : Option Addr) (n7 : Nat) (n8 : Nat) (p9 : Option Addr) (n10 : Nat) (n11 : Nat) : progOf PROG false 17 [(.agg #[(.slice p0 n1 n2), (.slice p3 n4 n5)]), (.slice p6 n7 n8), (.slice p9 n10 n11)] = T17 p0 n1 n2 p3 n4 n5 p6 n7 n8 p9 n10 n11 := by kernel_rfl
noncomputable def T19k0 (a9 : Addr) (i185 : Int) (b101 : Bool) : Ex → List Value → Pg :=
 fun a b => sw a .normal (cB b fun a b => asNil b (bif a then (.ret .ret [(.string (bs [])), .bool false]) else (.act (ld1 (aadd a9 1)) fun a => asSlice a fun a b _ => asSome a fun a => grd (decide (0 ≤ i185) && decide (i185 < (b:Int))) (.act (ld1 (aadd (aadd a ((Int.toNat i185) * 2)) 0)) fun a => asStr a fun a => .ret .normal [.string a, .bool b101])))) (.fail)
noncomputable def T19k1 : Ex → List Value → Pg :=
 fun a b => sw a .ret (cS b fun a b => cB b fun b c => asNil c (.ret .ret [.bool b, .string a])) (sw a .normal (cS b fun a b => cB b fun b c => asNil c (.ret .normal [.bool b, .string a])) (.fail))
noncomputable def T19k2 : Ex → List Value → Pg :=
 fun a b => sw a .normal (cB b fun a b => cS b fun b c => asNil c (.ret .normal [.bool a, .string b])) (sw a .ret (cB b fun a b => cS b fun b c => asNil c (.ret .ret [.bool a, .string b])) (.fail))
noncomputable def T19k3 : Ex → List Value → Pg :=
 fun a b => sw a .normal (cB b fun a b => cS b fun b c => asNil c (.ret .normal [.bool a, .string b])) (sw a .ret (cB b fun a b => cS b fun b c => asNil c (.ret .ret [.bool a, .string b])) (.fail))
noncomputable def T19k4 : Ex → List Value → Pg :=
 fun a b => sw a .normal (cB b fun a b => cS b fun b c => asNil c (.ret .normal [.bool a, .string b])) (sw a .ret (cB b fun a b => cS b fun b c => asNil c (.ret .ret [.bool a, .string b])) (.fail))
noncomputable def T19k5 (b268 : Bool) : Ex → List Value → Pg :=
 fun a b => sw a .normal (cB b fun a b => asNil b (bif a then (.ret .ret [.bool false]) else (.ret .normal [.bool b268]))) (.fail)
noncomputable def T19k6 (s164 : ByteArray) (a9 : Addr) (a42 : Addr) (i98 : Int) : Ex → List Value → Pg :=
 fun a b => sw a .normal (cB b fun a b => cS b fun b c => asNil c (.join (bif (!(b.toList == s164.toList)) == false then (.act (ldN 2 a9) fun a => asAgg a fun a => cL a fun a c d b => cL b fun b g h f => asNil f (.act (ld1 (aadd a42 4)) fun f => asSlice f fun f i _ => asSome f fun f => grd (decide (0 ≤ i98) && decide (i98 < (i:Int))) (.act (ld1 (aadd f ((Int.toNat i98) * 1))) fun f => asInt .i64 f fun f => .call 19 [(.agg #[.slice a c d, .slice b g h]), .int .i64 f] fun a => asBool a fun a => .ret .normal [(.bool (!a))]))) else (.ret .normal [.bool true])) (T19k5 a))) (sw a .ret (cB b fun a b => cS b fun _ c => asNil c (.ret .ret [.bool a])) (.fail))
noncomputable def T19k7 (i98 : Int) : Ex → List Value → Pg :=
 fun a b => sw a .ret (cB b fun a b => asNil b (.ret .ret [.int .i64 i98, .bool a])) (sw a .normal (cB b fun a b => asNil b (.ret .normal [(.int .i64 (wi64 (i98 + 1))), .bool a])) (.fail))
noncomputable def T19b0 (a42 : Addr) (a9 : Addr) (i65 : Int) (i68 : Int) : List Value → Pg :=
 fun a => cI a fun a b => cB b fun b c => asNil c (.act (ld1 (aadd a42 4)) fun c => asSlice c fun _ c _ => bif (decide (a < (c:Int))) then (.join (.act (ld1 (aadd a9 0)) fun c => asSlice c fun d f _ => .act (ld1 (aadd a42 4)) fun g => asSlice g fun h i _ => asSome h fun h => grd (decide (0 ≤ a) && decide (a < (i:Int))) (.act (ld1 (aadd h ((Int.toNat a) * 1))) fun i => asInt .i64 i fun j => asSome d fun d => grd (decide (0 ≤ j) && decide (j < (f:Int))) (.act (ldN 7 (aadd d ((Int.toNat j) * 7))) fun f => asAgg f fun k => cI k fun k l => cI l fun l m => cS m fun m n => cS n fun n o => cL o fun o q r p => cI p fun p s => cI s fun s t => asNil t (.act (newC [.int .i64 0, .int .i64 0, (.string (bs [])), (.string (bs [])), .slice none 0 0, .int .i64 0, .int .i64 0]) fun t => asPtr t fun t => asSome t fun t => .get fun u => grd (chks [((ldN 7 (aadd d ((Int.toNat j) * 7))), f), ((ld1 (aadd h ((Int.toNat a) * 1))), i), ((ld1 (aadd a42 4)), g), ((ld1 (aadd a9 0)), c)] u) (.act (stC t [.int .i64 k, .int .i64 l, .string m, .string n, .slice o q r, .int .i64 p, .int .i64 s]) fun c => asTuple c fun c => asNil c (.act (ld1 (aadd a9 1)) fun c => asSlice c fun c d _ => asSome c fun c => grd (decide (0 ≤ i65) && decide (i65 < (d:Int))) (.act (ld1 (aadd (aadd c ((Int.toNat i65) * 2)) 1)) fun c => asSlice c fun c d _ => asSome c fun c => grd (decide (0 ≤ i68) && decide (i68 < (d:Int))) (.act (ld1 (aadd (aadd c ((Int.toNat i68) * 2)) 1)) fun c => asSlice c fun c d _ => asSome c fun c => grd (decide (0 ≤ a) && decide (a < (d:Int))) (.act (ld1 (aadd c ((Int.toNat a) * 1))) fun c => asStr c fun c => .act (ld1 (aadd t 0)) fun d => asInt .i64 d fun d => .join (.join (bif (d == 23) then (.ret .normal [.bool b, (.string (bs [105, 110, 116]))]) else (.join (bif (d == 24) then (.ret .normal [.bool b, (.string (bs [98, 111, 111, 108]))]) else (.join (bif (d == 25) then (.ret .normal [.bool b, (.string (bs [117, 110, 105, 116]))]) else (.join (bif (d == 26) then (.act (ldN 2 a9) fun a => asAgg a fun a => cL a fun a d f c => cL c fun c h i g => asNil g (.act (ld1 (aadd t 2)) fun g => asStr g fun g => .call 30 [(.agg #[.slice a d f, .slice c h i]), .string g] fun a => asTuple a fun a => cI a fun a c => cI c fun _ d => cB d fun _ d => asNil d (.join (bif (decide (a < 0)) == false then (.act (ld1 (aadd a9 1)) fun b => asSlice b fun _ b _ => .ret .normal [(.bool (decide (a ≥ (b:Int))))]) else (.ret .normal [.bool true])) (T19k0 a9 a b)))) else (.ret .normal [.string c, .bool b])) (T19k1))) (T19k2))) (T19k3))) (T19k4)) (T19k6 c a9 a42 a)))))))))) (T19k7 a)) else (.ret (.exit 0) [.int .i64 a, .bool b]))
noncomputable def T19k8 : Ex → List Value → Pg :=
 fun a b => sw a (.exit 0) (cI b fun _ b => cB b fun _ b => asNil b (.ret .ret [.bool true])) (sw a .ret (cI b fun _ b => cB b fun a b => asNil b (.ret .ret [.bool a])) (.fail))
noncomputable def T19k9 (a42 : Addr) (a9 : Addr) (i65 : Int) (i68 : Int) : Ex → List Value → Pg :=
 fun a b => sw a .normal (cB b fun a b => asNil b (bif a then (.ret .ret [.bool false]) else (.loop [.int .i64 0, .bool false] (T19b0 a42 a9 i65 i68) (T19k8)))) (.fail)
noncomputable def T19 (p0 : Option Addr) (n1 : Nat) (n2 : Nat) (p3 : Option Addr) (n4 : Nat) (n5 : Nat) (i6 : Int) : Pg :=
 .act (newC [.slice p0 n1 n2, .slice p3 n4 n5]) fun a => asPtr a fun a => asSome a fun a => .act (ld1 (aadd a 0)) fun b => asSlice b fun b c _ => asSome b fun b => grd (decide (0 ≤ i6) && decide (i6 < (c:Int))) (.act (ldN 7 (aadd b ((Int.toNat i6) * 7))) fun b => asAgg b fun b => cI b fun b c => cI c fun c d => cS d fun d f => cS f fun f g => cL g fun g i j h => cI h fun h k => cI k fun k l => asNil l (.act (newC [.int .i64 0, .int .i64 0, (.string (bs [])), (.string (bs [])), .slice none 0 0, .int .i64 0, .int .i64 0]) fun l => asPtr l fun l => asSome l fun l => .act (stC l [.int .i64 b, .int .i64 c, .string d, .string f, .slice g i j, .int .i64 h, .int .i64 k]) fun b => asTuple b fun b => asNil b (.act (ld1 (aadd l 0)) fun b => asInt .i64 b fun b => bif (b != 26) then (.ret .ret [.bool true]) else (.act (ldN 2 a) fun b => asAgg b fun b => cL b fun b d f c => cL c fun c h i g => asNil g (.act (ld1 (aadd l 2)) fun g => asStr g fun g => .call 30 [(.agg #[.slice b d f, .slice c h i]), .string g] fun b => asTuple b fun b => cI b fun b c => cI c fun c d => cB d fun d f => asNil f (.join (bif (!d) == false then (.act (ld1 (aadd a 1)) fun a => asSlice a fun a d _ => asSome a fun a => grd (decide (0 ≤ b) && decide (b < (d:Int))) (.act (ld1 (aadd (aadd a ((Int.toNat b) * 2)) 1)) fun a => asSlice a fun a b _ => asSome a fun a => grd (decide (0 ≤ c) && decide (c < (b:Int))) (.act (ld1 (aadd (aadd a ((Int.toNat c) * 2)) 1)) fun a => asSlice a fun _ a _ => .act (ld1 (aadd l 4)) fun b => asSlice b fun _ b _ => .ret .normal [(.bool ((a:Int) != (b:Int)))]))) else (.ret .normal [.bool true])) (T19k9 l a b c)))))))
theorem T19_eq (p0 : Option Addr) (n1 : Nat) (n2 : Nat) (p3 : Option Addr) (n4 : Nat) (n5 : Nat) (i6 : Int) : progOf PROG false 19 [(.agg #[(.slice p0 n1 n2), (.slice p3 n4 n5)]), (.int .i64 i6)] = T19 p0 n1 n2 p3 n4 n5 i6 := by kernel_rfl
noncomputable def T21k0 (b66 : Bool) : Ex → List Value → Pg :=
 fun a b => sw a .normal (cB b fun a b => asNil b (bif a then (.ret .ret [.bool false]) else (.ret .normal [.bool b66]))) (.fail)
noncomputable def T21k1 (i63 : Int) : Ex → List Value → Pg :=
 fun a b => sw a .ret (cB b fun a b => asNil b (.ret .ret [.int .i64 i63, .bool a])) (sw a .normal (cB b fun a b => asNil b (.ret .normal [(.int .i64 (wi64 (i63 + 1))), .bool a])) (.fail))
noncomputable def T21b0 (n58 : Nat) (p57 : Option Addr) (a8 : Addr) : List Value → Pg :=
 fun a => cI a fun a b => cB b fun b c => asNil c (bif (decide (a < (n58:Int))) then (.join (asSome p57 fun c => grd (decide (0 ≤ a) && decide (a < (n58:Int))) (.act (ldN 7 (aadd c ((Int.toNat a) * 7))) fun c => asAgg c fun c => cI c fun c d => cI d fun d f => cS f fun f g => cS g fun g h => cL h fun h j k i => cI i fun i l => cI l fun l m => asNil m (.act (newC [.int .i64 0, .int .i64 0, (.string (bs [])), (.string (bs [])), .slice none 0 0, .int .i64 0, .int .i64 0]) fun m => asPtr m fun m => asSome m fun m => .act (stC m [.int .i64 c, .int .i64 d, .string f, .string g, .slice h j k, .int .i64 i, .int .i64 l]) fun c => asTuple c fun c => asNil c (.join (.act (ld1 (aadd m 0)) fun b => asInt .i64 b fun b => .call 33 [.int .i64 b] fun b => asBool b fun b => bif b == true then (.act (ldN 2 a8) fun b => asAgg b fun b => cL b fun b d f c => cL c fun c h i g => asNil g (.call 35 [(.agg #[.slice b d f, .slice c h i]), .int .i64 a] fun a => asSlice a fun a b c => .call 34 [.slice a b c] fun a => asBool a fun a => .ret .normal [.bool a])) else (.ret .normal [.bool false])) (T21k0 b))))) (T21k1 a)) else (.ret (.exit 0) [.int .i64 a, .bool b]))
noncomputable def T21k2 : Ex → List Value → Pg :=
 fun a b => sw a (.exit 0) (cI b fun _ b => cB b fun _ b => asNil b (.ret .ret [.bool true])) (sw a .ret (cI b fun _ b => cB b fun a b => asNil b (.ret .ret [.bool a])) (.fail))
noncomputable def T21k3 (a8 : Addr) : Ex → List Value → Pg :=
 fun a b => sw a .normal (cB b fun a b => asNil b (bif a then (.ret .ret [.bool false]) else (.act (ld1 (aadd a8 0)) fun a => asSlice a fun a b _ => .loop [.int .i64 0, .bool false] (T21b0 b a a8) (T21k2)))) (.fail)
noncomputable def T21k4 (a8 : Addr) : Ex → List Value → Pg :=
 fun a b => sw a .normal (cB b fun a b => asNil b (bif a then (.ret .ret [.bool false]) else (.act (ldN 2 a8) fun a => asAgg a fun a => cL a fun a c d b => cL b fun b g h f => asNil f (.act (newC [.slice a c d, .slice b g h, .int .i64 0]) fun a => asPtr a fun a => asSome a fun a => .join (.call 32 [(.pointer (some a)), .bool false, .int .i64 0] fun b => asBool b fun b => bif (!b) == false then (.act (ld1 (aadd a 2)) fun a => asInt .i64 a fun a => .act (ld1 (aadd a8 0)) fun b => asSlice b fun _ b _ => .ret .normal [(.bool (a != (b:Int)))]) else (.ret .normal [.bool true])) (T21k3 a8))))) (.fail)
noncomputable def T21 (p0 : Option Addr) (n1 : Nat) (n2 : Nat) (p3 : Option Addr) (n4 : Nat) (n5 : Nat) : Pg :=
 .act (newC [.slice p0 n1 n2, .slice p3 n4 n5]) fun a => asPtr a fun a => asSome a fun a => .join (.act (ld1 (aadd a 0)) fun b => asSlice b fun _ b _ => bif (decide ((b:Int) < 1)) == false then (.act (ld1 (aadd a 0)) fun b => asSlice b fun _ b _ => bif (decide ((b:Int) > 1000)) == false then (.act (ld1 (aadd a 1)) fun a => asSlice a fun a b c => .call 31 [.slice a b c] fun a => asBool a fun a => .ret .normal [(.bool (!a))]) else (.ret .normal [.bool true])) else (.ret .normal [.bool true])) (T21k4 a)
theorem T21_eq (p0 : Option Addr) (n1 : Nat) (n2 : Nat) (p3 : Option Addr) (n4 : Nat) (n5 : Nat) : progOf PROG false 21 [(.agg #[(.slice p0 n1 n2), (.slice p3 n4 n5)])] = T21 p0 n1 n2 p3 n4 n5 := by kernel_rfl
noncomputable def T22k0 (i22 : Int) : Ex → List Value → Pg :=
 fun a b => sw a .ret (cL b fun a c d b => cI b fun b f => cI f fun f g => asNil g (.ret .ret [.int .i64 i22, .slice a c d, .int .i64 b, .int .i64 f])) (sw a .normal (cL b fun a c d b => cI b fun b f => cI f fun f g => asNil g (.ret .normal [(.int .i64 (wi64 (i22 + 1))), .slice a c d, .int .i64 b, .int .i64 f])) (.fail))
noncomputable def T22b0 (n17 : Nat) (p16 : Option Addr) (a9 : Addr) : List Value → Pg :=
 fun a => cI a fun a b => cL b fun b d f c => cI c fun c g => cI g fun g h => asNil h (bif (decide (a < (n17:Int))) then (.join (asSome p16 fun h => grd (decide (0 ≤ a) && decide (a < (n17:Int))) (.act (ld1 (aadd h ((Int.toNat a) * 1))) fun h => asInt .i64 h fun h => .call 36 [.int .i64 a] fun a => asBool a fun a => bif (!a) then (.ret .normal [.slice b d f, .int .i64 c, .int .i64 g]) else (.act (ldN 2 a9) fun a => asAgg a fun a => cL a fun a j k i => cL i fun i m n l => asNil l (.act (bdSl 1 1 [.int .i64 h]) fun l => asSlice l fun l o p => .call 17 [(.agg #[.slice a j k, .slice i m n]), .slice b d f, .slice l o p] fun a => asBool a fun a => bif (!a) then (.ret .ret [.slice b d f, .int .i64 h, .int .i64 7]) else (.act (bdSl 1 1 [.int .i64 h]) fun a => asSlice a fun a h i => .act (bdSl 1 1 [.slice a h i]) fun a => asSlice a fun a h i => .act (apS 1 24 b d f a h i) fun a => asSlice a fun a b d => .ret .normal [.slice a b d, .int .i64 c, .int .i64 g]))))) (T22k0 a)) else (.ret (.exit 0) [.int .i64 a, .slice b d f, .int .i64 c, .int .i64 g]))
noncomputable def T22k1 (a9 : Addr) (i6 : Int) : Ex → List Value → Pg :=
 fun a b => sw a (.exit 0) (cI b fun _ b => cL b fun a c d b => cI b fun _ f => cI f fun _ f => asNil f (.act (ldN 2 a9) fun b => asAgg b fun b => cL b fun b g h f => cL f fun f j k i => asNil i (.call 11 [(.agg #[.slice b g h, .slice f j k]), .slice a c d] fun a => asBool a fun a => bif (!a) then (.ret .ret [(.tuple #[.int .i64 7, .int .i64 i6])]) else (.ret .ret [(.tuple #[.int .i64 0, .int .i64 0])])))) (sw a .ret (cI b fun _ b => cL b fun _ _ _ b => cI b fun a b => cI b fun b c => asNil c (.ret .ret [(.tuple #[.int .i64 b, .int .i64 a])])) (.fail))
noncomputable def T22 (p0 : Option Addr) (n1 : Nat) (n2 : Nat) (p3 : Option Addr) (n4 : Nat) (n5 : Nat) (i6 : Int) : Pg :=
 .act (newC [.slice p0 n1 n2, .slice p3 n4 n5]) fun a => asPtr a fun a => asSome a fun a => .act (ld1 (aadd a 0)) fun b => asSlice b fun b c _ => asSome b fun b => grd (decide (0 ≤ i6) && decide (i6 < (c:Int))) (.act (ld1 (aadd (aadd b ((Int.toNat i6) * 7)) 4)) fun b => asSlice b fun b c _ => .loop [.int .i64 0, .slice none 0 0, .int .i64 0, .int .i64 0] (T22b0 c b a) (T22k1 a i6))
theorem T22_eq (p0 : Option Addr) (n1 : Nat) (n2 : Nat) (p3 : Option Addr) (n4 : Nat) (n5 : Nat) (i6 : Int) : progOf PROG false 22 [(.agg #[(.slice p0 n1 n2), (.slice p3 n4 n5)]), (.int .i64 i6)] = T22 p0 n1 n2 p3 n4 n5 i6 := by kernel_rfl
noncomputable def T23k0 : Ex → List Value → Pg :=
 fun a b => sw a .normal (cL b fun a c d b => asNil b (.ret .normal [.slice a c d])) (.fail)
noncomputable def T23b0 (i3 : Int) : List Value → Pg :=
 fun a => cL a fun a c d b => asNil b (bif (decide ((c:Int) < i3)) then (.join (.act (bdSl 1 1 [(.int .i64 (-1))]) fun b => asSlice b fun b f g => .act (apS 1 8 a c d b f g) fun a => asSlice a fun a b c => .ret .normal [.slice a b c]) (T23k0)) else (.ret (.exit 2) [.slice a c d]))
noncomputable def T23k1 (p10 : Option Addr) (n11 : Nat) (n12 : Nat) : Ex → List Value → Pg :=
 fun a b => sw a (.exit 2) (cL b fun a c d b => asNil b (.act (bdSl 1 1 [.slice a c d]) fun a => asSlice a fun a b c => .act (apS 1 24 p10 n11 n12 a b c) fun a => asSlice a fun a b c => .ret .normal [.slice a b c])) (.fail)
noncomputable def T23k2 (i7 : Int) : Ex → List Value → Pg :=
 fun a b => sw a .normal (cL b fun a c d b => asNil b (.ret .normal [(.int .i64 (wi64 (i7 + 1))), .slice a c d])) (.fail)
noncomputable def T23b1 (n1 : Nat) (p0 : Option Addr) (i3 : Int) : List Value → Pg :=
 fun a => cI a fun a b => cL b fun b d f c => asNil c (bif (decide (a < (n1:Int))) then (.join (asSome p0 fun c => grd (decide (0 ≤ a) && decide (a < (n1:Int))) (.act (ld1 (aadd c ((Int.toNat a) * 1))) fun a => asSlice a fun a c g => .act (bdSl 1 0 []) fun h => asSlice h fun h i j => grd ((((decide (0 ≤ (minV (c:Int) i3))) && (decide ((minV (c:Int) i3) ≤ (g:Int)))) && (decide ((g:Int) ≤ (g:Int)))) && ((mayCut a 1) || true)) (.act (apS 1 8 h i j a (Int.toNat (minV (c:Int) i3)) g) fun a => asSlice a fun a c g => .loop [.slice a c g] (T23b0 i3) (T23k1 b d f)))) (T23k2 a)) else (.ret (.exit 0) [.int .i64 a, .slice b d f]))
noncomputable def T23k3 : Ex → List Value → Pg :=
 fun a b => sw a (.exit 0) (cI b fun _ b => cL b fun a c d b => asNil b (.ret .ret [.slice a c d])) (.fail)
noncomputable def T23 (p0 : Option Addr) (n1 : Nat) (n2 : Nat) (i3 : Int) : Pg :=
 .loop [.int .i64 0, .slice none 0 0] (T23b1 n1 p0 i3) (T23k3)
theorem T23_eq (p0 : Option Addr) (n1 : Nat) (n2 : Nat) (i3 : Int) : progOf PROG false 23 [(.slice p0 n1 n2), (.int .i64 i3)] = T23 p0 n1 n2 i3 := by kernel_rfl
noncomputable def T24k0 (i84 : Int) : Ex → List Value → Pg :=
 fun a b => sw a .ret (cB b fun a b => asNil b (.ret .ret [.int .i64 i84, .bool a])) (sw a .normal (cB b fun a b => asNil b (.ret .normal [(.int .i64 (wi64 (i84 + 1))), .bool a])) (.fail))
noncomputable def T24b0 (n77 : Nat) (p76 : Option Addr) (p0 : Option Addr) (p4 : Option Addr) (n5 : Nat) (n6 : Nat) (p1 : Option Addr) (n2 : Nat) (n3 : Nat) : List Value → Pg :=
 fun a => cI a fun a b => cB b fun b c => asNil c (bif (decide (a < (n77:Int))) then (.join (asSome p76 fun c => grd (decide (0 ≤ a) && decide (a < (n77:Int))) (.act (ldN 3 (aadd c ((Int.toNat a) * 3))) fun a => asAgg a fun a => cI a fun a c => cI c fun c d => cS d fun d f => asNil f (.act (newC [.int .i64 0, .int .i64 0, (.string (bs []))]) fun f => asPtr f fun f => asSome f fun f => .act (stC f [.int .i64 a, .int .i64 c, .string d]) fun a => asTuple a fun a => asNil a (.act (ldN 3 f) fun a => asAgg a fun a => cI a fun a c => cI c fun c d => cS d fun d g => asNil g (.call 38 [.pointer p0, .slice p4 n5 n6, (.agg #[.int .i64 a, .int .i64 c, .string d])] fun a => asTuple a fun a => cL a fun a d g c => cB c fun _ h => asNil h (.act (ldN 3 f) fun c => asAgg c fun c => cI c fun c f => cI f fun f h => cS h fun h i => asNil i (.call 39 [.pointer p0, .slice p1 n2 n3, (.agg #[.int .i64 c, .int .i64 f, .string h])] fun c => asSlice c fun c f h => .call 24 [.pointer p0, .slice c f h, .slice a d g] fun a => asBool a fun a => bif a then (.ret .ret [.bool true]) else (.ret .normal [.bool b])))))))) (T24k0 a)) else (.ret (.exit 0) [.int .i64 a, .bool b]))
noncomputable def T24k1 : Ex → List Value → Pg :=
 fun a b => sw a (.exit 0) (cI b fun _ b => cB b fun _ b => asNil b (.ret .ret [.bool false])) (sw a .ret (cI b fun _ b => cB b fun a b => asNil b (.ret .ret [.bool a])) (.fail))
noncomputable def T24k2 : Ex → List Value → Pg :=
 fun a b => sw a .normal (cL b fun a c d b => asNil b (.ret .normal [.slice a c d])) (.fail)
noncomputable def T24k3 (i168 : Int) : Ex → List Value → Pg :=
 fun a b => sw a .normal (cL b fun a c d b => asNil b (.ret .normal [(.int .i64 (wi64 (i168 + 1))), .slice a c d])) (.fail)
noncomputable def T24b1 (n2 : Nat) (p1 : Option Addr) (p0 : Option Addr) : List Value → Pg :=
 fun a => cI a fun a b => cL b fun b d f c => asNil c (bif (decide (a < (n2:Int))) then (.join (asSome p1 fun c => grd (decide (0 ≤ a) && decide (a < (n2:Int))) (.act (ld1 (aadd c ((Int.toNat a) * 1))) fun a => asSlice a fun a c g => asSome a fun h => grd (decide (0 < (c:Int))) (.act (ld1 (aadd h 0)) fun h => asInt .i64 h fun h => .call 37 [.pointer p0, .int .i64 h] fun h => asAgg h fun h => cI h fun h i => cI i fun _ j => cS j fun _ j => asNil j (.join (bif (h == 0) then (grd ((((decide (1 ≤ (c:Int))) && (decide ((c:Int) ≤ (g:Int)))) && (decide ((g:Int) ≤ (g:Int)))) && ((mayCut a 1) || false)) (.act (bdSl 1 1 [(.slice (cutS a 1) (c - 1) (g - 1))]) fun a => asSlice a fun a c g => .act (apS 1 24 b d f a c g) fun a => asSlice a fun a b c => .ret .normal [.slice a b c])) else (.ret .normal [.slice b d f])) (T24k2))))) (T24k3 a)) else (.ret (.exit 2) [.int .i64 a, .slice b d f]))
noncomputable def T24k4 (n5 : Nat) (n6 : Nat) (p4 : Option Addr) (p0 : Option Addr) : Ex → List Value → Pg :=
 fun a b => sw a (.exit 2) (cI b fun _ b => cL b fun a c d b => asNil b (grd ((((decide (1 ≤ (n5:Int))) && (decide ((n5:Int) ≤ (n6:Int)))) && (decide ((n6:Int) ≤ (n6:Int)))) && ((mayCut p4 1) || false)) (.call 24 [.pointer p0, .slice a c d, (.slice (cutS p4 1) (n5 - 1) (n6 - 1))] fun a => asBool a fun a => .ret .ret [.bool a]))) (.fail)
noncomputable def T24 (p0 : Option Addr) (p1 : Option Addr) (n2 : Nat) (n3 : Nat) (p4 : Option Addr) (n5 : Nat) (n6 : Nat) : Pg :=
 asSome p0 fun a => .act (ld1 (aadd a 2)) fun a => asInt .i64 a fun a => asSome p0 fun b => .act (stC (aadd b 2) [(.int .i64 (wi64 (a + 1)))]) fun a => asTuple a fun a => asNil a (asSome p0 fun a => .act (ld1 (aadd a 2)) fun a => asInt .i64 a fun a => bif (decide (a > 10000)) then (.ret .ret [.bool false]) else (bif ((n5:Int) == 0) then (.ret .ret [(.bool ((n2:Int) == 0))]) else (asSome p4 fun a => grd (decide (0 < (n5:Int))) (.act (ld1 (aadd a 0)) fun a => asInt .i64 a fun a => .call 37 [.pointer p0, .int .i64 a] fun a => asAgg a fun a => cI a fun a b => cI b fun b c => cS c fun c d => asNil d (.act (newC [.int .i64 0, .int .i64 0, (.string (bs []))]) fun d => asPtr d fun d => asSome d fun d => .act (stC d [.int .i64 a, .int .i64 b, .string c]) fun a => asTuple a fun a => asNil a (.act (ld1 (aadd d 0)) fun a => asInt .i64 a fun a => bif (a != 0) then (.act (ldN 3 d) fun a => asAgg a fun a => cI a fun a b => cI b fun b c => cS c fun c f => asNil f (.call 38 [.pointer p0, .slice p4 n5 n6, (.agg #[.int .i64 a, .int .i64 b, .string c])] fun a => asTuple a fun a => cL a fun a c f b => cB b fun _ g => asNil g (.act (ldN 3 d) fun b => asAgg b fun b => cI b fun b d => cI d fun d g => cS g fun g h => asNil h (.call 39 [.pointer p0, .slice p1 n2 n3, (.agg #[.int .i64 b, .int .i64 d, .string g])] fun b => asSlice b fun b d g => .call 24 [.pointer p0, .slice b d g, .slice a c f] fun a => asBool a fun a => .ret .ret [.bool a])))) else (.call 40 [.pointer p0, .slice p1 n2 n3] fun a => asSlice a fun a b c => .call 41 [.pointer p0, .slice a b c] fun c => asBool c fun c => bif c then (.loop [.int .i64 0, .bool false] (T24b0 b a p0 p4 n5 n6 p1 n2 n3) (T24k1)) else (.loop [.int .i64 0, .slice none 0 0] (T24b1 n2 p1 p0) (T24k4 n5 n6 p4 p0)))))))))
theorem T24_eq (p0 : Option Addr) (p1 : Option Addr) (n2 : Nat) (n3 : Nat) (p4 : Option Addr) (n5 : Nat) (n6 : Nat) : progOf PROG false 24 [(.pointer p0), (.slice p1 n2 n3), (.slice p4 n5 n6)] = T24 p0 p1 n2 n3 p4 n5 n6 := by kernel_rfl
noncomputable def T25k0 (a22 : Addr) (a3 : Addr) (p28 : Option Addr) (p24 : Option Addr) (n25 : Nat) (n26 : Nat) : Ex → List Value → Pg :=
 fun a b => sw a .normal (cB b fun a b => asNil b (bif a then (.call 45 [(.pointer (some a22))] fun a => asAgg a fun a => cI a fun _ b => cS b fun _ b => cI b fun a b => cI b fun _ c => asNil c (.act (stC a3 [.slice none 0 0, .slice none 0 0]) fun b => asTuple b fun b => asNil b (.act (ldN 2 a3) fun b => .ret .ret [(.tuple #[b, .int .i64 3, .int .i64 a])]))) else (.act (newC [.slice none 0 0, .slice none 0 0, (.int .i64 (-1))]) fun a => asPtr a fun a => asSome a fun a => .call 46 [(.pointer (some a)), .pointer p28, .int .i64 1] fun b => asInt .i64 b fun _ => .act (ld1 (aadd a 2)) fun b => asInt .i64 b fun b => bif (decide (b ≥ 0)) then (.act (ld1 (aadd a 2)) fun b => asInt .i64 b fun c => .act (stC a3 [.slice none 0 0, .slice none 0 0]) fun d => asTuple d fun d => asNil d (.get fun d => grd (chks [((ld1 (aadd a 2)), b)] d) (.act (ldN 2 a3) fun a => .ret .ret [(.tuple #[a, .int .i64 2, .int .i64 c])]))) else (.act (stC (aadd (aadd a 0) 1) [.slice p24 n25 n26]) fun b => asTuple b fun b => asNil b (.act (ldN 2 (aadd a 0)) fun b => asAgg b fun b => cL b fun b d f c => cL c fun c h i g => asNil g (.call 27 [(.agg #[.slice b d f, .slice c h i])] fun b => asBool b fun b => bif (!b) then (.act (stC a3 [.slice none 0 0, .slice none 0 0]) fun a => asTuple a fun a => asNil a (.act (ldN 2 a3) fun a => .ret .ret [(.tuple #[a, .int .i64 3, .int .i64 0])])) else (.act (ldN 2 (aadd a 0)) fun a => asAgg a fun a => cL a fun a c d b => cL b fun b g h f => asNil f (.act (stC a3 [.slice a c d, .slice b g h]) fun a => asTuple a fun a => asNil a (.act (ldN 2 a3) fun a => .ret .ret [(.tuple #[a, .int .i64 0, .int .i64 0])]))))))))) (.fail)
noncomputable def T25 (s0 : ByteArray) : Pg :=
 .act (newC [.slice none 0 0, .slice none 0 0]) fun a => asPtr a fun a => asSome a fun a => .call 42 [.string s0] fun b => asTuple b fun b => cL b fun b d f c => cI c fun c g => cI g fun g h => asNil h (bif (c != 0) then (.act (stC a [.slice none 0 0, .slice none 0 0]) fun b => asTuple b fun b => asNil b (.act (ldN 2 a) fun a => .ret .ret [(.tuple #[a, .int .i64 c, .int .i64 g])])) else (.act (newC [.slice b d f, .int .i64 0, (.int .i64 ((s0.size : Nat) : Int)), .bool false]) fun b => asPtr b fun b => asSome b fun b => .call 43 [(.pointer (some b))] fun c => asSlice c fun c f g => .call 44 [(.pointer (some b))] fun h => asPtr h fun h => .join (.act (ld1 (aadd b 3)) fun a => asBool a fun a => bif a == false then (.act (ld1 (aadd b 1)) fun a => asInt .i64 a fun a => .ret .normal [(.bool (decide (a < (d:Int))))]) else (.ret .normal [.bool true])) (T25k0 b a h c f g)))
theorem T25_eq (s0 : ByteArray) : progOf PROG false 25 [(.string s0)] = T25 s0 := by kernel_rfl
noncomputable def T27k0 : Ex → List Value → Pg :=
 fun a b => sw a .normal (cB b fun a b => asNil b (.ret .ret [.bool a])) (.fail)
noncomputable def T27 (p0 : Option Addr) (n1 : Nat) (n2 : Nat) (p3 : Option Addr) (n4 : Nat) (n5 : Nat) : Pg :=
 .act (newC [.slice p0 n1 n2, .slice p3 n4 n5]) fun a => asPtr a fun a => asSome a fun a => .join (.act (ld1 (aadd a 0)) fun b => asSlice b fun _ b _ => bif (decide ((b:Int) ≥ 1)) == true then (.act (ld1 (aadd a 0)) fun b => asSlice b fun _ b _ => bif (decide ((b:Int) ≤ 1000)) == true then (.act (ldN 2 a) fun b => asAgg b fun b => cL b fun b d f c => cL c fun c h i g => asNil g (.call 47 [(.agg #[.slice b d f, .slice c h i])] fun b => asBool b fun b => bif b == true then (.act (ldN 2 a) fun b => asAgg b fun b => cL b fun b d f c => cL c fun c h i g => asNil g (.get fun g => .call 48 [(.agg #[.slice b d f, .slice c h i]), .int .i64 0, .bool false, .int .i64 1] fun b => asInt .i64 b fun b => .act (ld1 (aadd a 0)) fun c => grd (past (ld1 (aadd a 0)) c [g]) (asSlice c fun _ a _ => .ret .normal [(.bool (b == (a:Int)))]))) else (.ret .normal [.bool false]))) else (.ret .normal [.bool false])) else (.ret .normal [.bool false])) (T27k0)
theorem T27_eq (p0 : Option Addr) (n1 : Nat) (n2 : Nat) (p3 : Option Addr) (n4 : Nat) (n5 : Nat) : progOf PROG false 27 [(.agg #[(.slice p0 n1 n2), (.slice p3 n4 n5)])] = T27 p0 n1 n2 p3 n4 n5 := by kernel_rfl
noncomputable def T30k0 (i50 : Int) : Ex → List Value → Pg :=
 fun a b => sw a .ret (cB b fun a b => cI b fun b c => cI c fun c d => asNil d (.ret .ret [.int .i64 i50, .bool a, .int .i64 b, .int .i64 c])) (sw a .normal (cB b fun a b => cI b fun b c => cI c fun c d => asNil d (.ret .normal [(.int .i64 (wi64 (i50 + 1))), .bool a, .int .i64 b, .int .i64 c])) (.fail))
noncomputable def T30b0 (n45 : Nat) (p44 : Option Addr) (s6 : ByteArray) (i17 : Int) : List Value → Pg :=
 fun a => cI a fun a b => cB b fun b c => cI c fun c d => cI d fun d f => asNil f (bif (decide (a < (n45:Int))) then (.join (asSome p44 fun f => grd (decide (0 ≤ a) && decide (a < (n45:Int))) (.act (ldN 2 (aadd f ((Int.toNat a) * 2))) fun f => asAgg f fun f => cS f fun f g => cL g fun g i j h => asNil h (.act (newC [(.string (bs [])), .slice none 0 0]) fun h => asPtr h fun h => asSome h fun h => .act (stC h [.string f, .slice g i j]) fun f => asTuple f fun f => asNil f (.act (ld1 (aadd h 0)) fun f => asStr f fun f => bif (f.toList == s6.toList) then (.ret .ret [.bool true, .int .i64 a, .int .i64 i17]) else (.ret .normal [.bool b, .int .i64 c, .int .i64 d]))))) (T30k0 a)) else (.ret (.exit 2) [.int .i64 a, .bool b, .int .i64 c, .int .i64 d]))
noncomputable def T30k1 : Ex → List Value → Pg :=
 fun a b => sw a (.exit 2) (cI b fun _ b => cB b fun a b => cI b fun b c => cI c fun c d => asNil d (.ret .normal [.bool a, .int .i64 b, .int .i64 c])) (sw a .ret (cI b fun _ b => cB b fun a b => cI b fun b c => cI c fun c d => asNil d (.ret .ret [.bool a, .int .i64 b, .int .i64 c])) (.fail))
noncomputable def T30k2 (i17 : Int) : Ex → List Value → Pg :=
 fun a b => sw a .ret (cB b fun a b => cI b fun b c => cI c fun c d => asNil d (.ret .ret [.int .i64 i17, .bool a, .int .i64 b, .int .i64 c])) (sw a .normal (cB b fun a b => cI b fun b c => cI c fun c d => asNil d (.ret .normal [(.int .i64 (wi64 (i17 + 1))), .bool a, .int .i64 b, .int .i64 c])) (.fail))
noncomputable def T30b1 (n12 : Nat) (p11 : Option Addr) (s6 : ByteArray) : List Value → Pg :=
 fun a => cI a fun a b => cB b fun b c => cI c fun c d => cI d fun d f => asNil f (bif (decide (a < (n12:Int))) then (.join (asSome p11 fun f => grd (decide (0 ≤ a) && decide (a < (n12:Int))) (.act (ldN 2 (aadd f ((Int.toNat a) * 2))) fun f => asAgg f fun f => cS f fun f g => cL g fun g i j h => asNil h (.act (newC [(.string (bs [])), .slice none 0 0]) fun h => asPtr h fun h => asSome h fun h => .act (stC h [.string f, .slice g i j]) fun f => asTuple f fun f => asNil f (.act (ld1 (aadd h 1)) fun f => asSlice f fun f g _ => .loop [.int .i64 0, .bool b, .int .i64 c, .int .i64 d] (T30b0 g f s6 a) (T30k1))))) (T30k2 a)) else (.ret (.exit 0) [.int .i64 a, .bool b, .int .i64 c, .int .i64 d]))
noncomputable def T30k3 : Ex → List Value → Pg :=
 fun a b => sw a (.exit 0) (cI b fun _ b => cB b fun _ b => cI b fun _ b => cI b fun _ b => asNil b (.ret .ret [(.tuple #[.int .i64 0, .int .i64 0, .bool false])])) (sw a .ret (cI b fun _ b => cB b fun a b => cI b fun b c => cI c fun c d => asNil d (.ret .ret [(.tuple #[.int .i64 c, .int .i64 b, .bool a])])) (.fail))
noncomputable def T30 (p0 : Option Addr) (n1 : Nat) (n2 : Nat) (p3 : Option Addr) (n4 : Nat) (n5 : Nat) (s6 : ByteArray) : Pg :=
 .act (newC [.slice p0 n1 n2, .slice p3 n4 n5]) fun a => asPtr a fun a => asSome a fun a => .act (ld1 (aadd a 1)) fun a => asSlice a fun a b _ => .loop [.int .i64 0, .bool false, .int .i64 0, .int .i64 0] (T30b1 b a s6) (T30k3)
theorem T30_eq (p0 : Option Addr) (n1 : Nat) (n2 : Nat) (p3 : Option Addr) (n4 : Nat) (n5 : Nat) (s6 : ByteArray) : progOf PROG false 30 [(.agg #[(.slice p0 n1 n2), (.slice p3 n4 n5)]), (.string s6)] = T30 p0 n1 n2 p3 n4 n5 s6 := by kernel_rfl
noncomputable def T31k0 (p86 : Option Addr) (n87 : Nat) (n88 : Nat) (p91 : Option Addr) (n92 : Nat) (n93 : Nat) (a110 : Addr) (b96 : Bool) : Ex → List Value → Pg :=
 fun a b => sw a .normal (cB b fun a b => asNil b (bif a then (.ret .ret [.slice p86 n87 n88, .slice p91 n92 n93, .bool false]) else (.act (ld1 (aadd a110 0)) fun a => asStr a fun a => .act (bdSl 1 1 [.string a]) fun a => asSlice a fun a b c => .act (apS 1 16 p91 n92 n93 a b c) fun a => asSlice a fun a b c => .act (ld1 (aadd a110 1)) fun d => asSlice d fun d f g => .act (apS 1 16 p86 n87 n88 d f g) fun d => asSlice d fun d f g => .ret .normal [.slice d f g, .slice a b c, .bool b96]))) (.fail)
noncomputable def T31k1 (i83 : Int) : Ex → List Value → Pg :=
 fun a b => sw a .ret (cL b fun a c d b => cL b fun b g h f => cB f fun f i => asNil i (.ret .ret [.int .i64 i83, .slice a c d, .slice b g h, .bool f])) (sw a .normal (cL b fun a c d b => cL b fun b g h f => cB f fun f i => asNil i (.ret .normal [(.int .i64 (wi64 (i83 + 1))), .slice a c d, .slice b g h, .bool f])) (.fail))
noncomputable def T31b0 (n78 : Nat) (p77 : Option Addr) : List Value → Pg :=
 fun a => cI a fun a b => cL b fun b d f c => cL c fun c h i g => cB g fun g j => asNil j (bif (decide (a < (n78:Int))) then (.join (asSome p77 fun j => grd (decide (0 ≤ a) && decide (a < (n78:Int))) (.act (ldN 2 (aadd j ((Int.toNat a) * 2))) fun a => asAgg a fun a => cS a fun a j => cL j fun j l m k => asNil k (.act (newC [(.string (bs [])), .slice none 0 0]) fun k => asPtr k fun k => asSome k fun k => .act (stC k [.string a, .slice j l m]) fun a => asTuple a fun a => asNil a (.join (.act (ld1 (aadd k 0)) fun a => asStr a fun a => .call 57 [.string a] fun a => asBool a fun a => bif (!a) == false then (.act (ld1 (aadd k 1)) fun a => asSlice a fun _ a _ => .ret .normal [(.bool (decide ((a:Int) > 3)))]) else (.ret .normal [.bool true])) (T31k0 b d f c h i k g))))) (T31k1 a)) else (.ret (.exit 2) [.int .i64 a, .slice b d f, .slice c h i, .bool g]))
noncomputable def T31k2 : Ex → List Value → Pg :=
 fun a b => sw a (.exit 2) (cI b fun _ b => cL b fun a c d b => cL b fun b g h f => cB f fun f i => asNil i (.ret .normal [.slice a c d, .slice b g h, .bool f])) (sw a .ret (cI b fun _ b => cL b fun a c d b => cL b fun b g h f => cB f fun f i => asNil i (.ret .ret [.slice a c d, .slice b g h, .bool f])) (.fail))
noncomputable def T31k3 (p12 : Option Addr) (n13 : Nat) (n14 : Nat) (p17 : Option Addr) (n18 : Nat) (n19 : Nat) (a5 : Addr) (a36 : Addr) (b22 : Bool) : Ex → List Value → Pg :=
 fun a b => sw a .normal (cB b fun a b => asNil b (bif a then (.ret .ret [.slice p12 n13 n14, .slice p17 n18 n19, .bool false]) else (.act (ld1 a5) fun a => asSlice a fun a b c => .act (ld1 (aadd a36 0)) fun d => asStr d fun d => .act (bdSl 1 1 [.string d]) fun d => asSlice d fun d f g => .act (apS 1 16 a b c d f g) fun a => asSlice a fun a b c => .act (stC a5 [.slice a b c]) fun a => asTuple a fun a => asNil a (.act (ld1 (aadd a36 1)) fun a => asSlice a fun a b _ => .loop [.int .i64 0, .slice p12 n13 n14, .slice p17 n18 n19, .bool b22] (T31b0 b a) (T31k2))))) (.fail)
noncomputable def T31k4 (i9 : Int) : Ex → List Value → Pg :=
 fun a b => sw a .ret (cL b fun a c d b => cL b fun b g h f => cB f fun f i => asNil i (.ret .ret [.int .i64 i9, .slice a c d, .slice b g h, .bool f])) (sw a .normal (cL b fun a c d b => cL b fun b g h f => cB f fun f i => asNil i (.ret .normal [(.int .i64 (wi64 (i9 + 1))), .slice a c d, .slice b g h, .bool f])) (.fail))
noncomputable def T31b1 (n1 : Nat) (p0 : Option Addr) (a5 : Addr) : List Value → Pg :=
 fun a => cI a fun a b => cL b fun b d f c => cL c fun c h i g => cB g fun g j => asNil j (bif (decide (a < (n1:Int))) then (.join (asSome p0 fun j => grd (decide (0 ≤ a) && decide (a < (n1:Int))) (.act (ldN 2 (aadd j ((Int.toNat a) * 2))) fun a => asAgg a fun a => cS a fun a j => cL j fun j l m k => asNil k (.act (newC [(.string (bs [])), .slice none 0 0]) fun k => asPtr k fun k => asSome k fun k => .act (stC k [.string a, .slice j l m]) fun a => asTuple a fun a => asNil a (.join (.act (ld1 (aadd k 0)) fun a => asStr a fun a => .call 55 [.string a] fun a => asBool a fun a => bif (!a) == false then (.act (ld1 (aadd k 0)) fun a => asStr a fun a => .call 56 [.string a] fun a => asBool a fun a => bif a == false then (.act (ld1 (aadd k 1)) fun a => asSlice a fun _ a _ => bif (decide ((a:Int) < 1)) == false then (.act (ld1 (aadd k 1)) fun a => asSlice a fun _ a _ => .ret .normal [(.bool (decide ((a:Int) > 20)))]) else (.ret .normal [.bool true])) else (.ret .normal [.bool true])) else (.ret .normal [.bool true])) (T31k3 b d f c h i a5 k g))))) (T31k4 a)) else (.ret (.exit 0) [.int .i64 a, .slice b d f, .slice c h i, .bool g]))
noncomputable def T31k5 : Ex → List Value → Pg :=
 fun a b => sw a .normal (cB b fun a b => asNil b (.ret .ret [.bool a])) (.fail)
noncomputable def T31k6 (a5 : Addr) (n1 : Nat) : Ex → List Value → Pg :=
 fun a b => sw a (.exit 0) (cI b fun _ b => cL b fun a c d b => cL b fun b g h f => cB f fun _ i => asNil i (.act (newC [.nilFunc]) fun f => asPtr f fun f => asSome f fun f => .act (stC f [(.func (.func 58) #[] #[(.pointer (some a5))])]) fun i => asTuple i fun i => asNil i (.join (bif (decide ((n1:Int) ≤ 20)) == true then (.act (ld1 a5) fun i => asSlice i fun i j k => .call 34 [.slice i j k] fun i => asBool i fun i => bif (!i) == true then (.call 34 [.slice b g h] fun b => asBool b fun b => bif (!b) == true then (.call 61 [.slice a c d, (.func (.func 60) #[] #[(.pointer (some f))])] fun a => asBool a fun a => .ret .normal [(.bool (!a))]) else (.ret .normal [.bool false])) else (.ret .normal [.bool false])) else (.ret .normal [.bool false])) (T31k5)))) (sw a .ret (cI b fun _ b => cL b fun _ _ _ b => cL b fun _ _ _ b => cB b fun a b => asNil b (.ret .ret [.bool a])) (.fail))
noncomputable def T31 (p0 : Option Addr) (n1 : Nat) (n2 : Nat) : Pg :=
 .act (newC [.slice none 0 0]) fun a => asPtr a fun a => asSome a fun a => .loop [.int .i64 0, .slice none 0 0, .slice none 0 0, .bool false] (T31b1 n1 p0 a) (T31k6 a n1)
theorem T31_eq (p0 : Option Addr) (n1 : Nat) (n2 : Nat) : progOf PROG false 31 [(.slice p0 n1 n2)] = T31 p0 n1 n2 := by kernel_rfl
noncomputable def T32k0 (b112 : Bool) : Ex → List Value → Pg :=
 fun a b => sw a .normal (cB b fun a b => asNil b (bif a then (.ret .ret [.bool false]) else (.ret .normal [.bool b112]))) (.fail)
noncomputable def T32k1 (i109 : Int) : Ex → List Value → Pg :=
 fun a b => sw a .ret (cB b fun a b => asNil b (.ret .ret [.int .i64 i109, .bool a])) (sw a .normal (cB b fun a b => asNil b (.ret .normal [(.int .i64 (wi64 (i109 + 1))), .bool a])) (.fail))
noncomputable def T32b0 (n104 : Nat) (p103 : Option Addr) (p0 : Option Addr) (b1 : Bool) (a44 : Addr) (i2 : Int) : List Value → Pg :=
 fun a => cI a fun a b => cB b fun b c => asNil c (bif (decide (a < (n104:Int))) then (.join (asSome p103 fun c => grd (decide (0 ≤ a) && decide (a < (n104:Int))) (.act (ld1 (aadd c ((Int.toNat a) * 1))) fun c => asInt .i64 c fun c => .join (asSome p0 fun b => .act (ld1 (aadd b 2)) fun b => asInt .i64 b fun b => bif (c != b) == false then (bif b1 == false then (.act (ld1 (aadd a44 0)) fun b => asInt .i64 b fun b => bif (b == 11) == true then (.call 36 [.int .i64 a] fun a => asBool a fun a => .call 32 [.pointer p0, .bool a, (.int .i64 (wi64 (i2 + 1)))] fun a => asBool a fun a => .ret .normal [(.bool (!a))]) else (.call 32 [.pointer p0, .bool false, (.int .i64 (wi64 (i2 + 1)))] fun a => asBool a fun a => .ret .normal [(.bool (!a))])) else (.call 32 [.pointer p0, .bool true, (.int .i64 (wi64 (i2 + 1)))] fun a => asBool a fun a => .ret .normal [(.bool (!a))])) else (.ret .normal [.bool true])) (T32k0 b))) (T32k1 a)) else (.ret (.exit 0) [.int .i64 a, .bool b]))
noncomputable def T32k2 : Ex → List Value → Pg :=
 fun a b => sw a (.exit 0) (cI b fun _ b => cB b fun _ b => asNil b (.ret .ret [.bool true])) (sw a .ret (cI b fun _ b => cB b fun a b => asNil b (.ret .ret [.bool a])) (.fail))
noncomputable def T32k3 (p0 : Option Addr) (a44 : Addr) (b1 : Bool) (i2 : Int) : Ex → List Value → Pg :=
 fun a b => sw a .normal (cB b fun a b => asNil b (bif a then (.ret .ret [.bool false]) else (asSome p0 fun a => .act (ld1 (aadd a 2)) fun a => asInt .i64 a fun a => asSome p0 fun b => .act (stC (aadd b 2) [(.int .i64 (wi64 (a + 1)))]) fun a => asTuple a fun a => asNil a (.act (ld1 (aadd a44 4)) fun a => asSlice a fun a b _ => .loop [.int .i64 0, .bool false] (T32b0 b a p0 b1 a44 i2) (T32k2))))) (.fail)
noncomputable def T32 (p0 : Option Addr) (b1 : Bool) (i2 : Int) : Pg :=
 asSome p0 fun a => .act (ld1 (aadd a 2)) fun a => asInt .i64 a fun a => asSome p0 fun b => .act (ld1 (aadd (aadd b 0) 0)) fun b => asSlice b fun _ b _ => bif ((decide (a ≥ (b:Int))) || (decide (i2 ≥ 60))) then (.ret .ret [.bool false]) else (asSome p0 fun b => .act (ld1 (aadd (aadd b 0) 0)) fun b => asSlice b fun b c _ => asSome b fun b => grd (decide (0 ≤ a) && decide (a < (c:Int))) (.act (ldN 7 (aadd b ((Int.toNat a) * 7))) fun a => asAgg a fun a => cI a fun a b => cI b fun b c => cS c fun c d => cS d fun d f => cL f fun f h i g => cI g fun g j => cI j fun j k => asNil k (.act (newC [.int .i64 0, .int .i64 0, (.string (bs [])), (.string (bs [])), .slice none 0 0, .int .i64 0, .int .i64 0]) fun k => asPtr k fun k => asSome k fun k => .act (stC k [.int .i64 a, .int .i64 b, .string c, .string d, .slice f h i, .int .i64 g, .int .i64 j]) fun a => asTuple a fun a => asNil a (.join (.act (ld1 (aadd k 0)) fun a => asInt .i64 a fun a => .call 33 [.int .i64 a] fun a => asBool a fun a => bif (!(a == b1)) == false then (asSome p0 fun a => .act (ldN 2 (aadd a 0)) fun a => asAgg a fun a => cL a fun a c d b => cL b fun b g h f => asNil f (.act (ldN 7 k) fun f => asAgg f fun f => cI f fun f i => cI i fun i j => cS j fun j k => cS k fun k l => cL l fun l n o m => cI m fun m p => cI p fun p q => asNil q (.call 62 [(.agg #[.slice a c d, .slice b g h]), (.agg #[.int .i64 f, .int .i64 i, .string j, .string k, .slice l n o, .int .i64 m, .int .i64 p])] fun a => asBool a fun a => .ret .normal [(.bool (!a))]))) else (.ret .normal [.bool true])) (T32k3 p0 k b1 i2)))))
theorem T32_eq (p0 : Option Addr) (b1 : Bool) (i2 : Int) : progOf PROG false 32 [(.pointer p0), (.bool b1), (.int .i64 i2)] = T32 p0 b1 i2 := by kernel_rfl
noncomputable def T33 (i0 : Int) : Pg :=
 .ret .ret [(.bool ((decide (i0 ≥ 21)) && (decide (i0 ≤ 26))))]
theorem T33_eq (i0 : Int) : progOf PROG false 33 [(.int .i64 i0)] = T33 i0 := by kernel_rfl
noncomputable def T34k0 (i8 : Int) : Ex → List Value → Pg :=
 fun a b => sw a .ret (cB b fun a b => asNil b (.ret .ret [.int .i64 i8, .bool a])) (sw a .normal (cB b fun a b => asNil b (.ret .normal [(.int .i64 (wi64 (i8 + 1))), .bool a])) (.fail))
noncomputable def T34b0 (n1 : Nat) (p0 : Option Addr) (m4 : Option Nat) : List Value → Pg :=
 fun a => cI a fun a b => cB b fun b c => asNil c (bif (decide (a < (n1:Int))) then (.join (asSome p0 fun c => grd (decide (0 ≤ a) && decide (a < (n1:Int))) (.act (ld1 (aadd c ((Int.toNat a) * 1))) fun a => asStr a fun a => .act (lkp .string (.bool false) m4 (.string a) false) fun c => asBool c fun c => bif c then (.ret .ret [.bool true]) else (.act (mup .string m4 (.string a) (.bool true)) fun a => asTuple a fun a => asNil a (.ret .normal [.bool b])))) (T34k0 a)) else (.ret (.exit 0) [.int .i64 a, .bool b]))
noncomputable def T34k1 : Ex → List Value → Pg :=
 fun a b => sw a (.exit 0) (cI b fun _ b => cB b fun _ b => asNil b (.ret .ret [.bool false])) (sw a .ret (cI b fun _ b => cB b fun a b => asNil b (.ret .ret [.bool a])) (.fail))
noncomputable def T34 (p0 : Option Addr) (n1 : Nat) (n2 : Nat) : Pg :=
 .act makeMapAct fun a => asMap a fun a => .loop [.int .i64 0, .bool false] (T34b0 n1 p0 a) (T34k1)
theorem T34_eq (p0 : Option Addr) (n1 : Nat) (n2 : Nat) : progOf PROG false 34 [(.slice p0 n1 n2)] = T34 p0 n1 n2 := by kernel_rfl
noncomputable def T35k0 (i62 : Int) : Ex → List Value → Pg :=
 fun a b => sw a .normal (cL b fun a c d b => asNil b (.ret .normal [(.int .i64 (wi64 (i62 + 1))), .slice a c d])) (.fail)
noncomputable def T35b0 (n57 : Nat) (p56 : Option Addr) (a9 : Addr) : List Value → Pg :=
 fun a => cI a fun a b => cL b fun b d f c => asNil c (bif (decide (a < (n57:Int))) then (.join (asSome p56 fun c => grd (decide (0 ≤ a) && decide (a < (n57:Int))) (.act (ld1 (aadd c ((Int.toNat a) * 1))) fun a => asInt .i64 a fun a => .act (ldN 2 a9) fun c => asAgg c fun c => cL c fun c h i g => cL g fun g k l j => asNil j (.call 35 [(.agg #[.slice c h i, .slice g k l]), .int .i64 a] fun a => asSlice a fun a c g => .act (apS 1 16 b d f a c g) fun a => asSlice a fun a b c => .ret .normal [.slice a b c]))) (T35k0 a)) else (.ret (.exit 0) [.int .i64 a, .slice b d f]))
noncomputable def T35k1 : Ex → List Value → Pg :=
 fun a b => sw a (.exit 0) (cI b fun _ b => cL b fun a c d b => asNil b (.ret .normal [.slice a c d])) (.fail)
noncomputable def T35k2 : Ex → List Value → Pg :=
 fun a b => sw a .normal (cL b fun a c d b => asNil b (.ret .ret [.slice a c d])) (.fail)
noncomputable def T35 (p0 : Option Addr) (n1 : Nat) (n2 : Nat) (p3 : Option Addr) (n4 : Nat) (n5 : Nat) (i6 : Int) : Pg :=
 .act (newC [.slice p0 n1 n2, .slice p3 n4 n5]) fun a => asPtr a fun a => asSome a fun a => .act (ld1 (aadd a 0)) fun b => asSlice b fun b c _ => asSome b fun b => grd (decide (0 ≤ i6) && decide (i6 < (c:Int))) (.act (ldN 7 (aadd b ((Int.toNat i6) * 7))) fun b => asAgg b fun b => cI b fun b c => cI c fun c d => cS d fun d f => cS f fun f g => cL g fun g i j h => cI h fun h k => cI k fun k l => asNil l (.act (newC [.int .i64 0, .int .i64 0, (.string (bs [])), (.string (bs [])), .slice none 0 0, .int .i64 0, .int .i64 0]) fun l => asPtr l fun l => asSome l fun l => .act (stC l [.int .i64 b, .int .i64 c, .string d, .string f, .slice g i j, .int .i64 h, .int .i64 k]) fun b => asTuple b fun b => asNil b (.act (ld1 (aadd l 0)) fun b => asInt .i64 b fun b => bif (b == 22) then (.act (ld1 (aadd l 2)) fun a => asStr a fun a => .act (bdSl 1 1 [.string a]) fun a => asSlice a fun a b c => .ret .ret [.slice a b c]) else (.act (ld1 (aadd l 0)) fun b => asInt .i64 b fun b => .join (bif (b == 26) then (.act (ld1 (aadd l 4)) fun b => asSlice b fun b c _ => .loop [.int .i64 0, .slice none 0 0] (T35b0 c b a) (T35k1)) else (.ret .normal [.slice none 0 0])) (T35k2)))))
theorem T35_eq (p0 : Option Addr) (n1 : Nat) (n2 : Nat) (p3 : Option Addr) (n4 : Nat) (n5 : Nat) (i6 : Int) : progOf PROG false 35 [(.agg #[(.slice p0 n1 n2), (.slice p3 n4 n5)]), (.int .i64 i6)] = T35 p0 n1 n2 p3 n4 n5 i6 := by kernel_rfl
noncomputable def T36 (i0 : Int) : Pg :=
 .ret .ret [(.bool ((Int.tmod i0 2) == 1))]
theorem T36_eq (i0 : Int) : progOf PROG false 36 [(.int .i64 i0)] = T36 i0 := by kernel_rfl
noncomputable def T37k0 (a32 : Addr) (a4 : Addr) (i36 : Int) : Ex → List Value → Pg :=
 fun a b => sw a .normal (cB b fun a b => asNil b (bif a then (.act (ld1 (aadd a32 0)) fun a => asInt .i64 a fun a => .act (ld1 (aadd a32 1)) fun b => asInt .i64 b fun b => .act (stC a4 [.int .i64 a, .int .i64 b, (.string (bs []))]) fun a => asTuple a fun a => asNil a (.ret .ret [])) else (bif (i36 == 25) then (.act (ld1 (aadd a32 0)) fun a => asInt .i64 a fun a => .act (stC a4 [.int .i64 a, .int .i64 0, (.string (bs []))]) fun a => asTuple a fun a => asNil a (.ret .ret [])) else (bif (i36 == 26) then (.act (ld1 (aadd a32 0)) fun a => asInt .i64 a fun a => .act (ld1 (aadd a32 2)) fun b => asStr b fun b => .act (stC a4 [.int .i64 a, .int .i64 0, .string b]) fun a => asTuple a fun a => asNil a (.ret .ret [])) else (.ret .normal []))))) (.fail)
noncomputable def T37k1 (a4 : Addr) : Ex → List Value → Pg :=
 fun a b => sw a .ret (asNil b (.act (ldN 3 a4) fun a => .ret .ret [a])) (sw a .normal (asNil b (.act (stC a4 [.int .i64 0, .int .i64 0, (.string (bs []))]) fun a => asTuple a fun a => asNil a (.act (ldN 3 a4) fun a => .ret .ret [a]))) (.fail))
noncomputable def T37 (p0 : Option Addr) (i1 : Int) : Pg :=
 .act (newC [.int .i64 0, .int .i64 0, (.string (bs []))]) fun a => asPtr a fun a => asSome a fun a => .call 63 [.pointer p0, .int .i64 i1] fun b => asAgg b fun b => cI b fun b c => cI c fun c d => cS d fun d f => cS f fun f g => cL g fun g i j h => cI h fun h k => cI k fun k l => asNil l (.act (newC [.int .i64 0, .int .i64 0, (.string (bs [])), (.string (bs [])), .slice none 0 0, .int .i64 0, .int .i64 0]) fun l => asPtr l fun l => asSome l fun l => .act (stC l [.int .i64 b, .int .i64 c, .string d, .string f, .slice g i j, .int .i64 h, .int .i64 k]) fun b => asTuple b fun b => asNil b (.act (ld1 (aadd l 0)) fun b => asInt .i64 b fun b => .join (.join (bif (b == 23) then (.ret .normal [(.bool (b == 23))]) else (.ret .normal [(.bool (b == 24))])) (T37k0 l a b)) (T37k1 a)))
theorem T37_eq (p0 : Option Addr) (i1 : Int) : progOf PROG false 37 [(.pointer p0), (.int .i64 i1)] = T37 p0 i1 := by kernel_rfl
noncomputable def T38k0 (p87 : Option Addr) (n88 : Nat) (n89 : Nat) : Ex → List Value → Pg :=
 fun a b => sw a .normal (cI b fun a b => asNil b (.act (bdSl 1 1 [.int .i64 a]) fun a => asSlice a fun a b c => .act (apS 1 8 p87 n88 n89 a b c) fun a => asSlice a fun a b c => .ret .normal [.slice a b c])) (.fail)
noncomputable def T38k1 (i84 : Int) : Ex → List Value → Pg :=
 fun a b => sw a .normal (cL b fun a c d b => asNil b (.ret .normal [(.int .i64 (wi64 (i84 + 1))), .slice a c d])) (.fail)
noncomputable def T38b0 (i55 : Int) (a40 : Addr) : List Value → Pg :=
 fun a => cI a fun a b => cL b fun b d f c => asNil c (bif (decide (a < i55)) then (.join (.act (ld1 (aadd a40 4)) fun c => asSlice c fun _ c _ => .join (bif (decide (a < (c:Int))) then (.act (ld1 (aadd a40 4)) fun b => asSlice b fun b c _ => asSome b fun b => grd (decide (0 ≤ a) && decide (a < (c:Int))) (.act (ld1 (aadd b ((Int.toNat a) * 1))) fun a => asInt .i64 a fun a => .ret .normal [.int .i64 a])) else (.ret .normal [(.int .i64 (-1))])) (T38k0 b d f)) (T38k1 a)) else (.ret (.exit 1) [.int .i64 a, .slice b d f]))
noncomputable def T38k2 : Ex → List Value → Pg :=
 fun a b => sw a (.exit 1) (cI b fun _ b => cL b fun a c d b => asNil b (.ret .normal [.bool false, .slice none 0 0, .slice a c d])) (.fail)
noncomputable def T38k3 (i134 : Int) : Ex → List Value → Pg :=
 fun a b => sw a .normal (cL b fun a c d b => asNil b (.ret .normal [(.int .i64 (wi64 (i134 + 1))), .slice a c d])) (.fail)
noncomputable def T38b1 (i55 : Int) : List Value → Pg :=
 fun a => cI a fun a b => cL b fun b d f c => asNil c (bif (decide (a < i55)) then (.join (.act (bdSl 1 1 [(.int .i64 (-1))]) fun a => asSlice a fun a c g => .act (apS 1 8 b d f a c g) fun a => asSlice a fun a b c => .ret .normal [.slice a b c]) (T38k3 a)) else (.ret (.exit 3) [.int .i64 a, .slice b d f]))
noncomputable def T38k4 : Ex → List Value → Pg :=
 fun a b => sw a (.exit 3) (cI b fun _ b => cL b fun a c d b => asNil b (.ret .normal [.bool false, .slice none 0 0, .slice a c d])) (.fail)
noncomputable def T38k5 : Ex → List Value → Pg :=
 fun a b => sw a .normal (cB b fun a b => cL b fun b d f c => cL c fun c h i g => asNil g (.ret .normal [.bool a, .slice b d f, .slice c h i])) (sw a .ret (cB b fun a b => cL b fun b d f c => cL c fun c h i g => asNil g (.ret .ret [.bool a, .slice b d f, .slice c h i])) (.fail))
noncomputable def T38k6 (n2 : Nat) (n3 : Nat) (p1 : Option Addr) : Ex → List Value → Pg :=
 fun a b => sw a .normal (cB b fun _ b => cL b fun _ _ _ b => cL b fun a c d b => asNil b (grd ((((decide (1 ≤ (n2:Int))) && (decide ((n2:Int) ≤ (n3:Int)))) && (decide ((n3:Int) ≤ (n3:Int)))) && ((mayCut p1 1) || false)) (.act (apS 1 8 a c d (cutS p1 1) (n2 - 1) (n3 - 1)) fun a => asSlice a fun a b c => .ret .ret [(.tuple #[.slice a b c, .bool true])]))) (sw a .ret (cB b fun a b => cL b fun b d f c => cL c fun _ _ _ g => asNil g (.ret .ret [(.tuple #[.slice b d f, .bool a])])) (.fail))
noncomputable def T38 (p0 : Option Addr) (p1 : Option Addr) (n2 : Nat) (n3 : Nat) (i4 : Int) (i5 : Int) (s6 : ByteArray) : Pg :=
 .act (newC [.int .i64 i4, .int .i64 i5, .string s6]) fun a => asPtr a fun a => asSome a fun a => asSome p1 fun b => grd (decide (0 < (n2:Int))) (.act (ld1 (aadd b 0)) fun b => asInt .i64 b fun b => .call 63 [.pointer p0, .int .i64 b] fun b => asAgg b fun b => cI b fun b c => cI c fun c d => cS d fun d f => cS f fun f g => cL g fun g i j h => cI h fun h k => cI k fun k l => asNil l (.act (newC [.int .i64 0, .int .i64 0, (.string (bs [])), (.string (bs [])), .slice none 0 0, .int .i64 0, .int .i64 0]) fun l => asPtr l fun l => asSome l fun l => .act (stC l [.int .i64 b, .int .i64 c, .string d, .string f, .slice g i j, .int .i64 h, .int .i64 k]) fun b => asTuple b fun b => asNil b (.act (ldN 3 a) fun b => asAgg b fun b => cI b fun b c => cI c fun c d => cS d fun d f => asNil f (.call 64 [.pointer p0, (.agg #[.int .i64 b, .int .i64 c, .string d])] fun b => asInt .i64 b fun b => asSome p1 fun c => grd (decide (0 < (n2:Int))) (.act (ld1 (aadd c 0)) fun c => asInt .i64 c fun c => .call 37 [.pointer p0, .int .i64 c] fun c => asAgg c fun c => cI c fun c d => cI d fun d f => cS f fun f g => asNil g (.join (.act (ldN 3 a) fun a => asAgg a fun a => cI a fun a g => cI g fun g h => cS h fun h i => asNil i (.join (bif ((c == a) && ((d == g) && ((f.toList == h.toList) && true))) then (.loop [.int .i64 0, .slice none 0 0] (T38b0 b l) (T38k2)) else (bif ((c == 0) && ((d == 0) && ((f.toList == (bs []).toList) && true))) then (.loop [.int .i64 0, .slice none 0 0] (T38b1 b) (T38k4)) else (.ret .ret [.bool false, .slice none 0 0, .slice none 0 0]))) (T38k5))) (T38k6 n2 n3 p1)))))))
theorem T38_eq (p0 : Option Addr) (p1 : Option Addr) (n2 : Nat) (n3 : Nat) (i4 : Int) (i5 : Int) (s6 : ByteArray) : progOf PROG false 38 [(.pointer p0), (.slice p1 n2 n3), (.agg #[(.int .i64 i4), (.int .i64 i5), (.string s6)])] = T38 p0 p1 n2 n3 i4 i5 s6 := by kernel_rfl
noncomputable def T39k0 : Ex → List Value → Pg :=
 fun a b => sw a .normal (cL b fun a c d b => asNil b (.ret .normal [.slice a c d])) (.fail)
noncomputable def T39k1 (i13 : Int) : Ex → List Value → Pg :=
 fun a b => sw a .normal (cL b fun a c d b => asNil b (.ret .normal [(.int .i64 (wi64 (i13 + 1))), .slice a c d])) (.fail)
noncomputable def T39b0 (n2 : Nat) (p1 : Option Addr) (a9 : Addr) (p0 : Option Addr) : List Value → Pg :=
 fun a => cI a fun a b => cL b fun b d f c => asNil c (bif (decide (a < (n2:Int))) then (.join (asSome p1 fun c => grd (decide (0 ≤ a) && decide (a < (n2:Int))) (.act (ld1 (aadd c ((Int.toNat a) * 1))) fun a => asSlice a fun a c g => .act (ldN 3 a9) fun h => asAgg h fun h => cI h fun h i => cI i fun i j => cS j fun j k => asNil k (.call 38 [.pointer p0, .slice a c g, (.agg #[.int .i64 h, .int .i64 i, .string j])] fun a => asTuple a fun a => cL a fun a g h c => cB c fun c i => asNil i (.join (bif c then (.act (bdSl 1 1 [.slice a g h]) fun a => asSlice a fun a c g => .act (apS 1 24 b d f a c g) fun a => asSlice a fun a b c => .ret .normal [.slice a b c]) else (.ret .normal [.slice b d f])) (T39k0))))) (T39k1 a)) else (.ret (.exit 0) [.int .i64 a, .slice b d f]))
noncomputable def T39k2 : Ex → List Value → Pg :=
 fun a b => sw a (.exit 0) (cI b fun _ b => cL b fun a c d b => asNil b (.ret .ret [.slice a c d])) (.fail)
noncomputable def T39 (p0 : Option Addr) (p1 : Option Addr) (n2 : Nat) (n3 : Nat) (i4 : Int) (i5 : Int) (s6 : ByteArray) : Pg :=
 .act (newC [.int .i64 i4, .int .i64 i5, .string s6]) fun a => asPtr a fun a => asSome a fun a => .loop [.int .i64 0, .slice none 0 0] (T39b0 n2 p1 a p0) (T39k2)
theorem T39_eq (p0 : Option Addr) (p1 : Option Addr) (n2 : Nat) (n3 : Nat) (i4 : Int) (i5 : Int) (s6 : ByteArray) : progOf PROG false 39 [(.pointer p0), (.slice p1 n2 n3), (.agg #[(.int .i64 i4), (.int .i64 i5), (.string s6)])] = T39 p0 p1 n2 n3 i4 i5 s6 := by kernel_rfl
noncomputable def T40k0 : Ex → List Value → Pg :=
 fun a b => sw a .normal (cL b fun a c d b => asNil b (.ret .normal [.slice a c d])) (.fail)
noncomputable def T40k1 (a36 : Addr) (m5 : Option Nat) (p12 : Option Addr) (n13 : Nat) (n14 : Nat) : Ex → List Value → Pg :=
 fun a b => sw a .normal (cB b fun a b => asNil b (.join (bif a then (.act (ldN 3 a36) fun a => asAgg a fun a => cI a fun a b => cI b fun b c => cS c fun c d => asNil d (.act (updateAct PROG 127 (.map m5) (.agg #[.int .i64 a, .int .i64 b, .string c]) (.bool true)) fun a => asTuple a fun a => asNil a (.act (ldN 3 a36) fun a => asAgg a fun a => cI a fun a b => cI b fun b c => cS c fun c d => asNil d (.act (bdSl 3 1 [.int .i64 a, .int .i64 b, .string c]) fun a => asSlice a fun a b c => .act (apS 3 32 p12 n13 n14 a b c) fun a => asSlice a fun a b c => .ret .normal [.slice a b c])))) else (.ret .normal [.slice p12 n13 n14])) (T40k0))) (.fail)
noncomputable def T40k2 (i9 : Int) : Ex → List Value → Pg :=
 fun a b => sw a .normal (cL b fun a c d b => asNil b (.ret .normal [(.int .i64 (wi64 (i9 + 1))), .slice a c d])) (.fail)
noncomputable def T40b0 (n2 : Nat) (p1 : Option Addr) (p0 : Option Addr) (m5 : Option Nat) : List Value → Pg :=
 fun a => cI a fun a b => cL b fun b d f c => asNil c (bif (decide (a < (n2:Int))) then (.join (asSome p1 fun c => grd (decide (0 ≤ a) && decide (a < (n2:Int))) (.act (ld1 (aadd c ((Int.toNat a) * 1))) fun a => asSlice a fun a c _ => asSome a fun a => grd (decide (0 < (c:Int))) (.act (ld1 (aadd a 0)) fun a => asInt .i64 a fun a => .call 37 [.pointer p0, .int .i64 a] fun a => asAgg a fun a => cI a fun a c => cI c fun c g => cS g fun g h => asNil h (.act (newC [.int .i64 0, .int .i64 0, (.string (bs []))]) fun h => asPtr h fun h => asSome h fun h => .act (stC h [.int .i64 a, .int .i64 c, .string g]) fun a => asTuple a fun a => asNil a (.join (.act (ld1 (aadd h 0)) fun a => asInt .i64 a fun a => bif (a != 0) == true then (.act (ldN 3 h) fun a => asAgg a fun a => cI a fun a b => cI b fun b c => cS c fun c d => asNil d (.act (lookupAct PROG 127 (.map m5) (.agg #[.int .i64 a, .int .i64 b, .string c]) false) fun a => asBool a fun a => .ret .normal [(.bool (!a))])) else (.ret .normal [.bool false])) (T40k1 h m5 b d f)))))) (T40k2 a)) else (.ret (.exit 0) [.int .i64 a, .slice b d f]))
noncomputable def T40k3 : Ex → List Value → Pg :=
 fun a b => sw a (.exit 0) (cI b fun _ b => cL b fun a c d b => asNil b (.ret .ret [.slice a c d])) (.fail)
noncomputable def T40 (p0 : Option Addr) (p1 : Option Addr) (n2 : Nat) (n3 : Nat) : Pg :=
 .act makeMapAct fun a => asMap a fun a => .loop [.int .i64 0, .slice none 0 0] (T40b0 n2 p1 p0 a) (T40k3)
theorem T40_eq (p0 : Option Addr) (p1 : Option Addr) (n2 : Nat) (n3 : Nat) : progOf PROG false 40 [(.pointer p0), (.slice p1 n2 n3)] = T40 p0 p1 n2 n3 := by kernel_rfl
noncomputable def T41k0 : Ex → List Value → Pg :=
 fun a b => sw a .normal (cB b fun a b => asNil b (.ret .ret [.bool a])) (.fail)
noncomputable def T41k1 : Ex → List Value → Pg :=
 fun a b => sw a .ret (cB b fun a b => asNil b (.ret .ret [.bool a])) (sw a .normal (cB b fun _ b => asNil b (.ret .ret [.bool false])) (.fail))
noncomputable def T41 (p0 : Option Addr) (p1 : Option Addr) (n2 : Nat) (n3 : Nat) : Pg :=
 bif ((n2:Int) == 0) then (.ret .ret [.bool false]) else (asSome p1 fun a => grd (decide (0 < (n2:Int))) (.act (ld1 (aadd (aadd a 0) 0)) fun a => asInt .i64 a fun a => .join (bif (a == 24) then (.ret .ret [(.bool ((n2:Int) == 2))]) else (bif (a == 25) then (.ret .ret [.bool true]) else (bif (a == 26) then (asSome p0 fun a => .act (ldN 2 (aadd a 0)) fun a => asAgg a fun a => cL a fun a c d b => cL b fun b g h f => asNil f (asSome p1 fun f => grd (decide (0 < (n2:Int))) (.act (ld1 (aadd (aadd f 0) 2)) fun f => asStr f fun f => .call 30 [(.agg #[.slice a c d, .slice b g h]), .string f] fun a => asTuple a fun a => cI a fun a b => cI b fun _ c => cB c fun b c => asNil c (.join (bif b == true then (asSome p0 fun b => .act (ld1 (aadd (aadd b 0) 1)) fun b => asSlice b fun b c _ => asSome b fun b => grd (decide (0 ≤ a) && decide (a < (c:Int))) (.act (ld1 (aadd (aadd b ((Int.toNat a) * 2)) 1)) fun a => asSlice a fun _ a _ => .ret .normal [(.bool ((n2:Int) == (a:Int)))])) else (.ret .normal [.bool false])) (T41k0))))) else (.ret .normal [.bool false])))) (T41k1)))
theorem T41_eq (p0 : Option Addr) (p1 : Option Addr) (n2 : Nat) (n3 : Nat) : progOf PROG false 41 [(.pointer p0), (.slice p1 n2 n3)] = T41 p0 p1 n2 n3 := by kernel_rfl
noncomputable def T42k0 (s0 : ByteArray) (i20 : Int) (p4 : Option Addr) (n5 : Nat) (n6 : Nat) (i9 : Int) (i12 : Int) (p15 : Option Addr) (n16 : Nat) (n17 : Nat) : Ex → List Value → Pg :=
 fun a b => sw a .normal (cB b fun a b => asNil b (bif a then (.call 67 [.string s0, .int .i64 i20] fun a => asInt .i64 a fun a => bif (decide (a < 0)) then (.ret .ret [.slice p4 n5 n6, .int .i64 i20, .int .i64 3, .slice none 0 0, .int .i64 i20]) else (.ret .normal [.slice p4 n5 n6, .int .i64 i9, .int .i64 i12, .slice p15 n16 n17, .int .i64 a])) else (.call 68 [.string s0, .int .i64 i20] fun a => asTuple a fun a => asCons a fun a b => asAgg a fun a => cI a fun a c => cS c fun c d => cI d fun d f => cI f fun f g => asNil g (cB b fun b g => asNil g (.act (newC [.int .i64 0, (.string (bs [])), .int .i64 0, .int .i64 0]) fun g => asPtr g fun g => asSome g fun g => .act (stC g [.int .i64 a, .string c, .int .i64 d, .int .i64 f]) fun a => asTuple a fun a => asNil a (bif (!b) then (.ret .ret [.slice p4 n5 n6, .int .i64 i20, .int .i64 3, .slice none 0 0, .int .i64 i20]) else (bif ((n5:Int) == 2000) then (.ret .ret [.slice p4 n5 n6, .int .i64 i20, .int .i64 2, .slice none 0 0, .int .i64 i20]) else (.act (ldN 4 g) fun a => asAgg a fun a => cI a fun a b => cS b fun b c => cI c fun c d => cI d fun d f => asNil f (.act (bdSl 4 1 [.int .i64 a, .string b, .int .i64 c, .int .i64 d]) fun a => asSlice a fun a b c => .act (apS 4 40 p4 n5 n6 a b c) fun a => asSlice a fun a b c => .act (ld1 (aadd g 3)) fun d => asInt .i64 d fun d => .ret .normal [.slice a b c, .int .i64 i9, .int .i64 i12, .slice p15 n16 n17, .int .i64 d]))))))))) (.fail)
noncomputable def T42k1 : Ex → List Value → Pg :=
 fun a b => sw a .ret (cL b fun a c d b => cI b fun b f => cI f fun f g => cL g fun g i j h => cI h fun h k => asNil k (.ret .ret [.slice a c d, .int .i64 b, .int .i64 f, .slice g i j, .int .i64 h])) (sw a .normal (cL b fun a c d b => cI b fun b f => cI f fun f g => cL g fun g i j h => cI h fun h k => asNil k (.ret .normal [.slice a c d, .int .i64 b, .int .i64 f, .slice g i j, .int .i64 h])) (.fail))
noncomputable def T42b0 (s0 : ByteArray) : List Value → Pg :=
 fun a => cL a fun a c d b => cI b fun b f => cI f fun f g => cL g fun g i j h => cI h fun h k => asNil k (bif (decide (h < ((s0.size : Nat) : Int))) then (.join (grd (((decide (0 ≤ h)) && (decide (h ≤ ((s0.size : Nat) : Int)))) && (decide (((s0.size : Nat) : Int) ≤ ((s0.size : Nat) : Int)))) (.call 65 [(.string (s0.extract (Int.toNat h) s0.size))] fun k => asTuple k fun k => asCons k fun k l => asInt .i32 k fun k => cI l fun l m => asNil m (.call 66 [.int .i32 k] fun m => asInt .i64 m fun m => bif (m == 3) then (.ret .normal [.slice a c d, .int .i64 b, .int .i64 f, .slice g i j, (.int .i64 (wi64 (h + l)))]) else (.join (bif (k == 40) == true then (bif (decide ((wi64 (h + 1)) < ((s0.size : Nat) : Int))) == true then (grd ((decide (0 ≤ (wi64 (h + 1)))) && (decide ((wi64 (h + 1)) < ((s0.size : Nat) : Int)))) (.ret .normal [(.bool ((byteAt s0 (Int.toNat (wi64 (h + 1)))) == 42))])) else (.ret .normal [.bool false])) else (.ret .normal [.bool false])) (T42k0 s0 h a c d b f g i j))))) (T42k1)) else (.ret (.exit 0) [.slice a c d, .int .i64 b, .int .i64 f, .slice g i j, .int .i64 h]))
noncomputable def T42k2 : Ex → List Value → Pg :=
 fun a b => sw a (.exit 0) (cL b fun a c d b => cI b fun _ f => cI f fun _ f => cL f fun _ _ _ f => cI f fun _ f => asNil f (.ret .ret [(.tuple #[.slice a c d, .int .i64 0, .int .i64 0])])) (sw a .ret (cL b fun _ _ _ b => cI b fun a b => cI b fun b c => cL c fun c f g d => cI d fun _ h => asNil h (.ret .ret [(.tuple #[.slice c f g, .int .i64 b, .int .i64 a])])) (.fail))
noncomputable def T42 (s0 : ByteArray) : Pg :=
 bif (decide (((s0.size : Nat) : Int) > 4000)) then (.ret .ret [(.tuple #[.slice none 0 0, .int .i64 2, .int .i64 0])]) else (.loop [.slice none 0 0, .int .i64 0, .int .i64 0, .slice none 0 0, .int .i64 0] (T42b0 s0) (T42k2))
theorem T42_eq (s0 : ByteArray) : progOf PROG false 42 [(.string s0)] = T42 s0 := by kernel_rfl
noncomputable def T43k0 : Ex → List Value → Pg :=
 fun a b => sw a .normal (asNil b (.ret .normal [])) (.fail)
noncomputable def T43b0 (p0 : Option Addr) (a34 : Addr) : List Value → Pg :=
 fun a => asNil a (.call 69 [.pointer p0, (.string (bs [44]))] fun a => asBool a fun a => bif a then (.join (.act (ld1 (aadd a34 1)) fun a => asSlice a fun b c d => .call 70 [.pointer p0, .int .i64 2] fun f => asStr f fun f => .get fun g => grd (chks [((ld1 (aadd a34 1)), a)] g) (.act (bdSl 1 1 [.string f]) fun f => asSlice f fun f g h => .get fun i => grd (chks [((ld1 (aadd a34 1)), a)] i) (.act (apS 1 16 b c d f g h) fun a => asSlice a fun a b c => .act (stC (aadd a34 1) [.slice a b c]) fun a => asTuple a fun a => asNil a (.ret .normal [])))) (T43k0)) else (.ret (.exit 4) []))
noncomputable def T43k1 : Ex → List Value → Pg :=
 fun a b => sw a (.exit 4) (asNil b (.ret .normal [])) (.fail)
noncomputable def T43k2 (a13 : Addr) (a34 : Addr) : Ex → List Value → Pg :=
 fun a b => sw a .normal (asNil b (.act (ld1 (aadd a13 1)) fun a => asSlice a fun a b c => .act (ldN 2 a34) fun d => asAgg d fun d => cS d fun d f => cL f fun f h i g => asNil g (.act (bdSl 2 1 [.string d, .slice f h i]) fun d => asSlice d fun d f g => .act (apS 2 40 a b c d f g) fun a => asSlice a fun a b c => .act (stC (aadd a13 1) [.slice a b c]) fun a => asTuple a fun a => asNil a (.ret .normal [])))) (.fail)
noncomputable def T43k3 (p0 : Option Addr) : Ex → List Value → Pg :=
 fun a b => sw a .normal (asNil b (.call 69 [.pointer p0, (.string (bs [124]))] fun a => asBool a fun a => .ret .normal [.bool a])) (.fail)
noncomputable def T43k4 (p0 : Option Addr) (a13 : Addr) (b21 : Bool) : Ex → List Value → Pg :=
 fun a b => sw a .normal (cB b fun a b => asNil b (bif a then (.join (.call 70 [.pointer p0, .int .i64 3] fun a => asStr a fun a => .act (newC [(.string (bs [])), .slice none 0 0]) fun b => asPtr b fun b => asSome b fun b => .act (stC b [.string a, .slice none 0 0]) fun a => asTuple a fun a => asNil a (.call 69 [.pointer p0, (.string (bs [111, 102]))] fun a => asBool a fun a => .join (bif a then (.act (ld1 (aadd b 1)) fun a => asSlice a fun c d f => .call 70 [.pointer p0, .int .i64 2] fun g => asStr g fun g => .get fun h => grd (chks [((ld1 (aadd b 1)), a)] h) (.act (bdSl 1 1 [.string g]) fun g => asSlice g fun g h i => .get fun j => grd (chks [((ld1 (aadd b 1)), a)] j) (.act (apS 1 16 c d f g h i) fun a => asSlice a fun a c d => .act (stC (aadd b 1) [.slice a c d]) fun a => asTuple a fun a => asNil a (.loop [] (T43b0 p0 b) (T43k1))))) else (.ret .normal [])) (T43k2 a13 b))) (T43k3 p0)) else (.ret (.exit 2) [.bool b21]))) (.fail)
noncomputable def T43b1 (p0 : Option Addr) (a13 : Addr) : List Value → Pg :=
 fun a => cB a fun a b => asNil b (.join (bif a == true then (asSome p0 fun a => .act (ld1 (aadd a 3)) fun a => asBool a fun a => .ret .normal [(.bool (!a))]) else (.ret .normal [.bool false])) (T43k4 p0 a13 a))
noncomputable def T43k5 (p0 : Option Addr) (a13 : Addr) (p4 : Option Addr) (n5 : Nat) (n6 : Nat) : Ex → List Value → Pg :=
 fun a b => sw a (.exit 2) (cB b fun _ b => asNil b (.call 71 [.pointer p0, (.string (bs [105, 110]))] fun a => asTuple a fun a => asNil a (.act (ldN 2 a13) fun a => asAgg a fun a => cS a fun a b => cL b fun b d f c => asNil c (.act (bdSl 2 1 [.string a, .slice b d f]) fun a => asSlice a fun a b c => .act (apS 2 40 p4 n5 n6 a b c) fun a => asSlice a fun a b c => .ret .normal [.slice a b c])))) (.fail)
noncomputable def T43k6 : Ex → List Value → Pg :=
 fun a b => sw a .normal (cL b fun a c d b => asNil b (.ret .normal [.slice a c d])) (.fail)
noncomputable def T43b2 (p0 : Option Addr) : List Value → Pg :=
 fun a => cL a fun a c d b => asNil b (.call 69 [.pointer p0, (.string (bs [116, 121, 112, 101]))] fun b => asBool b fun b => bif b then (.join (.call 70 [.pointer p0, .int .i64 2] fun b => asStr b fun b => .act (newC [(.string (bs [])), .slice none 0 0]) fun f => asPtr f fun f => asSome f fun f => .act (stC f [.string b, .slice none 0 0]) fun b => asTuple b fun b => asNil b (.call 71 [.pointer p0, (.string (bs [61]))] fun b => asTuple b fun b => asNil b (.loop [.bool true] (T43b1 p0 f) (T43k5 p0 f a c d)))) (T43k6)) else (.ret (.exit 0) [.slice a c d]))
noncomputable def T43k7 : Ex → List Value → Pg :=
 fun a b => sw a (.exit 0) (cL b fun a c d b => asNil b (.ret .ret [.slice a c d])) (.fail)
noncomputable def T43 (p0 : Option Addr) : Pg :=
 .loop [.slice none 0 0] (T43b2 p0) (T43k7)
theorem T43_eq (p0 : Option Addr) : progOf PROG false 43 [(.pointer p0)] = T43 p0 := by kernel_rfl
noncomputable def T44 (p0 : Option Addr) : Pg :=
 .call 72 [.pointer p0] fun a => asPtr a fun a => .call 69 [.pointer p0, (.string (bs [59]))] fun b => asBool b fun b => bif b then (.call 44 [.pointer p0] fun b => asPtr b fun b => .call 73 [.int .i64 12, (.string (bs [])), .pointer a, .pointer b] fun a => asPtr a fun a => .ret .ret [.pointer a]) else (.ret .ret [.pointer a])
theorem T44_eq (p0 : Option Addr) : progOf PROG false 44 [(.pointer p0)] = T44 p0 := by kernel_rfl
noncomputable def T45 (p0 : Option Addr) : Pg :=
 .act (newC [.int .i64 0, (.string (bs [])), .int .i64 0, .int .i64 0]) fun a => asPtr a fun a => asSome a fun a => asSome p0 fun b => .act (ld1 (aadd b 1)) fun b => asInt .i64 b fun b => asSome p0 fun c => .act (ld1 (aadd c 0)) fun c => asSlice c fun _ c _ => bif (decide (b < (c:Int))) then (asSome p0 fun b => .act (ld1 (aadd b 0)) fun b => asSlice b fun b c _ => asSome p0 fun d => .act (ld1 (aadd d 1)) fun d => asInt .i64 d fun d => asSome b fun b => grd (decide (0 ≤ d) && decide (d < (c:Int))) (.act (ldN 4 (aadd b ((Int.toNat d) * 4))) fun b => asAgg b fun b => cI b fun b c => cS c fun c d => cI d fun d f => cI f fun f g => asNil g (.act (stC a [.int .i64 b, .string c, .int .i64 d, .int .i64 f]) fun b => asTuple b fun b => asNil b (.act (ldN 4 a) fun a => .ret .ret [a])))) else (asSome p0 fun b => .act (ld1 (aadd b 2)) fun b => asInt .i64 b fun b => asSome p0 fun c => .act (ld1 (aadd c 2)) fun c => asInt .i64 c fun c => .act (stC a [.int .i64 0, (.string (bs [])), .int .i64 b, .int .i64 c]) fun b => asTuple b fun b => asNil b (.act (ldN 4 a) fun a => .ret .ret [a]))
theorem T45_eq (p0 : Option Addr) : progOf PROG false 45 [(.pointer p0)] = T45 p0 := by kernel_rfl
noncomputable def T46k0 (i64 : Int) : Ex → List Value → Pg :=
 fun a b => sw a .normal (cL b fun a c d b => asNil b (.ret .normal [(.int .i64 (wi64 (i64 + 1))), .slice a c d])) (.fail)
noncomputable def T46b0 (p1 : Option Addr) (p0 : Option Addr) (i2 : Int) : List Value → Pg :=
 fun a => cI a fun a b => cL b fun b d f c => asNil c (asSome p1 fun c => .act (ld1 (aadd c 7)) fun c => asSlice c fun _ c _ => bif (decide (a < (c:Int))) then (.join (asSome p1 fun c => .act (ld1 (aadd c 7)) fun c => asSlice c fun c g _ => asSome c fun c => grd (decide (0 ≤ a) && decide (a < (g:Int))) (.act (ld1 (aadd c ((Int.toNat a) * 1))) fun a => asPtr a fun a => .call 46 [.pointer p0, .pointer a, (.int .i64 (wi64 (i2 + 1)))] fun a => asInt .i64 a fun a => .act (bdSl 1 1 [.int .i64 a]) fun a => asSlice a fun a c g => .act (apS 1 8 b d f a c g) fun a => asSlice a fun a b c => .ret .normal [.slice a b c])) (T46k0 a)) else (.ret (.exit 0) [.int .i64 a, .slice b d f]))
noncomputable def T46k1 (p0 : Option Addr) (n6 : Nat) : Ex → List Value → Pg :=
 fun a b => sw a (.exit 0) (cI b fun _ b => cL b fun a c d b => asNil b (asSome p0 fun b => .act (ld1 (aadd (aadd b 0) 0)) fun b => asSlice b fun b f _ => asSome b fun b => grd (decide ((n6:Int) < (f:Int))) (.act (stC (aadd (aadd b (n6 * 7)) 4) [.slice a c d]) fun a => asTuple a fun a => asNil a (.ret .ret [(.int .i64 (n6:Int))])))) (.fail)
noncomputable def T46k2 (p0 : Option Addr) (p1 : Option Addr) (i2 : Int) (n6 : Nat) : Ex → List Value → Pg :=
 fun a b => sw a .normal (asNil b (asSome p0 fun a => .act (ld1 (aadd (aadd a 0) 0)) fun b => asSlice b fun c d f => asSome p1 fun g => .act (ldN 7 (aadd g 0)) fun g => asAgg g fun g => cI g fun g h => cI h fun h i => cS i fun i j => cS j fun j k => cL k fun k m n l => cI l fun l o => cI o fun o p => asNil p (.act (bdSl 7 1 [.int .i64 g, .int .i64 h, .string i, .string j, .slice k m n, .int .i64 l, .int .i64 o]) fun g => asSlice g fun g h i => .get fun j => grd (chks [((ld1 (aadd (aadd a 0) 0)), b)] j) (.act (apS 7 88 c d f g h i) fun a => asSlice a fun a b c => asSome p0 fun d => .act (stC (aadd (aadd d 0) 0) [.slice a b c]) fun a => asTuple a fun a => asNil a (.loop [.int .i64 0, .slice none 0 0] (T46b0 p1 p0 i2) (T46k1 p0 n6)))))) (.fail)
noncomputable def T46 (p0 : Option Addr) (p1 : Option Addr) (i2 : Int) : Pg :=
 asSome p0 fun a => .act (ld1 (aadd (aadd a 0) 0)) fun a => asSlice a fun _ a _ => asSome p0 fun b => .act (ld1 (aadd b 2)) fun b => asInt .i64 b fun b => .join (bif ((decide (b < 0)) && ((decide ((a:Int) ≥ 1000)) || (decide (i2 > 60)))) then (asSome p1 fun a => .act (ld1 (aadd (aadd a 0) 5)) fun a => asInt .i64 a fun a => asSome p0 fun b => .act (stC (aadd b 2) [.int .i64 a]) fun a => asTuple a fun a => asNil a (.ret .normal [])) else (.ret .normal [])) (T46k2 p0 p1 i2 a)
theorem T46_eq (p0 : Option Addr) (p1 : Option Addr) (i2 : Int) : progOf PROG false 46 [(.pointer p0), (.pointer p1), (.int .i64 i2)] = T46 p0 p1 i2 := by kernel_rfl
noncomputable def T47k0 (p89 : Option Addr) (n90 : Nat) (n91 : Nat) (a47 : Addr) (i86 : Int) (b94 : Bool) : Ex → List Value → Pg :=
 fun a b => sw a .normal (cB b fun a b => asNil b (bif a then (.ret .ret [.slice p89 n90 n91, .bool false]) else (.act (ld1 (aadd a47 1)) fun a => asSlice a fun a b _ => asSome a fun a => grd (decide (0 ≤ i86) && decide (i86 < (b:Int))) (.act (ld1 (aadd (aadd a ((Int.toNat i86) * 2)) 0)) fun a => asStr a fun a => .act (bdSl 1 1 [.string a]) fun a => asSlice a fun a b c => .act (apS 1 16 p89 n90 n91 a b c) fun a => asSlice a fun a b c => .ret .normal [.slice a b c, .bool b94])))) (.fail)
noncomputable def T47k1 (i86 : Int) : Ex → List Value → Pg :=
 fun a b => sw a .ret (cL b fun a c d b => cB b fun b f => asNil f (.ret .ret [.int .i64 i86, .slice a c d, .bool b])) (sw a .normal (cL b fun a c d b => cB b fun b f => asNil f (.ret .normal [(.int .i64 (wi64 (i86 + 1))), .slice a c d, .bool b])) (.fail))
noncomputable def T47b0 (a47 : Addr) : List Value → Pg :=
 fun a => cI a fun a b => cL b fun b d f c => cB c fun c g => asNil g (.act (ld1 (aadd a47 1)) fun g => asSlice g fun _ g _ => bif (decide (a < (g:Int))) then (.join (.join (.act (ld1 (aadd a47 1)) fun b => asSlice b fun b c _ => asSome b fun b => grd (decide (0 ≤ a) && decide (a < (c:Int))) (.act (ld1 (aadd (aadd b ((Int.toNat a) * 2)) 0)) fun b => asStr b fun b => .call 75 [.string b] fun b => asBool b fun b => bif (!b) == false then (.act (ld1 (aadd a47 1)) fun b => asSlice b fun b c _ => asSome b fun b => grd (decide (0 ≤ a) && decide (a < (c:Int))) (.act (ld1 (aadd (aadd b ((Int.toNat a) * 2)) 1)) fun a => asSlice a fun _ a _ => .ret .normal [(.bool (decide ((a:Int) > 3)))])) else (.ret .normal [.bool true]))) (T47k0 b d f a47 a c)) (T47k1 a)) else (.ret (.exit 2) [.int .i64 a, .slice b d f, .bool c]))
noncomputable def T47k2 (p80 : Option Addr) (n81 : Nat) (n82 : Nat) : Ex → List Value → Pg :=
 fun a b => sw a (.exit 2) (cI b fun _ b => cL b fun a c d b => cB b fun b f => asNil f (.ret .normal [.slice a c d, .slice p80 n81 n82, .bool b])) (sw a .ret (cI b fun _ b => cL b fun a c d b => cB b fun b f => asNil f (.ret .ret [.slice a c d, .slice p80 n81 n82, .bool b])) (.fail))
noncomputable def T47k3 (p15 : Option Addr) (n16 : Nat) (n17 : Nat) (p20 : Option Addr) (n21 : Nat) (n22 : Nat) (a47 : Addr) (b25 : Bool) : Ex → List Value → Pg :=
 fun a b => sw a .normal (cB b fun a b => asNil b (bif a then (.ret .ret [.slice p15 n16 n17, .slice p20 n21 n22, .bool false]) else (.act (ld1 (aadd a47 0)) fun a => asStr a fun a => .act (bdSl 1 1 [.string a]) fun a => asSlice a fun a b c => .act (apS 1 16 p20 n21 n22 a b c) fun a => asSlice a fun a b c => .loop [.int .i64 0, .slice p15 n16 n17, .bool b25] (T47b0 a47) (T47k2 a b c)))) (.fail)
noncomputable def T47k4 (i12 : Int) : Ex → List Value → Pg :=
 fun a b => sw a .ret (cL b fun a c d b => cL b fun b g h f => cB f fun f i => asNil i (.ret .ret [.int .i64 i12, .slice a c d, .slice b g h, .bool f])) (sw a .normal (cL b fun a c d b => cL b fun b g h f => cB f fun f i => asNil i (.ret .normal [(.int .i64 (wi64 (i12 + 1))), .slice a c d, .slice b g h, .bool f])) (.fail))
noncomputable def T47b1 (a8 : Addr) : List Value → Pg :=
 fun a => cI a fun a b => cL b fun b d f c => cL c fun c h i g => cB g fun g j => asNil j (.act (ld1 (aadd a8 1)) fun j => asSlice j fun _ j _ => bif (decide (a < (j:Int))) then (.join (.act (ld1 (aadd a8 1)) fun j => asSlice j fun j k _ => asSome j fun j => grd (decide (0 ≤ a) && decide (a < (k:Int))) (.act (ldN 2 (aadd j ((Int.toNat a) * 2))) fun a => asAgg a fun a => cS a fun a j => cL j fun j l m k => asNil k (.act (newC [(.string (bs [])), .slice none 0 0]) fun k => asPtr k fun k => asSome k fun k => .act (stC k [.string a, .slice j l m]) fun a => asTuple a fun a => asNil a (.join (.act (ld1 (aadd k 0)) fun a => asStr a fun a => .call 74 [.string a] fun a => asBool a fun a => bif (!a) == false then (.act (ld1 (aadd k 0)) fun a => asStr a fun a => bif (a.toList == (bs [105, 110, 116]).toList) == false then (.act (ld1 (aadd k 0)) fun a => asStr a fun a => bif (a.toList == (bs [98, 111, 111, 108]).toList) == false then (.act (ld1 (aadd k 0)) fun a => asStr a fun a => bif (a.toList == (bs [117, 110, 105, 116]).toList) == false then (.act (ld1 (aadd k 1)) fun a => asSlice a fun _ a _ => bif (decide ((a:Int) < 1)) == false then (.act (ld1 (aadd k 1)) fun a => asSlice a fun _ a _ => .ret .normal [(.bool (decide ((a:Int) > 20)))]) else (.ret .normal [.bool true])) else (.ret .normal [.bool true])) else (.ret .normal [.bool true])) else (.ret .normal [.bool true])) else (.ret .normal [.bool true])) (T47k3 b d f c h i k g))))) (T47k4 a)) else (.ret (.exit 0) [.int .i64 a, .slice b d f, .slice c h i, .bool g]))
noncomputable def T47k5 (i290 : Int) : Ex → List Value → Pg :=
 fun a b => sw a .ret (cB b fun a b => asNil b (.ret .ret [.int .i64 i290, .bool a])) (sw a .normal (cB b fun a b => asNil b (.ret .normal [(.int .i64 (wi64 (i290 + 1))), .bool a])) (.fail))
noncomputable def T47b2 (n285 : Nat) (p284 : Option Addr) (p243 : Option Addr) (n244 : Nat) (n245 : Nat) : List Value → Pg :=
 fun a => cI a fun a b => cB b fun b c => asNil c (bif (decide (a < (n285:Int))) then (.join (asSome p284 fun c => grd (decide (0 ≤ a) && decide (a < (n285:Int))) (.act (ld1 (aadd c ((Int.toNat a) * 1))) fun a => asStr a fun a => .call 77 [.slice p243 n244 n245, .string a] fun a => asBool a fun a => bif (!a) then (.ret .ret [.bool false]) else (.ret .normal [.bool b]))) (T47k5 a)) else (.ret (.exit 8) [.int .i64 a, .bool b]))
noncomputable def T47k6 : Ex → List Value → Pg :=
 fun a b => sw a (.exit 8) (cI b fun _ b => cB b fun a b => asNil b (.ret .normal [.bool a])) (sw a .ret (cI b fun _ b => cB b fun a b => asNil b (.ret .ret [.bool a])) (.fail))
noncomputable def T47k7 (i260 : Int) : Ex → List Value → Pg :=
 fun a b => sw a .ret (cB b fun a b => asNil b (.ret .ret [.int .i64 i260, .bool a])) (sw a .normal (cB b fun a b => asNil b (.ret .normal [(.int .i64 (wi64 (i260 + 1))), .bool a])) (.fail))
noncomputable def T47b3 (a8 : Addr) (i249 : Int) (p243 : Option Addr) (n244 : Nat) (n245 : Nat) : List Value → Pg :=
 fun a => cI a fun a b => cB b fun b c => asNil c (.act (ld1 (aadd a8 1)) fun c => asSlice c fun c d _ => asSome c fun c => grd (decide (0 ≤ i249) && decide (i249 < (d:Int))) (.act (ld1 (aadd (aadd c ((Int.toNat i249) * 2)) 1)) fun c => asSlice c fun _ c _ => bif (decide (a < (c:Int))) then (.join (.act (ld1 (aadd a8 1)) fun c => asSlice c fun c d _ => asSome c fun c => grd (decide (0 ≤ i249) && decide (i249 < (d:Int))) (.act (ld1 (aadd (aadd c ((Int.toNat i249) * 2)) 1)) fun c => asSlice c fun c d _ => asSome c fun c => grd (decide (0 ≤ a) && decide (a < (d:Int))) (.act (ld1 (aadd (aadd c ((Int.toNat a) * 2)) 1)) fun a => asSlice a fun a c _ => .loop [.int .i64 0, .bool b] (T47b2 c a p243 n244 n245) (T47k6)))) (T47k7 a)) else (.ret (.exit 6) [.int .i64 a, .bool b])))
noncomputable def T47k8 : Ex → List Value → Pg :=
 fun a b => sw a (.exit 6) (cI b fun _ b => cB b fun a b => asNil b (.ret .normal [.bool a])) (sw a .ret (cI b fun _ b => cB b fun a b => asNil b (.ret .ret [.bool a])) (.fail))
noncomputable def T47k9 (i249 : Int) : Ex → List Value → Pg :=
 fun a b => sw a .ret (cB b fun a b => asNil b (.ret .ret [.int .i64 i249, .bool a])) (sw a .normal (cB b fun a b => asNil b (.ret .normal [(.int .i64 (wi64 (i249 + 1))), .bool a])) (.fail))
noncomputable def T47b4 (a8 : Addr) (p243 : Option Addr) (n244 : Nat) (n245 : Nat) : List Value → Pg :=
 fun a => cI a fun a b => cB b fun b c => asNil c (.act (ld1 (aadd a8 1)) fun c => asSlice c fun _ c _ => bif (decide (a < (c:Int))) then (.join (.loop [.int .i64 0, .bool b] (T47b3 a8 a p243 n244 n245) (T47k8)) (T47k9 a)) else (.ret (.exit 4) [.int .i64 a, .bool b]))
noncomputable def T47k10 : Ex → List Value → Pg :=
 fun a b => sw a (.exit 4) (cI b fun _ b => cB b fun _ b => asNil b (.ret .ret [.bool true])) (sw a .ret (cI b fun _ b => cB b fun a b => asNil b (.ret .ret [.bool a])) (.fail))
noncomputable def T47k11 (p219 : Option Addr) (n220 : Nat) (n221 : Nat) (b224 : Bool) (a8 : Addr) : Ex → List Value → Pg :=
 fun a b => sw a .normal (cB b fun a b => asNil b (bif a then (.ret .ret [.bool false]) else (.act (bdSl 1 3 [(.string (bs [105, 110, 116])), (.string (bs [98, 111, 111, 108])), (.string (bs [117, 110, 105, 116]))]) fun a => asSlice a fun a b c => .act (apS 1 16 p219 n220 n221 a b c) fun a => asSlice a fun a b c => .loop [.int .i64 0, .bool b224] (T47b4 a8 a b c) (T47k10)))) (.fail)
noncomputable def T47k12 (a8 : Addr) : Ex → List Value → Pg :=
 fun a b => sw a (.exit 0) (cI b fun _ b => cL b fun a c d b => cL b fun b g h f => cB f fun f i => asNil i (.join (.act (ld1 (aadd a8 1)) fun f => asSlice f fun _ f _ => bif (decide ((f:Int) > 20)) == false then (.call 76 [.slice b g h] fun b => asBool b fun b => bif b == false then (.call 76 [.slice a c d] fun a => asBool a fun a => .ret .normal [.bool a]) else (.ret .normal [.bool true])) else (.ret .normal [.bool true])) (T47k11 b g h f a8))) (sw a .ret (cI b fun _ b => cL b fun _ _ _ b => cL b fun _ _ _ b => cB b fun a b => asNil b (.ret .ret [.bool a])) (.fail))
noncomputable def T47 (p0 : Option Addr) (n1 : Nat) (n2 : Nat) (p3 : Option Addr) (n4 : Nat) (n5 : Nat) : Pg :=
 .act (newC [.slice p0 n1 n2, .slice p3 n4 n5]) fun a => asPtr a fun a => asSome a fun a => .loop [.int .i64 0, .slice none 0 0, .slice none 0 0, .bool false] (T47b1 a) (T47k12 a)
theorem T47_eq (p0 : Option Addr) (n1 : Nat) (n2 : Nat) (p3 : Option Addr) (n4 : Nat) (n5 : Nat) : progOf PROG false 47 [(.agg #[(.slice p0 n1 n2), (.slice p3 n4 n5)])] = T47 p0 n1 n2 p3 n4 n5 := by kernel_rfl
noncomputable def T48k0 : Ex → List Value → Pg :=
 fun a b => sw a .normal (cB b fun a b => asNil b (bif a then (.ret .ret [(.int .i64 (-1))]) else (.ret .normal [.int .i64 0]))) (.fail)
noncomputable def T48k1 (i159 : Int) : Ex → List Value → Pg :=
 fun a b => sw a .normal (cI b fun a b => asNil b (bif (decide (a < 0)) then (.ret .ret [.int .i64 a, (.int .i64 (-1))]) else (.ret .normal [.int .i64 a, .int .i64 i159]))) (.fail)
noncomputable def T48k2 (i153 : Int) : Ex → List Value → Pg :=
 fun a b => sw a .ret (cI b fun a b => cI b fun b c => asNil c (.ret .ret [.int .i64 i153, .int .i64 a, .int .i64 b])) (sw a .normal (cI b fun a b => cI b fun b c => asNil c (.ret .normal [(.int .i64 (wi64 (i153 + 1))), .int .i64 a, .int .i64 b])) (.fail))
noncomputable def T48b0 (a48 : Addr) (a11 : Addr) (b7 : Bool) (i8 : Int) : List Value → Pg :=
 fun a => cI a fun a b => cI b fun b c => cI c fun c d => asNil d (.act (ld1 (aadd a48 4)) fun d => asSlice d fun _ d _ => bif (decide (a < (d:Int))) then (.join (.act (ld1 (aadd a48 4)) fun d => asSlice d fun d f _ => asSome d fun d => grd (decide (0 ≤ a) && decide (a < (f:Int))) (.act (ld1 (aadd d ((Int.toNat a) * 1))) fun d => asInt .i64 d fun d => bif (d != b) then (.ret .ret [.int .i64 b, (.int .i64 (-1))]) else (.join (.act (ldN 2 a11) fun c => asAgg c fun c => cL c fun c f g d => cL d fun d i j h => asNil h (bif b7 == false then (.act (ld1 (aadd a48 0)) fun h => asInt .i64 h fun h => bif (h == 11) == true then (.call 48 [(.agg #[.slice c f g, .slice d i j]), .int .i64 b, (.bool ((Int.tmod a 2) == 1)), (.int .i64 (wi64 (i8 + 1)))] fun a => asInt .i64 a fun a => .ret .normal [.int .i64 a]) else (.call 48 [(.agg #[.slice c f g, .slice d i j]), .int .i64 b, .bool false, (.int .i64 (wi64 (i8 + 1)))] fun a => asInt .i64 a fun a => .ret .normal [.int .i64 a])) else (.call 48 [(.agg #[.slice c f g, .slice d i j]), .int .i64 b, .bool true, (.int .i64 (wi64 (i8 + 1)))] fun a => asInt .i64 a fun a => .ret .normal [.int .i64 a]))) (T48k1 c)))) (T48k2 a)) else (.ret (.exit 0) [.int .i64 a, .int .i64 b, .int .i64 c]))
noncomputable def T48k3 (i226 : Int) : Ex → List Value → Pg :=
 fun a b => sw a .ret (cI b fun a b => asNil b (.ret .ret [.int .i64 i226, .int .i64 a])) (sw a .normal (cI b fun a b => asNil b (.ret .normal [(.int .i64 (wi64 (i226 + 2))), .int .i64 a])) (.fail))
noncomputable def T48b1 (a48 : Addr) (a11 : Addr) : List Value → Pg :=
 fun a => cI a fun a b => cI b fun b c => asNil c (.act (ld1 (aadd a48 4)) fun c => asSlice c fun _ c _ => bif (decide (a < (c:Int))) then (.join (.act (ldN 2 a11) fun c => asAgg c fun c => cL c fun c f g d => cL d fun d i j h => asNil h (.act (ld1 (aadd a48 4)) fun h => asSlice h fun h k _ => asSome h fun h => grd (decide (0 ≤ a) && decide (a < (k:Int))) (.act (ld1 (aadd h ((Int.toNat a) * 1))) fun a => asInt .i64 a fun a => .call 80 [(.agg #[.slice c f g, .slice d i j]), .int .i64 a] fun a => asSlice a fun a c d => .call 76 [.slice a c d] fun a => asBool a fun a => bif a then (.ret .ret [(.int .i64 (-1))]) else (.ret .normal [.int .i64 b])))) (T48k3 a)) else (.ret (.exit 2) [.int .i64 a, .int .i64 b]))
noncomputable def T48k4 : Ex → List Value → Pg :=
 fun a b => sw a (.exit 2) (cI b fun _ b => cI b fun a b => asNil b (.ret .normal [.int .i64 a])) (sw a .ret (cI b fun _ b => cI b fun a b => asNil b (.ret .ret [.int .i64 a])) (.fail))
noncomputable def T48k5 (i217 : Int) : Ex → List Value → Pg :=
 fun a b => sw a .ret (cI b fun a b => asNil b (.ret .ret [.int .i64 a])) (sw a .normal (cI b fun _ b => asNil b (.ret .ret [.int .i64 i217])) (.fail))
noncomputable def T48k6 (a48 : Addr) (a11 : Addr) : Ex → List Value → Pg :=
 fun a b => sw a (.exit 0) (cI b fun _ b => cI b fun a b => cI b fun b c => asNil c (.act (ld1 (aadd a48 0)) fun c => asInt .i64 c fun c => .join (bif (c == 11) then (.loop [.int .i64 1, .int .i64 b] (T48b1 a48 a11) (T48k4)) else (.ret .normal [.int .i64 b])) (T48k5 a))) (sw a .ret (cI b fun _ b => cI b fun _ b => cI b fun a b => asNil b (.ret .ret [.int .i64 a])) (.fail))
noncomputable def T48k7 (i6 : Int) (a48 : Addr) (a11 : Addr) (b7 : Bool) (i8 : Int) : Ex → List Value → Pg :=
 fun a b => sw a .ret (cI b fun a b => asNil b (.ret .ret [.int .i64 a])) (sw a .normal (cI b fun a b => asNil b (.loop [.int .i64 0, (.int .i64 (wi64 (i6 + 1))), .int .i64 a] (T48b0 a48 a11 b7 i8) (T48k6 a48 a11))) (.fail))
noncomputable def T48k8 (a11 : Addr) (a48 : Addr) (i6 : Int) (b7 : Bool) (i8 : Int) : Ex → List Value → Pg :=
 fun a b => sw a .normal (cB b fun a b => asNil b (.join (bif a then (.act (ldN 2 a11) fun a => asAgg a fun a => cL a fun a c d b => cL b fun b g h f => asNil f (.act (ld1 (aadd a48 2)) fun f => asStr f fun f => .call 79 [(.agg #[.slice a c d, .slice b g h]), .string f] fun a => asTuple a fun a => cI a fun a b => cI b fun b c => cB c fun c d => asNil d (.join (bif (!c) == false then (.act (ld1 (aadd a11 1)) fun c => asSlice c fun c d _ => asSome c fun c => grd (decide (0 ≤ a) && decide (a < (d:Int))) (.act (ld1 (aadd (aadd c ((Int.toNat a) * 2)) 1)) fun a => asSlice a fun a c _ => asSome a fun a => grd (decide (0 ≤ b) && decide (b < (c:Int))) (.act (ld1 (aadd (aadd a ((Int.toNat b) * 2)) 1)) fun a => asSlice a fun _ a _ => .act (ld1 (aadd a48 4)) fun b => asSlice b fun _ b _ => .ret .normal [(.bool ((a:Int) != (b:Int)))]))) else (.ret .normal [.bool true])) (T48k0)))) else (.ret .normal [.int .i64 0])) (T48k7 i6 a48 a11 b7 i8))) (.fail)
noncomputable def T48k9 (a48 : Addr) (a11 : Addr) (i6 : Int) (b7 : Bool) (i8 : Int) : Ex → List Value → Pg :=
 fun a b => sw a .normal (cB b fun a b => asNil b (bif a then (.ret .ret [(.int .i64 (-1))]) else (.join (.act (ld1 (aadd a48 0)) fun a => asInt .i64 a fun a => bif (a == 5) == false then (.act (ld1 (aadd a48 0)) fun a => asInt .i64 a fun a => .ret .normal [(.bool (a == 26))]) else (.ret .normal [.bool true])) (T48k8 a11 a48 i6 b7 i8)))) (.fail)
noncomputable def T48 (p0 : Option Addr) (n1 : Nat) (n2 : Nat) (p3 : Option Addr) (n4 : Nat) (n5 : Nat) (i6 : Int) (b7 : Bool) (i8 : Int) : Pg :=
 .act (newC [.slice p0 n1 n2, .slice p3 n4 n5]) fun a => asPtr a fun a => asSome a fun a => .act (ld1 (aadd a 0)) fun b => asSlice b fun _ b _ => bif ((decide (i6 ≥ (b:Int))) || (decide (i8 > 60))) then (.ret .ret [(.int .i64 (-1))]) else (.act (ld1 (aadd a 0)) fun b => asSlice b fun b c _ => asSome b fun b => grd (decide (0 ≤ i6) && decide (i6 < (c:Int))) (.act (ldN 7 (aadd b ((Int.toNat i6) * 7))) fun b => asAgg b fun b => cI b fun b c => cI c fun c d => cS d fun d f => cS f fun f g => cL g fun g i j h => cI h fun h k => cI k fun k l => asNil l (.act (newC [.int .i64 0, .int .i64 0, (.string (bs [])), (.string (bs [])), .slice none 0 0, .int .i64 0, .int .i64 0]) fun l => asPtr l fun l => asSome l fun l => .act (stC l [.int .i64 b, .int .i64 c, .string d, .string f, .slice g i j, .int .i64 h, .int .i64 k]) fun b => asTuple b fun b => asNil b (.join (.act (ldN 7 l) fun a => asAgg a fun a => cI a fun a b => cI b fun b c => cS c fun c d => cS d fun d f => cL f fun f h i g => cI g fun g j => cI j fun j k => asNil k (.call 78 [(.agg #[.int .i64 a, .int .i64 b, .string c, .string d, .slice f h i, .int .i64 g, .int .i64 j])] fun a => asBool a fun a => bif (!a) == false then (.act (ld1 (aadd l 0)) fun a => asInt .i64 a fun a => .ret .normal [(.bool (!((decide (a > 20)) == b7)))]) else (.ret .normal [.bool true]))) (T48k9 l a i6 b7 i8)))))
theorem T48_eq (p0 : Option Addr) (n1 : Nat) (n2 : Nat) (p3 : Option Addr) (n4 : Nat) (n5 : Nat) (i6 : Int) (b7 : Bool) (i8 : Int) : progOf PROG false 48 [(.agg #[(.slice p0 n1 n2), (.slice p3 n4 n5)]), (.int .i64 i6), (.bool b7), (.int .i64 i8)] = T48 p0 n1 n2 p3 n4 n5 i6 b7 i8 := by kernel_rfl
noncomputable def T55k0 : Ex → List Value → Pg :=
 fun a b => sw a .normal (cB b fun a b => asNil b (.ret .ret [.bool a])) (.fail)
noncomputable def T55 (s0 : ByteArray) : Pg :=
 .join (bif (!(s0.toList == (bs [95]).toList)) == true then (.call 82 [.string s0, .int .i64 2] fun a => asBool a fun a => .ret .normal [.bool a]) else (.ret .normal [.bool false])) (T55k0)
theorem T55_eq (s0 : ByteArray) : progOf PROG false 55 [(.string s0)] = T55 s0 := by kernel_rfl
noncomputable def T56 (s0 : ByteArray) : Pg :=
 .ret .ret [(.bool (((s0.toList == (bs [105, 110, 116]).toList) || (s0.toList == (bs [98, 111, 111, 108]).toList)) || (s0.toList == (bs [117, 110, 105, 116]).toList)))]
theorem T56_eq (s0 : ByteArray) : progOf PROG false 56 [(.string s0)] = T56 s0 := by kernel_rfl
noncomputable def T57 (s0 : ByteArray) : Pg :=
 .call 82 [.string s0, .int .i64 3] fun a => asBool a fun a => .ret .ret [.bool a]
theorem T57_eq (s0 : ByteArray) : progOf PROG false 57 [(.string s0)] = T57 s0 := by kernel_rfl
noncomputable def T58k0 : Ex → List Value → Pg :=
 fun a b => sw a .normal (cB b fun a b => asNil b (.ret .ret [.bool a])) (.fail)
noncomputable def T58 (s0 : ByteArray) (a1 : Addr) : Pg :=
 .join (.call 56 [.string s0] fun a => asBool a fun a => bif a == false then (.act (ld1 a1) fun a => asSlice a fun a b c => .call 59 [.slice a b c, .string s0] fun a => asBool a fun a => .ret .normal [.bool a]) else (.ret .normal [.bool true])) (T58k0)
theorem T58_eq (s0 : ByteArray) (a1 : Addr) : progOf PROG false 58 [(.string s0), (.pointer (some a1))] = T58 s0 a1 := by kernel_rfl
noncomputable def T59 (p0 : Option Addr) (n1 : Nat) (n2 : Nat) (s3 : ByteArray) : Pg :=
 .call 83 [.slice p0 n1 n2, .string s3] fun a => asInt .i64 a fun a => .ret .ret [(.bool (decide (a ≥ 0)))]
theorem T59_eq (p0 : Option Addr) (n1 : Nat) (n2 : Nat) (s3 : ByteArray) : progOf PROG false 59 [(.slice p0 n1 n2), (.string s3)] = T59 p0 n1 n2 s3 := by kernel_rfl
noncomputable def T60 (s0 : ByteArray) (a1 : Addr) : Pg :=
 .act (ld1 a1) fun a => asFunc a fun a b c => .call a (b ++ [.string s0] ++ c) fun a => asBool a fun a => .ret .ret [(.bool (!a))]
theorem T60_eq (s0 : ByteArray) (a1 : Addr) : progOf PROG false 60 [(.string s0), (.pointer (some a1))] = T60 s0 a1 := by kernel_rfl
noncomputable def T61 (p0 : Option Addr) (n1 : Nat) (n2 : Nat) (v3 : Value) : Pg :=
 .call 84 [.slice p0 n1 n2, v3] fun a => asInt .i64 a fun a => .ret .ret [(.bool (decide (a ≥ 0)))]
theorem T61_eq (p0 : Option Addr) (n1 : Nat) (n2 : Nat) (v3 : Value) : progOf PROG false 61 [(.slice p0 n1 n2), v3] = T61 p0 n1 n2 v3 := by kernel_rfl
noncomputable def T62k0 : Ex → List Value → Pg :=
 fun a b => sw a .normal (cB b fun a b => asNil b (.ret .ret [.bool a])) (.fail)
noncomputable def T62k1 (a17 : Addr) (a20 : Addr) : Ex → List Value → Pg :=
 fun a b => sw a .normal (cB b fun a b => asNil b (bif a then (.ret .ret [.bool true]) else (.act (ldN 2 a17) fun a => asAgg a fun a => cL a fun a c d b => cL b fun b g h f => asNil f (.act (ld1 (aadd a20 2)) fun f => asStr f fun f => .call 30 [(.agg #[.slice a c d, .slice b g h]), .string f] fun a => asTuple a fun a => cI a fun a b => cI b fun b c => cB c fun c d => asNil d (.join (bif c == true then (.act (ld1 (aadd a17 1)) fun c => asSlice c fun c d _ => asSome c fun c => grd (decide (0 ≤ a) && decide (a < (d:Int))) (.act (ld1 (aadd (aadd c ((Int.toNat a) * 2)) 1)) fun a => asSlice a fun a c _ => asSome a fun a => grd (decide (0 ≤ b) && decide (b < (c:Int))) (.act (ld1 (aadd (aadd a ((Int.toNat b) * 2)) 1)) fun a => asSlice a fun _ a _ => .act (ld1 (aadd a20 4)) fun b => asSlice b fun _ b _ => .ret .normal [(.bool ((a:Int) == (b:Int)))]))) else (.ret .normal [.bool false])) (T62k0)))))) (.fail)
noncomputable def T62k2 (a20 : Addr) (a17 : Addr) : Ex → List Value → Pg :=
 fun a b => sw a .normal (cB b fun a b => asNil b (bif a then (.ret .ret [.bool false]) else (.join (.act (ld1 (aadd a20 0)) fun a => asInt .i64 a fun a => bif (a != 5) == true then (.act (ld1 (aadd a20 0)) fun a => asInt .i64 a fun a => .ret .normal [(.bool (a != 26))]) else (.ret .normal [.bool false])) (T62k1 a17 a20)))) (.fail)
noncomputable def T62k3 (a20 : Addr) (a17 : Addr) : Ex → List Value → Pg :=
 fun a b => sw a .normal (cB b fun a b => asNil b (bif a then (.ret .ret [.bool false]) else (.act (ld1 (aadd a20 0)) fun a => asInt .i64 a fun a => .call 87 [.int .i64 a] fun a => asTuple a fun a => cI a fun a b => cI b fun b c => asNil c (.join (.act (ld1 (aadd a20 4)) fun c => asSlice c fun _ c _ => bif (decide ((c:Int) < a)) == false then (.act (ld1 (aadd a20 4)) fun a => asSlice a fun _ a _ => bif (decide ((a:Int) > b)) == false then (.act (ld1 (aadd a20 0)) fun a => asInt .i64 a fun a => bif (a == 11) == true then (.act (ld1 (aadd a20 4)) fun a => asSlice a fun _ a _ => .call 36 [(.int .i64 (a:Int))] fun a => asBool a fun a => .ret .normal [(.bool (!a))]) else (.ret .normal [.bool false])) else (.ret .normal [.bool true])) else (.ret .normal [.bool true])) (T62k2 a20 a17))))) (.fail)
noncomputable def T62 (p0 : Option Addr) (n1 : Nat) (n2 : Nat) (p3 : Option Addr) (n4 : Nat) (n5 : Nat) (i6 : Int) (i7 : Int) (s8 : ByteArray) (s9 : ByteArray) (p10 : Option Addr) (n11 : Nat) (n12 : Nat) (i13 : Int) (i14 : Int) : Pg :=
 .act (newC [.slice p0 n1 n2, .slice p3 n4 n5]) fun a => asPtr a fun a => asSome a fun a => .act (newC [.int .i64 i6, .int .i64 i7, .string s8, .string s9, .slice p10 n11 n12, .int .i64 i13, .int .i64 i14]) fun b => asPtr b fun b => asSome b fun b => .join (.act (ld1 (aadd b 0)) fun a => asInt .i64 a fun a => bif (decide (a < 1)) == false then (.act (ld1 (aadd b 0)) fun a => asInt .i64 a fun a => bif (decide (a > 26)) == false then (.act (ldN 7 b) fun a => asAgg a fun a => cI a fun a c => cI c fun c d => cS d fun d f => cS f fun f g => cL g fun g i j h => cI h fun h k => cI k fun k l => asNil l (.call 85 [(.agg #[.int .i64 a, .int .i64 c, .string d, .string f, .slice g i j, .int .i64 h, .int .i64 k])] fun a => asBool a fun a => bif (!a) == false then (.act (ldN 7 b) fun a => asAgg a fun a => cI a fun a b => cI b fun b c => cS c fun c d => cS d fun d f => cL f fun f h i g => cI g fun g j => cI j fun j k => asNil k (.call 86 [(.agg #[.int .i64 a, .int .i64 b, .string c, .string d, .slice f h i, .int .i64 g, .int .i64 j])] fun a => asBool a fun a => .ret .normal [(.bool (!a))])) else (.ret .normal [.bool true]))) else (.ret .normal [.bool true])) else (.ret .normal [.bool true])) (T62k3 b a)
theorem T62_eq (p0 : Option Addr) (n1 : Nat) (n2 : Nat) (p3 : Option Addr) (n4 : Nat) (n5 : Nat) (i6 : Int) (i7 : Int) (s8 : ByteArray) (s9 : ByteArray) (p10 : Option Addr) (n11 : Nat) (n12 : Nat) (i13 : Int) (i14 : Int) : progOf PROG false 62 [(.agg #[(.slice p0 n1 n2), (.slice p3 n4 n5)]), (.agg #[(.int .i64 i6), (.int .i64 i7), (.string s8), (.string s9), (.slice p10 n11 n12), (.int .i64 i13), (.int .i64 i14)])] = T62 p0 n1 n2 p3 n4 n5 i6 i7 s8 s9 p10 n11 n12 i13 i14 := by kernel_rfl
noncomputable def T63k0 (a4 : Addr) (p0 : Option Addr) (i1 : Int) : Ex → List Value → Pg :=
 fun a b => sw a .normal (cB b fun a b => asNil b (bif a then (.act (stC a4 [.int .i64 21, .int .i64 0, (.string (bs [])), (.string (bs [])), .slice none 0 0, .int .i64 0, .int .i64 0]) fun a => asTuple a fun a => asNil a (.act (ldN 7 a4) fun a => .ret .ret [a])) else (asSome p0 fun a => .act (ld1 (aadd (aadd a 0) 0)) fun a => asSlice a fun a b _ => asSome a fun a => grd (decide (0 ≤ i1) && decide (i1 < (b:Int))) (.act (ldN 7 (aadd a ((Int.toNat i1) * 7))) fun a => asAgg a fun a => cI a fun a b => cI b fun b c => cS c fun c d => cS d fun d f => cL f fun f h i g => cI g fun g j => cI j fun j k => asNil k (.act (stC a4 [.int .i64 a, .int .i64 b, .string c, .string d, .slice f h i, .int .i64 g, .int .i64 j]) fun a => asTuple a fun a => asNil a (.act (ldN 7 a4) fun a => .ret .ret [a])))))) (.fail)
noncomputable def T63 (p0 : Option Addr) (i1 : Int) : Pg :=
 .act (newC [.int .i64 0, .int .i64 0, (.string (bs [])), (.string (bs [])), .slice none 0 0, .int .i64 0, .int .i64 0]) fun a => asPtr a fun a => asSome a fun a => .join (bif (decide (i1 < 0)) == false then (asSome p0 fun a => .act (ld1 (aadd (aadd a 0) 0)) fun a => asSlice a fun _ a _ => bif (decide (i1 ≥ (a:Int))) == false then (asSome p0 fun a => .act (ld1 (aadd (aadd a 0) 0)) fun a => asSlice a fun a b _ => asSome a fun a => grd (decide (0 ≤ i1) && decide (i1 < (b:Int))) (.act (ld1 (aadd (aadd a ((Int.toNat i1) * 7)) 0)) fun a => asInt .i64 a fun a => .call 33 [.int .i64 a] fun a => asBool a fun a => .ret .normal [(.bool (!a))])) else (.ret .normal [.bool true])) else (.ret .normal [.bool true])) (T63k0 a p0 i1)
theorem T63_eq (p0 : Option Addr) (i1 : Int) : progOf PROG false 63 [(.pointer p0), (.int .i64 i1)] = T63 p0 i1 := by kernel_rfl
noncomputable def T64 (p0 : Option Addr) (i1 : Int) (i2 : Int) (s3 : ByteArray) : Pg :=
 .act (newC [.int .i64 i1, .int .i64 i2, .string s3]) fun a => asPtr a fun a => asSome a fun a => .act (ld1 (aadd a 0)) fun b => asInt .i64 b fun b => bif (b != 26) then (.ret .ret [.int .i64 0]) else (asSome p0 fun b => .act (ldN 2 (aadd b 0)) fun b => asAgg b fun b => cL b fun b d f c => cL c fun c h i g => asNil g (.act (ld1 (aadd a 2)) fun a => asStr a fun a => .call 30 [(.agg #[.slice b d f, .slice c h i]), .string a] fun a => asTuple a fun a => cI a fun a b => cI b fun b c => cB c fun c d => asNil d (bif (!c) then (.ret .ret [.int .i64 0]) else (asSome p0 fun c => .act (ld1 (aadd (aadd c 0) 1)) fun c => asSlice c fun c d _ => asSome c fun c => grd (decide (0 ≤ a) && decide (a < (d:Int))) (.act (ld1 (aadd (aadd c ((Int.toNat a) * 2)) 1)) fun a => asSlice a fun a c _ => asSome a fun a => grd (decide (0 ≤ b) && decide (b < (c:Int))) (.act (ld1 (aadd (aadd a ((Int.toNat b) * 2)) 1)) fun a => asSlice a fun _ a _ => .ret .ret [(.int .i64 (a:Int))]))))))
theorem T64_eq (p0 : Option Addr) (i1 : Int) (i2 : Int) (s3 : ByteArray) : progOf PROG false 64 [(.pointer p0), (.agg #[(.int .i64 i1), (.int .i64 i2), (.string s3)])] = T64 p0 i1 i2 s3 := by kernel_rfl
noncomputable def T65k0 (i7 : Int) (i15 : Int) (i10 : Int) : Ex → List Value → Pg :=
 fun a b => sw a .normal (asCons b fun a b => asInt .i32 a fun a => asNil b (bif (i7 == 1) then (.ret (.exit 0) [.int .i64 i7, .int .i64 i15, .int .i32 a]) else (.ret .normal [(.int .i64 (wi64 (i7 + 1))), .int .i64 i10, .int .i32 a]))) (.fail)
noncomputable def T65k1 : Ex → List Value → Pg :=
 fun a b => sw a (.exit 0) (cI b fun a b => cI b fun b c => asCons c fun c d => asInt .i32 c fun c => asNil d (.ret (.exit 0) [.int .i64 a, .int .i64 b, .int .i32 c])) (sw a .normal (cI b fun a b => cI b fun b c => asCons c fun c d => asInt .i32 c fun c => asNil d (.ret .normal [.int .i64 a, .int .i64 b, .int .i32 c])) (.fail))
noncomputable def T65b0 (a3 : Addr) : List Value → Pg :=
 fun a => cI a fun a b => cI b fun b c => asCons c fun c d => asInt .i32 c fun c => asNil d (.act (nxt (some a3)) fun d => asNx d (fun d f => .join (.join (bif (a == 0) then (.ret .normal [.int .i32 f]) else (.ret .normal [.int .i32 c])) (T65k0 a d b)) (T65k1)) (.ret (.exit 0) [.int .i64 a, .int .i64 b, .int .i32 c]))
noncomputable def T65k2 : Ex → List Value → Pg :=
 fun a b => sw a (.exit 0) (cI b fun _ b => cI b fun a b => asCons b fun b c => asInt .i32 b fun b => asNil c (.ret .ret [(.tuple #[.int .i32 b, .int .i64 a])])) (.fail)
noncomputable def T65 (s0 : ByteArray) : Pg :=
 .act (rng s0) fun a => asPtr a fun a => asSome a fun a => .loop [.int .i64 0, (.int .i64 ((s0.size : Nat) : Int)), .int .i32 0] (T65b0 a) (T65k2)
theorem T65_eq (s0 : ByteArray) : progOf PROG false 65 [(.string s0)] = T65 s0 := by kernel_rfl
noncomputable def T66k0 (i0 : Int) : Ex → List Value → Pg :=
 fun a b => sw a .normal (cB b fun a b => asNil b (bif a then (.ret .ret [.int .i64 1]) else (bif ((decide (i0 ≥ 48)) && (decide (i0 ≤ 57))) then (.ret .ret [.int .i64 2]) else (bif ((((i0 == 32) || (i0 == 9)) || (i0 == 10)) || (i0 == 13)) then (.ret .ret [.int .i64 3]) else (.ret .normal [.int .i64 0]))))) (.fail)
noncomputable def T66k1 (i19 : Int) : Ex → List Value → Pg :=
 fun a b => sw a .ret (cI b fun a b => asNil b (.ret .ret [.int .i64 i19, .int .i64 a])) (sw a .normal (cI b fun a b => asNil b (.ret .normal [(.int .i64 (wi64 (i19 + 1))), .int .i64 a])) (.fail))
noncomputable def T66b0 (i0 : Int) : List Value → Pg :=
 fun a => cI a fun a b => cI b fun b c => asNil c (bif (decide (a < 13)) then (.join (grd ((decide (0 ≤ a)) && (decide (a < 13))) (bif (i0 == (wi32 (byteAt (bs [40, 41, 44, 59, 61, 60, 62, 43, 45, 42, 124, 33, 58]) (Int.toNat a)))) then (.ret .ret [.int .i64 4]) else (.ret .normal [.int .i64 b]))) (T66k1 a)) else (.ret (.exit 1) [.int .i64 a, .int .i64 b]))
noncomputable def T66k2 : Ex → List Value → Pg :=
 fun a b => sw a (.exit 1) (cI b fun _ b => cI b fun _ b => asNil b (.ret .ret [.int .i64 0])) (sw a .ret (cI b fun _ b => cI b fun a b => asNil b (.ret .ret [.int .i64 a])) (.fail))
noncomputable def T66k3 (i0 : Int) : Ex → List Value → Pg :=
 fun a b => sw a .ret (cI b fun a b => asNil b (.ret .ret [.int .i64 a])) (sw a .normal (cI b fun a b => asNil b (.loop [.int .i64 0, .int .i64 a] (T66b0 i0) (T66k2))) (.fail))
noncomputable def T66 (i0 : Int) : Pg :=
 .join (.join (bif ((i0 == 95) || (i0 == 39)) == false then (.call 88 [.int .i32 i0] fun a => asBool a fun a => .ret .normal [.bool a]) else (.ret .normal [.bool true])) (T66k0 i0)) (T66k3 i0)
theorem T66_eq (i0 : Int) : progOf PROG false 66 [(.int .i32 i0)] = T66 i0 := by kernel_rfl
noncomputable def T67k0 : Ex → List Value → Pg :=
 fun a b => sw a .ret (cI b fun a b => cI b fun b c => cI c fun c d => asNil d (.ret .ret [.int .i64 a, .int .i64 b, .int .i64 c])) (sw a .normal (cI b fun a b => cI b fun b c => cI c fun c d => asNil d (.ret .normal [.int .i64 a, .int .i64 b, .int .i64 c])) (.fail))
noncomputable def T67k1 (i11 : Int) (i8 : Int) (i5 : Int) : Ex → List Value → Pg :=
 fun a b => sw a .normal (cB b fun a b => asNil b (.join (bif a then (bif ((wi64 (i11 - 1)) == 0) then (.ret .ret [(.int .i64 (wi64 (i8 + 2))), (.int .i64 (wi64 (i8 + 2))), (.int .i64 (wi64 (i11 - 1)))]) else (.ret .normal [.int .i64 i5, (.int .i64 (wi64 (i8 + 2))), (.int .i64 (wi64 (i11 - 1)))])) else (.ret .normal [.int .i64 i5, (.int .i64 (wi64 (i8 + 1))), .int .i64 i11])) (T67k0))) (.fail)
noncomputable def T67k2 : Ex → List Value → Pg :=
 fun a b => sw a .normal (cI b fun a b => cI b fun b c => cI c fun c d => asNil d (.ret .normal [.int .i64 a, .int .i64 b, .int .i64 c])) (sw a .ret (cI b fun a b => cI b fun b c => cI c fun c d => asNil d (.ret .ret [.int .i64 a, .int .i64 b, .int .i64 c])) (.fail))
noncomputable def T67k3 (i5 : Int) (i8 : Int) (i11 : Int) (s0 : ByteArray) : Ex → List Value → Pg :=
 fun a b => sw a .normal (cB b fun a b => asNil b (.join (bif a then (.ret .normal [.int .i64 i5, (.int .i64 (wi64 (i8 + 2))), (.int .i64 (wi64 (i11 + 1)))]) else (.join (bif (decide ((wi64 (i8 + 1)) < ((s0.size : Nat) : Int))) == true then (grd ((decide (0 ≤ i8)) && (decide (i8 < ((s0.size : Nat) : Int)))) (bif ((byteAt s0 (Int.toNat i8)) == 42) == true then (grd ((decide (0 ≤ (wi64 (i8 + 1)))) && (decide ((wi64 (i8 + 1)) < ((s0.size : Nat) : Int)))) (.ret .normal [(.bool ((byteAt s0 (Int.toNat (wi64 (i8 + 1)))) == 41))])) else (.ret .normal [.bool false]))) else (.ret .normal [.bool false])) (T67k1 i11 i8 i5))) (T67k2))) (.fail)
noncomputable def T67k4 : Ex → List Value → Pg :=
 fun a b => sw a .normal (cI b fun a b => cI b fun b c => cI c fun c d => asNil d (.ret .normal [.int .i64 a, .int .i64 b, .int .i64 c])) (sw a .ret (cI b fun a b => cI b fun b c => cI c fun c d => asNil d (.ret .ret [.int .i64 a, .int .i64 b, .int .i64 c])) (.fail))
noncomputable def T67k5 : Ex → List Value → Pg :=
 fun a b => sw a .normal (cI b fun a b => cI b fun b c => cI c fun c d => asNil d (.ret .normal [.int .i64 a, .int .i64 b, .int .i64 c])) (sw a .ret (cI b fun a b => cI b fun b c => cI c fun c d => asNil d (.ret .ret [.int .i64 a, .int .i64 b, .int .i64 c])) (.fail))
noncomputable def T67b0 (s0 : ByteArray) : List Value → Pg :=
 fun a => cI a fun a b => cI b fun b c => cI c fun c d => asNil d (bif (decide (b < ((s0.size : Nat) : Int))) then (.join (.join (.join (bif (decide ((wi64 (b + 1)) < ((s0.size : Nat) : Int))) == true then (grd ((decide (0 ≤ b)) && (decide (b < ((s0.size : Nat) : Int)))) (bif ((byteAt s0 (Int.toNat b)) == 40) == true then (grd ((decide (0 ≤ (wi64 (b + 1)))) && (decide ((wi64 (b + 1)) < ((s0.size : Nat) : Int)))) (.ret .normal [(.bool ((byteAt s0 (Int.toNat (wi64 (b + 1)))) == 42))])) else (.ret .normal [.bool false]))) else (.ret .normal [.bool false])) (T67k3 a b c s0)) (T67k4)) (T67k5)) else (.ret (.exit 0) [.int .i64 a, .int .i64 b, .int .i64 c]))
noncomputable def T67k6 : Ex → List Value → Pg :=
 fun a b => sw a (.exit 0) (cI b fun _ b => cI b fun _ b => cI b fun _ b => asNil b (.ret .ret [(.int .i64 (-1))])) (sw a .ret (cI b fun a b => cI b fun _ c => cI c fun _ c => asNil c (.ret .ret [.int .i64 a])) (.fail))
noncomputable def T67 (s0 : ByteArray) (i1 : Int) : Pg :=
 .loop [.int .i64 0, .int .i64 i1, .int .i64 0] (T67b0 s0) (T67k6)
theorem T67_eq (s0 : ByteArray) (i1 : Int) : progOf PROG false 67 [(.string s0), (.int .i64 i1)] = T67 s0 i1 := by kernel_rfl
noncomputable def T68k0 : Ex → List Value → Pg :=
 fun a b => sw a .normal (asNil b (.ret .normal [])) (.fail)
noncomputable def T68k1 : Ex → List Value → Pg :=
 fun a b => sw a .normal (asNil b (.ret .normal [])) (.fail)
noncomputable def T68k2 (a15 : Addr) (a4 : Addr) : Ex → List Value → Pg :=
 fun a b => sw a .normal (asNil b (.act (ldN 4 a15) fun a => asAgg a fun a => cI a fun a b => cS b fun b c => cI c fun c d => cI d fun d f => asNil f (.act (stC a4 [.int .i64 a, .string b, .int .i64 c, .int .i64 d]) fun a => asTuple a fun a => asNil a (.ret .ret [.bool true])))) (.fail)
noncomputable def T68k3 (a15 : Addr) : Ex → List Value → Pg :=
 fun a b => sw a .ret (asCons b fun a b => asInt .u64 a fun a => cB b fun b c => asNil c (.ret .ret [.int .u64 a, .bool b])) (sw a .normal (asCons b fun a b => asInt .u64 a fun a => cB b fun b c => asNil c (.act (ld1 (aadd a15 3)) fun c => asInt .i64 c fun c => .act (stC (aadd a15 3) [(.int .i64 (wi64 (c + 1)))]) fun c => asTuple c fun c => asNil c (.ret .normal [.int .u64 a, .bool b]))) (.fail))
noncomputable def T68k4 (i83 : Int) (a15 : Addr) (a4 : Addr) (s0 : ByteArray) (b86 : Bool) : Ex → List Value → Pg :=
 fun a b => sw a .normal (cB b fun a b => asNil b (bif a then (.join (bif (decide (i83 > 461168601842738790)) then (.act (ldN 4 a15) fun a => asAgg a fun a => cI a fun a b => cS b fun b c => cI c fun c d => cI d fun d f => asNil f (.act (stC a4 [.int .i64 a, .string b, .int .i64 c, .int .i64 d]) fun a => asTuple a fun a => asNil a (.ret .ret [.int .u64 i83, .bool false]))) else (.act (ld1 (aadd a15 3)) fun a => asInt .i64 a fun a => grd ((decide (0 ≤ a)) && (decide (a < ((s0.size : Nat) : Int)))) (bif (decide ((wu64 ((wu64 (i83 * 10)) + (wu64 (wu8 ((byteAt s0 (Int.toNat a)) - 48))))) > 4611686018427387903)) then (.act (ldN 4 a15) fun b => asAgg b fun b => cI b fun b c => cS c fun c d => cI d fun d f => cI f fun f g => asNil g (.act (stC a4 [.int .i64 b, .string c, .int .i64 d, .int .i64 f]) fun b => asTuple b fun b => asNil b (.ret .ret [(.int .u64 (wu64 ((wu64 (i83 * 10)) + (wu64 (wu8 ((byteAt s0 (Int.toNat a)) - 48)))))), .bool false]))) else (.ret .normal [(.int .u64 (wu64 ((wu64 (i83 * 10)) + (wu64 (wu8 ((byteAt s0 (Int.toNat a)) - 48)))))), .bool b86])))) (T68k3 a15)) else (.ret (.exit 2) [.int .u64 i83, .bool b86]))) (.fail)
noncomputable def T68b0 (a15 : Addr) (s0 : ByteArray) (a4 : Addr) : List Value → Pg :=
 fun a => asCons a fun a b => asInt .u64 a fun a => cB b fun b c => asNil c (.join (.act (ld1 (aadd a15 3)) fun a => asInt .i64 a fun a => bif (decide (a < ((s0.size : Nat) : Int))) == true then (.act (ld1 (aadd a15 3)) fun a => asInt .i64 a fun a => grd ((decide (0 ≤ a)) && (decide (a < ((s0.size : Nat) : Int)))) (bif (decide ((byteAt s0 (Int.toNat a)) ≥ 48)) == true then (.act (ld1 (aadd a15 3)) fun a => asInt .i64 a fun a => grd ((decide (0 ≤ a)) && (decide (a < ((s0.size : Nat) : Int)))) (.ret .normal [(.bool (decide ((byteAt s0 (Int.toNat a)) ≤ 57)))])) else (.ret .normal [.bool false]))) else (.ret .normal [.bool false])) (T68k4 a a15 a4 s0 b))
noncomputable def T68k5 (a15 : Addr) (i1 : Int) (s0 : ByteArray) (a4 : Addr) : Ex → List Value → Pg :=
 fun a b => sw a (.exit 2) (asCons b fun a b => asInt .u64 a fun _ => cB b fun _ b => asNil b (.act (ld1 (aadd a15 3)) fun a => asInt .i64 a fun a => grd (((decide (0 ≤ i1)) && (decide (i1 ≤ a))) && (decide (a ≤ ((s0.size : Nat) : Int)))) (.act (stC (aadd a15 0) [.int .i64 1]) fun b => asTuple b fun b => asNil b (.act (stC (aadd a15 1) [(.string (s0.extract (Int.toNat i1) (Int.toNat a)))]) fun a => asTuple a fun a => asNil a (.act (ldN 4 a15) fun a => asAgg a fun a => cI a fun a b => cS b fun b c => cI c fun c d => cI d fun d f => asNil f (.act (stC a4 [.int .i64 a, .string b, .int .i64 c, .int .i64 d]) fun a => asTuple a fun a => asNil a (.ret .ret [.bool true]))))))) (sw a .ret (asCons b fun a b => asInt .u64 a fun _ => cB b fun a b => asNil b (.ret .ret [.bool a])) (.fail))
noncomputable def T68k6 : Ex → List Value → Pg :=
 fun a b => sw a .normal (cB b fun a b => asNil b (.ret .ret [.bool a])) (.fail)
noncomputable def T68k7 (a15 : Addr) (i1 : Int) (s0 : ByteArray) (a4 : Addr) : Ex → List Value → Pg :=
 fun a b => sw a .normal (asNil b (.act (ld1 (aadd a15 3)) fun a => asInt .i64 a fun a => grd (((decide (0 ≤ i1)) && (decide (i1 ≤ a))) && (decide (a ≤ ((s0.size : Nat) : Int)))) (.act (stC (aadd a15 1) [(.string (s0.extract (Int.toNat i1) (Int.toNat a)))]) fun a => asTuple a fun a => asNil a (.join (.act (ldN 4 a15) fun a => asAgg a fun a => cI a fun a b => cS b fun b c => cI c fun c d => cI d fun d f => asNil f (.act (ld1 (aadd a15 1)) fun f => asStr f fun f => bif (!(f.toList == (bs [62]).toList)) == true then (.act (ld1 (aadd a15 1)) fun f => asStr f fun g => .act (stC a4 [.int .i64 a, .string b, .int .i64 c, .int .i64 d]) fun a => asTuple a fun a => asNil a (.get fun a => grd (chks [((ld1 (aadd a15 1)), f)] a) (.ret .normal [(.bool (!(g.toList == (bs [58]).toList)))]))) else (.act (stC a4 [.int .i64 a, .string b, .int .i64 c, .int .i64 d]) fun a => asTuple a fun a => asNil a (.ret .normal [.bool false])))) (T68k6))))) (.fail)
noncomputable def T68k8 (a15 : Addr) (i1 : Int) (s0 : ByteArray) (a4 : Addr) : Ex → List Value → Pg :=
 fun a b => sw a .normal (cB b fun a b => asNil b (.join (bif a then (.act (stC (aadd a15 3) [(.int .i64 (wi64 (i1 + 2)))]) fun a => asTuple a fun a => asNil a (.ret .normal [])) else (.ret .normal [])) (T68k7 a15 i1 s0 a4))) (.fail)
noncomputable def T68k9 (a4 : Addr) (a15 : Addr) : Ex → List Value → Pg :=
 fun a b => sw a .ret (cB b fun a b => asNil b (.act (ldN 4 a4) fun b => .ret .ret [(.tuple #[b, .bool a])])) (sw a .normal (cB b fun _ b => asNil b (.act (ldN 4 a15) fun a => asAgg a fun a => cI a fun a b => cS b fun b c => cI c fun c d => cI d fun d f => asNil f (.act (stC a4 [.int .i64 a, .string b, .int .i64 c, .int .i64 d]) fun a => asTuple a fun a => asNil a (.act (ldN 4 a4) fun a => .ret .ret [(.tuple #[a, .bool false])])))) (.fail))
noncomputable def T68 (s0 : ByteArray) (i1 : Int) : Pg :=
 .act (newC [.int .i64 0, (.string (bs [])), .int .i64 0, .int .i64 0]) fun a => asPtr a fun a => asSome a fun a => grd (((decide (0 ≤ i1)) && (decide (i1 ≤ ((s0.size : Nat) : Int)))) && (decide (((s0.size : Nat) : Int) ≤ ((s0.size : Nat) : Int)))) (.call 65 [(.string (s0.extract (Int.toNat i1) s0.size))] fun b => asTuple b fun b => asCons b fun b c => asInt .i32 b fun b => cI c fun c d => asNil d (.act (newC [.int .i64 0, (.string (bs [])), .int .i64 0, .int .i64 0]) fun d => asPtr d fun d => asSome d fun d => .act (stC d [.int .i64 0, (.string (bs [])), .int .i64 i1, (.int .i64 (wi64 (i1 + c)))]) fun c => asTuple c fun c => asNil c (.call 66 [.int .i32 b] fun c => asInt .i64 c fun c => .join (bif (c == 1) then (bif (b == 39) then (.act (ldN 4 d) fun b => asAgg b fun b => cI b fun b c => cS c fun c d => cI d fun d f => cI f fun f g => asNil g (.act (stC a [.int .i64 b, .string c, .int .i64 d, .int .i64 f]) fun a => asTuple a fun a => asNil a (.ret .ret [.bool false]))) else (grd (((decide (0 ≤ i1)) && (decide (i1 ≤ ((s0.size : Nat) : Int)))) && (decide (((s0.size : Nat) : Int) ≤ ((s0.size : Nat) : Int)))) (.call 89 [(.string (s0.extract (Int.toNat i1) s0.size))] fun c => asInt .i64 c fun c => .act (stC (aadd d 3) [(.int .i64 (wi64 (i1 + c)))]) fun c => asTuple c fun c => asNil c (.act (ld1 (aadd d 3)) fun c => asInt .i64 c fun c => grd (((decide (0 ≤ i1)) && (decide (i1 ≤ c))) && (decide (c ≤ ((s0.size : Nat) : Int)))) (.act (stC (aadd d 1) [(.string (s0.extract (Int.toNat i1) (Int.toNat c)))]) fun c => asTuple c fun c => asNil c (.join (.call 90 [.int .i32 b] fun a => asBool a fun a => .join (bif a then (.act (stC (aadd d 0) [.int .i64 3]) fun a => asTuple a fun a => asNil a (.ret .normal [])) else (.act (ld1 (aadd d 1)) fun a => asStr a fun a => .call 91 [.string a] fun a => asBool a fun a => .join (bif a then (.act (stC (aadd d 0) [.int .i64 4]) fun a => asTuple a fun a => asNil a (.ret .normal [])) else (.act (stC (aadd d 0) [.int .i64 2]) fun a => asTuple a fun a => asNil a (.ret .normal []))) (T68k0))) (T68k1)) (T68k2 d a))))))) else (bif (c == 2) then (.act (stC (aadd d 3) [.int .i64 i1]) fun b => asTuple b fun b => asNil b (.loop [.int .u64 0, .bool false] (T68b0 d s0 a) (T68k5 d i1 s0 a))) else (bif (c == 4) then (.act (stC (aadd d 0) [.int .i64 5]) fun b => asTuple b fun b => asNil b (.join (bif (decide ((wi64 (i1 + 1)) < ((s0.size : Nat) : Int))) == true then (grd ((decide (0 ≤ i1)) && (decide (i1 < ((s0.size : Nat) : Int)))) (bif ((byteAt s0 (Int.toNat i1)) == 58) == true then (grd ((decide (0 ≤ (wi64 (i1 + 1)))) && (decide ((wi64 (i1 + 1)) < ((s0.size : Nat) : Int)))) (bif ((byteAt s0 (Int.toNat (wi64 (i1 + 1)))) == 61) == false then (grd ((decide (0 ≤ i1)) && (decide (i1 < ((s0.size : Nat) : Int)))) (bif ((byteAt s0 (Int.toNat i1)) == 45) == true then (grd ((decide (0 ≤ (wi64 (i1 + 1)))) && (decide ((wi64 (i1 + 1)) < ((s0.size : Nat) : Int)))) (.ret .normal [(.bool ((byteAt s0 (Int.toNat (wi64 (i1 + 1)))) == 62))])) else (.ret .normal [.bool false]))) else (.ret .normal [.bool true]))) else (grd ((decide (0 ≤ i1)) && (decide (i1 < ((s0.size : Nat) : Int)))) (bif ((byteAt s0 (Int.toNat i1)) == 45) == true then (grd ((decide (0 ≤ (wi64 (i1 + 1)))) && (decide ((wi64 (i1 + 1)) < ((s0.size : Nat) : Int)))) (.ret .normal [(.bool ((byteAt s0 (Int.toNat (wi64 (i1 + 1)))) == 62))])) else (.ret .normal [.bool false]))))) else (.ret .normal [.bool false])) (T68k8 d i1 s0 a))) else (.ret .normal [.bool false])))) (T68k9 a d))))
theorem T68_eq (s0 : ByteArray) (i1 : Int) : progOf PROG false 68 [(.string s0), (.int .i64 i1)] = T68 s0 i1 := by kernel_rfl
noncomputable def T69 (p0 : Option Addr) (s1 : ByteArray) : Pg :=
 .call 92 [.pointer p0, .string s1] fun a => asBool a fun a => bif (!a) then (.ret .ret [.bool false]) else (asSome p0 fun a => .act (ld1 (aadd a 1)) fun a => asInt .i64 a fun a => asSome p0 fun b => .act (stC (aadd b 1) [(.int .i64 (wi64 (a + 1)))]) fun a => asTuple a fun a => asNil a (.ret .ret [.bool true]))
theorem T69_eq (p0 : Option Addr) (s1 : ByteArray) : progOf PROG false 69 [(.pointer p0), (.string s1)] = T69 p0 s1 := by kernel_rfl
noncomputable def T70k0 (p0 : Option Addr) (a18 : Addr) : Ex → List Value → Pg :=
 fun a b => sw a .normal (cB b fun a b => asNil b (bif a then (asSome p0 fun a => .act (stC (aadd a 3) [.bool true]) fun a => asTuple a fun a => asNil a (.ret .ret [(.string (bs []))])) else (asSome p0 fun a => .act (ld1 (aadd a 1)) fun a => asInt .i64 a fun a => asSome p0 fun b => .act (stC (aadd b 1) [(.int .i64 (wi64 (a + 1)))]) fun a => asTuple a fun a => asNil a (.act (ld1 (aadd a18 1)) fun a => asStr a fun a => .ret .ret [.string a])))) (.fail)
noncomputable def T70 (p0 : Option Addr) (i1 : Int) : Pg :=
 .call 45 [.pointer p0] fun a => asAgg a fun a => cI a fun a b => cS b fun b c => cI c fun c d => cI d fun d f => asNil f (.act (newC [.int .i64 0, (.string (bs [])), .int .i64 0, .int .i64 0]) fun f => asPtr f fun f => asSome f fun f => .act (stC f [.int .i64 a, .string b, .int .i64 c, .int .i64 d]) fun a => asTuple a fun a => asNil a (.join (asSome p0 fun a => .act (ld1 (aadd a 3)) fun a => asBool a fun a => bif a == false then (.act (ld1 (aadd f 0)) fun a => asInt .i64 a fun a => bif (a != i1) == false then (.act (ld1 (aadd f 1)) fun a => asStr a fun a => .ret .normal [(.bool (a.toList == (bs [95]).toList))]) else (.ret .normal [.bool true])) else (.ret .normal [.bool true])) (T70k0 p0 f)))
theorem T70_eq (p0 : Option Addr) (i1 : Int) : progOf PROG false 70 [(.pointer p0), (.int .i64 i1)] = T70 p0 i1 := by kernel_rfl
noncomputable def T71k0 : Ex → List Value → Pg :=
 fun a b => sw a .normal (asNil b (.ret .ret [(.tuple #[])])) (.fail)
noncomputable def T71 (p0 : Option Addr) (s1 : ByteArray) : Pg :=
 .call 69 [.pointer p0, .string s1] fun a => asBool a fun a => .join (bif (!a) then (asSome p0 fun a => .act (stC (aadd a 3) [.bool true]) fun a => asTuple a fun a => asNil a (.ret .normal [])) else (.ret .normal [])) (T71k0)
theorem T71_eq (p0 : Option Addr) (s1 : ByteArray) : progOf PROG false 71 [(.pointer p0), (.string s1)] = T71 p0 s1 := by kernel_rfl
noncomputable def T72 (p0 : Option Addr) : Pg :=
 .call 93 [.pointer p0] fun a => asPtr a fun a => .call 69 [.pointer p0, (.string (bs [58, 61]))] fun b => asBool b fun b => bif b then (.call 72 [.pointer p0] fun b => asPtr b fun b => .call 73 [.int .i64 13, (.string (bs [])), .pointer a, .pointer b] fun a => asPtr a fun a => .ret .ret [.pointer a]) else (.ret .ret [.pointer a])
theorem T72_eq (p0 : Option Addr) : progOf PROG false 72 [(.pointer p0)] = T72 p0 := by kernel_rfl
noncomputable def T73 (i0 : Int) (s1 : ByteArray) (p2 : Option Addr) (p3 : Option Addr) : Pg :=
 asSome p2 fun a => .act (ld1 (aadd (aadd a 0) 5)) fun b => asInt .i64 b fun c => asSome p3 fun d => .act (ld1 (aadd (aadd d 0) 6)) fun f => asInt .i64 f fun g => .act (bdSl 1 2 [.pointer p2, .pointer p3]) fun h => asSlice h fun h i j => .get fun k => grd (chks [((ld1 (aadd (aadd d 0) 6)), f), ((ld1 (aadd (aadd a 0) 5)), b)] k) (.act (newC [.int .i64 i0, .int .i64 0, .string s1, (.string (bs [])), .slice none 0 0, .int .i64 c, .int .i64 g, .slice h i j]) fun a => asPtr a fun a => asSome a fun a => .ret .ret [(.pointer (some a))])
theorem T73_eq (i0 : Int) (s1 : ByteArray) (p2 : Option Addr) (p3 : Option Addr) : progOf PROG false 73 [(.int .i64 i0), (.string s1), (.pointer p2), (.pointer p3)] = T73 i0 s1 p2 p3 := by kernel_rfl
noncomputable def T74 (s0 : ByteArray) : Pg :=
 .call 94 [.string s0] fun a => asBool a fun a => .ret .ret [(.bool (a && (!(s0.toList == (bs [95]).toList))))]
theorem T74_eq (s0 : ByteArray) : progOf PROG false 74 [(.string s0)] = T74 s0 := by kernel_rfl
noncomputable def T75k0 : Ex → List Value → Pg :=
 fun a b => sw a .normal (cB b fun a b => asNil b (.ret .ret [.bool a])) (.fail)
noncomputable def T75 (s0 : ByteArray) : Pg :=
 .call 42 [.string s0] fun a => asTuple a fun a => cL a fun a c _ b => cI b fun b d => cI d fun _ f => asNil f (.join (bif (b == 0) == true then (bif ((c:Int) == 1) == true then (asSome a fun b => grd (decide (0 < (c:Int))) (.act (ld1 (aadd (aadd b 0) 0)) fun b => asInt .i64 b fun b => bif (b == 3) == true then (asSome a fun a => grd (decide (0 < (c:Int))) (.act (ld1 (aadd (aadd a 0) 1)) fun a => asStr a fun a => .ret .normal [(.bool (a.toList == s0.toList))])) else (.ret .normal [.bool false]))) else (.ret .normal [.bool false])) else (.ret .normal [.bool false])) (T75k0))
theorem T75_eq (s0 : ByteArray) : progOf PROG false 75 [(.string s0)] = T75 s0 := by kernel_rfl
noncomputable def T76k0 (i13 : Int) : Ex → List Value → Pg :=
 fun a b => sw a .ret (cB b fun a b => asNil b (.ret .ret [.int .i64 i13, .bool a])) (sw a .normal (cB b fun a b => asNil b (.ret .normal [(.int .i64 (wi64 (i13 + 1))), .bool a])) (.fail))
noncomputable def T76b0 (i6 : Int) (p0 : Option Addr) (n1 : Nat) : List Value → Pg :=
 fun a => cI a fun a b => cB b fun b c => asNil c (bif (decide (a < i6)) then (.join (asSome p0 fun c => grd (decide (0 ≤ i6) && decide (i6 < (n1:Int))) (.act (ld1 (aadd c ((Int.toNat i6) * 1))) fun c => asStr c fun c => asSome p0 fun d => grd (decide (0 ≤ a) && decide (a < (n1:Int))) (.act (ld1 (aadd d ((Int.toNat a) * 1))) fun a => asStr a fun a => bif (c.toList == a.toList) then (.ret .ret [.bool true]) else (.ret .normal [.bool b])))) (T76k0 a)) else (.ret (.exit 2) [.int .i64 a, .bool b]))
noncomputable def T76k1 : Ex → List Value → Pg :=
 fun a b => sw a (.exit 2) (cI b fun _ b => cB b fun a b => asNil b (.ret .normal [.bool a])) (sw a .ret (cI b fun _ b => cB b fun a b => asNil b (.ret .ret [.bool a])) (.fail))
noncomputable def T76k2 (i6 : Int) : Ex → List Value → Pg :=
 fun a b => sw a .ret (cB b fun a b => asNil b (.ret .ret [.int .i64 i6, .bool a])) (sw a .normal (cB b fun a b => asNil b (.ret .normal [(.int .i64 (wi64 (i6 + 1))), .bool a])) (.fail))
noncomputable def T76b1 (n1 : Nat) (p0 : Option Addr) : List Value → Pg :=
 fun a => cI a fun a b => cB b fun b c => asNil c (bif (decide (a < (n1:Int))) then (.join (.loop [.int .i64 0, .bool b] (T76b0 a p0 n1) (T76k1)) (T76k2 a)) else (.ret (.exit 0) [.int .i64 a, .bool b]))
noncomputable def T76k3 : Ex → List Value → Pg :=
 fun a b => sw a (.exit 0) (cI b fun _ b => cB b fun _ b => asNil b (.ret .ret [.bool false])) (sw a .ret (cI b fun _ b => cB b fun a b => asNil b (.ret .ret [.bool a])) (.fail))
noncomputable def T76 (p0 : Option Addr) (n1 : Nat) (n2 : Nat) : Pg :=
 .loop [.int .i64 0, .bool false] (T76b1 n1 p0) (T76k3)
theorem T76_eq (p0 : Option Addr) (n1 : Nat) (n2 : Nat) : progOf PROG false 76 [(.slice p0 n1 n2)] = T76 p0 n1 n2 := by kernel_rfl
noncomputable def T77k0 (i7 : Int) : Ex → List Value → Pg :=
 fun a b => sw a .ret (cB b fun a b => asNil b (.ret .ret [.int .i64 i7, .bool a])) (sw a .normal (cB b fun a b => asNil b (.ret .normal [(.int .i64 (wi64 (i7 + 1))), .bool a])) (.fail))
noncomputable def T77b0 (n1 : Nat) (p0 : Option Addr) (s3 : ByteArray) : List Value → Pg :=
 fun a => cI a fun a b => cB b fun b c => asNil c (bif (decide (a < (n1:Int))) then (.join (asSome p0 fun c => grd (decide (0 ≤ a) && decide (a < (n1:Int))) (.act (ld1 (aadd c ((Int.toNat a) * 1))) fun a => asStr a fun a => bif (a.toList == s3.toList) then (.ret .ret [.bool true]) else (.ret .normal [.bool b]))) (T77k0 a)) else (.ret (.exit 0) [.int .i64 a, .bool b]))
noncomputable def T77k1 : Ex → List Value → Pg :=
 fun a b => sw a (.exit 0) (cI b fun _ b => cB b fun _ b => asNil b (.ret .ret [.bool false])) (sw a .ret (cI b fun _ b => cB b fun a b => asNil b (.ret .ret [.bool a])) (.fail))
noncomputable def T77 (p0 : Option Addr) (n1 : Nat) (n2 : Nat) (s3 : ByteArray) : Pg :=
 .loop [.int .i64 0, .bool false] (T77b0 n1 p0 s3) (T77k1)
theorem T77_eq (p0 : Option Addr) (n1 : Nat) (n2 : Nat) (s3 : ByteArray) : progOf PROG false 77 [(.slice p0 n1 n2), (.string s3)] = T77 p0 n1 n2 s3 := by kernel_rfl
noncomputable def T78k0 : Ex → List Value → Pg :=
 fun a b => sw a .normal (cB b fun a b => asNil b (bif a then (.ret .ret [.bool false]) else (.ret .normal [.bool false]))) (.fail)
noncomputable def T78k1 : Ex → List Value → Pg :=
 fun a b => sw a .ret (cB b fun a b => asNil b (.ret .ret [.bool a])) (sw a .normal (cB b fun a b => asNil b (.ret .normal [.bool a])) (.fail))
noncomputable def T78k2 : Ex → List Value → Pg :=
 fun a b => sw a .ret (cB b fun a b => asNil b (.ret .ret [.bool a])) (sw a .normal (cB b fun a b => asNil b (.ret .normal [.bool a])) (.fail))
noncomputable def T78k3 (b67 : Bool) : Ex → List Value → Pg :=
 fun a b => sw a .normal (cB b fun a b => asNil b (bif a then (.ret .ret [.bool false]) else (.ret .normal [.bool b67]))) (.fail)
noncomputable def T78k4 (b67 : Bool) : Ex → List Value → Pg :=
 fun a b => sw a .normal (cB b fun a b => asNil b (bif a then (.ret .ret [.bool false]) else (.ret .normal [.bool b67]))) (.fail)
noncomputable def T78k5 : Ex → List Value → Pg :=
 fun a b => sw a .ret (cB b fun a b => asNil b (.ret .ret [.bool a])) (sw a .normal (cB b fun a b => asNil b (.ret .normal [.bool a])) (.fail))
noncomputable def T78k6 (a11 : Addr) (b67 : Bool) : Ex → List Value → Pg :=
 fun a b => sw a .normal (cB b fun a b => asNil b (.join (bif a then (.join (.act (ld1 (aadd a11 1)) fun a => asInt .i64 a fun a => bif (a != 0) == true then (.act (ld1 (aadd a11 1)) fun a => asInt .i64 a fun a => .ret .normal [(.bool (a != 1))]) else (.ret .normal [.bool false])) (T78k4 b67)) else (.act (ld1 (aadd a11 1)) fun a => asInt .i64 a fun a => bif (a != 0) then (.ret .ret [.bool false]) else (.ret .normal [.bool b67]))) (T78k5))) (.fail)
noncomputable def T78k7 : Ex → List Value → Pg :=
 fun a b => sw a .ret (cB b fun a b => asNil b (.ret .ret [.bool a])) (sw a .normal (cB b fun a b => asNil b (.ret .normal [.bool a])) (.fail))
noncomputable def T78k8 (a11 : Addr) (b67 : Bool) (i69 : Int) : Ex → List Value → Pg :=
 fun a b => sw a .normal (cB b fun a b => asNil b (.join (bif a then (.join (.act (ld1 (aadd a11 1)) fun a => asInt .i64 a fun a => bif (decide (a < 0)) == false then (.act (ld1 (aadd a11 1)) fun a => asInt .i64 a fun b => .call 95 [] fun c => asInt .i64 c fun c => .get fun d => grd (chks [((ld1 (aadd a11 1)), a)] d) (.ret .normal [(.bool (decide (b > c)))])) else (.ret .normal [.bool true])) (T78k3 b67)) else (.join (bif (i69 == 2) then (.ret .normal [(.bool (i69 == 2))]) else (.ret .normal [(.bool (i69 == 24))])) (T78k6 a11 b67))) (T78k7))) (.fail)
noncomputable def T78k9 : Ex → List Value → Pg :=
 fun a b => sw a .normal (cB b fun a b => asNil b (.ret .normal [.bool a])) (.fail)
noncomputable def T78k10 : Ex → List Value → Pg :=
 fun a b => sw a .normal (cB b fun a b => asNil b (.ret .normal [.bool a])) (.fail)
noncomputable def T78k11 (b126 : Bool) : Ex → List Value → Pg :=
 fun a b => sw a .normal (cB b fun a b => asNil b (bif a then (.ret .ret [.bool false]) else (.ret .normal [.bool b126]))) (.fail)
noncomputable def T78k12 : Ex → List Value → Pg :=
 fun a b => sw a .ret (cB b fun a b => asNil b (.ret .ret [.bool a])) (sw a .normal (cB b fun a b => asNil b (.ret .normal [.bool a])) (.fail))
noncomputable def T78k13 : Ex → List Value → Pg :=
 fun a b => sw a .ret (cB b fun a b => asNil b (.ret .ret [.bool a])) (sw a .normal (cB b fun a b => asNil b (.ret .normal [.bool a])) (.fail))
noncomputable def T78k14 (a11 : Addr) (b126 : Bool) (i128 : Int) : Ex → List Value → Pg :=
 fun a b => sw a .normal (cB b fun a b => asNil b (.join (bif a then (.act (ld1 (aadd a11 2)) fun a => asStr a fun a => .call 75 [.string a] fun a => asBool a fun a => bif (!a) then (.ret .ret [.bool false]) else (.ret .normal [.bool b126])) else (.join (bif (i128 == 14) then (.join (.act (ld1 (aadd a11 2)) fun a => asStr a fun a => bif (!(a.toList == (bs [43]).toList)) == true then (.act (ld1 (aadd a11 2)) fun a => asStr a fun a => bif (!(a.toList == (bs [45]).toList)) == true then (.act (ld1 (aadd a11 2)) fun a => asStr a fun a => bif (!(a.toList == (bs [42]).toList)) == true then (.act (ld1 (aadd a11 2)) fun a => asStr a fun a => bif (!(a.toList == (bs [60]).toList)) == true then (.act (ld1 (aadd a11 2)) fun a => asStr a fun a => .ret .normal [(.bool (!(a.toList == (bs [61]).toList)))]) else (.ret .normal [.bool false])) else (.ret .normal [.bool false])) else (.ret .normal [.bool false])) else (.ret .normal [.bool false])) (T78k11 b126)) else (.act (ld1 (aadd a11 2)) fun a => asStr a fun a => bif (!(a.toList == (bs []).toList)) then (.ret .ret [.bool false]) else (.ret .normal [.bool b126]))) (T78k12))) (T78k13))) (.fail)
noncomputable def T78k15 : Ex → List Value → Pg :=
 fun a b => sw a .ret (cB b fun a b => asNil b (.ret .ret [.bool a])) (sw a .normal (cB b fun a b => asNil b (.ret .normal [.bool a])) (.fail))
noncomputable def T78k16 (a11 : Addr) (b126 : Bool) (i128 : Int) : Ex → List Value → Pg :=
 fun a b => sw a .normal (cB b fun a b => asNil b (.join (bif a then (.act (ld1 (aadd a11 2)) fun a => asStr a fun a => .call 74 [.string a] fun a => asBool a fun a => bif (!a) then (.ret .ret [.bool false]) else (.ret .normal [.bool b126])) else (.join (bif (i128 == 5) then (.ret .normal [(.bool (i128 == 5))]) else (.ret .normal [(.bool (i128 == 26))])) (T78k14 a11 b126 i128))) (T78k15))) (.fail)
noncomputable def T78k17 (a11 : Addr) : Ex → List Value → Pg :=
 fun a b => sw a .normal (cB b fun a b => asNil b (bif a then (.act (ld1 (aadd a11 3)) fun a => asStr a fun a => .call 74 [.string a] fun a => asBool a fun a => .ret .ret [.bool a]) else (.act (ld1 (aadd a11 3)) fun a => asStr a fun a => .ret .ret [(.bool (a.toList == (bs []).toList))]))) (.fail)
noncomputable def T78k18 (a11 : Addr) : Ex → List Value → Pg :=
 fun a b => sw a .ret (cB b fun a b => asNil b (.ret .ret [.bool a])) (sw a .normal (cB b fun _ b => asNil b (.join (.act (ld1 (aadd a11 0)) fun a => asInt .i64 a fun a => bif (a == 6) == false then (.act (ld1 (aadd a11 0)) fun a => asInt .i64 a fun a => bif (a == 9) == false then (.act (ld1 (aadd a11 0)) fun a => asInt .i64 a fun a => .ret .normal [(.bool (a == 20))]) else (.ret .normal [.bool true])) else (.ret .normal [.bool true])) (T78k17 a11))) (.fail))
noncomputable def T78k19 (a11 : Addr) : Ex → List Value → Pg :=
 fun a b => sw a .ret (cB b fun a b => asNil b (.ret .ret [.bool a])) (sw a .normal (cB b fun a b => asNil b (.act (ld1 (aadd a11 0)) fun b => asInt .i64 b fun b => .join (.join (bif (b == 4) then (.ret .normal [(.bool (b == 4))]) else (.join (bif (b == 8) then (.ret .normal [(.bool (b == 8))]) else (.join (bif (b == 9) then (.ret .normal [(.bool (b == 9))]) else (.ret .normal [(.bool (b == 22))])) (T78k9))) (T78k10))) (T78k16 a11 a b)) (T78k18 a11))) (.fail))
noncomputable def T78k20 (a11 : Addr) : Ex → List Value → Pg :=
 fun a b => sw a .ret (cB b fun a b => asNil b (.ret .ret [.bool a])) (sw a .normal (cB b fun a b => asNil b (.act (ld1 (aadd a11 0)) fun b => asInt .i64 b fun b => .join (.join (bif (b == 1) then (.ret .normal [(.bool (b == 1))]) else (.ret .normal [(.bool (b == 23))])) (T78k8 a11 a b)) (T78k19 a11))) (.fail))
noncomputable def T78k21 (a11 : Addr) (p13 : Option Addr) (n14 : Nat) : Ex → List Value → Pg :=
 fun a b => sw a .normal (cB b fun a b => asNil b (bif a then (.ret .ret [.bool false]) else (.act (ld1 (aadd a11 4)) fun a => asSlice a fun _ a _ => .act (ld1 (aadd a11 0)) fun b => asInt .i64 b fun b => asSome p13 fun c => grd (decide (0 ≤ b) && decide (b < (n14:Int))) (.act (ld1 (aadd c ((Int.toNat b) * 1))) fun b => asInt .i64 b fun b => .join (.join (bif (b == (-2)) then (bif (decide ((a:Int) > 3)) then (.ret .ret [.bool false]) else (.ret .normal [.bool false])) else (.join (bif (b == (-3)) then (.join (bif (decide ((a:Int) < 3)) == false then (.ret .normal [(.bool ((Int.tmod (a:Int) 2) == 0))]) else (.ret .normal [.bool true])) (T78k0)) else (.act (ld1 (aadd a11 0)) fun b => asInt .i64 b fun b => asSome p13 fun c => grd (decide (0 ≤ b) && decide (b < (n14:Int))) (.act (ld1 (aadd c ((Int.toNat b) * 1))) fun b => asInt .i64 b fun b => bif ((a:Int) != b) then (.ret .ret [.bool false]) else (.ret .normal [.bool false])))) (T78k1))) (T78k2)) (T78k20 a11))))) (.fail)
noncomputable def T78 (i0 : Int) (i1 : Int) (s2 : ByteArray) (s3 : ByteArray) (p4 : Option Addr) (n5 : Nat) (n6 : Nat) (i7 : Int) (i8 : Int) : Pg :=
 .act (newC [.int .i64 i0, .int .i64 i1, .string s2, .string s3, .slice p4 n5 n6, .int .i64 i7, .int .i64 i8]) fun a => asPtr a fun a => asSome a fun a => .act (bdSl 1 27 [(.int .i64 (-1)), .int .i64 0, .int .i64 0, .int .i64 0, .int .i64 0, (.int .i64 (-2)), .int .i64 1, .int .i64 2, .int .i64 2, .int .i64 2, .int .i64 3, (.int .i64 (-3)), .int .i64 2, .int .i64 2, .int .i64 2, .int .i64 1, .int .i64 1, .int .i64 1, .int .i64 0, .int .i64 1, .int .i64 2, .int .i64 0, .int .i64 0, .int .i64 0, .int .i64 0, .int .i64 0, (.int .i64 (-2))]) fun b => asSlice b fun b c _ => .join (.act (ld1 (aadd a 0)) fun b => asInt .i64 b fun b => bif (decide (b < 1)) == false then (.act (ld1 (aadd a 0)) fun a => asInt .i64 a fun a => .ret .normal [(.bool (decide (a > 26)))]) else (.ret .normal [.bool true])) (T78k21 a b c)
theorem T78_eq (i0 : Int) (i1 : Int) (s2 : ByteArray) (s3 : ByteArray) (p4 : Option Addr) (n5 : Nat) (n6 : Nat) (i7 : Int) (i8 : Int) : progOf PROG false 78 [(.agg #[(.int .i64 i0), (.int .i64 i1), (.string s2), (.string s3), (.slice p4 n5 n6), (.int .i64 i7), (.int .i64 i8)])] = T78 i0 i1 s2 s3 p4 n5 n6 i7 i8 := by kernel_rfl
noncomputable def T79k0 (i30 : Int) : Ex → List Value → Pg :=
 fun a b => sw a .ret (cB b fun a b => cI b fun b c => cI c fun c d => asNil d (.ret .ret [.int .i64 i30, .bool a, .int .i64 b, .int .i64 c])) (sw a .normal (cB b fun a b => cI b fun b c => cI c fun c d => asNil d (.ret .normal [(.int .i64 (wi64 (i30 + 1))), .bool a, .int .i64 b, .int .i64 c])) (.fail))
noncomputable def T79b0 (a9 : Addr) (i13 : Int) (s6 : ByteArray) : List Value → Pg :=
 fun a => cI a fun a b => cB b fun b c => cI c fun c d => cI d fun d f => asNil f (.act (ld1 (aadd a9 1)) fun f => asSlice f fun f g _ => asSome f fun f => grd (decide (0 ≤ i13) && decide (i13 < (g:Int))) (.act (ld1 (aadd (aadd f ((Int.toNat i13) * 2)) 1)) fun f => asSlice f fun _ f _ => bif (decide (a < (f:Int))) then (.join (.act (ld1 (aadd a9 1)) fun f => asSlice f fun f g _ => asSome f fun f => grd (decide (0 ≤ i13) && decide (i13 < (g:Int))) (.act (ld1 (aadd (aadd f ((Int.toNat i13) * 2)) 1)) fun f => asSlice f fun f g _ => asSome f fun f => grd (decide (0 ≤ a) && decide (a < (g:Int))) (.act (ld1 (aadd (aadd f ((Int.toNat a) * 2)) 0)) fun f => asStr f fun f => bif (f.toList == s6.toList) then (.ret .ret [.bool true, .int .i64 a, .int .i64 i13]) else (.ret .normal [.bool b, .int .i64 c, .int .i64 d])))) (T79k0 a)) else (.ret (.exit 2) [.int .i64 a, .bool b, .int .i64 c, .int .i64 d])))
noncomputable def T79k1 : Ex → List Value → Pg :=
 fun a b => sw a (.exit 2) (cI b fun _ b => cB b fun a b => cI b fun b c => cI c fun c d => asNil d (.ret .normal [.bool a, .int .i64 b, .int .i64 c])) (sw a .ret (cI b fun _ b => cB b fun a b => cI b fun b c => cI c fun c d => asNil d (.ret .ret [.bool a, .int .i64 b, .int .i64 c])) (.fail))
noncomputable def T79k2 (i13 : Int) : Ex → List Value → Pg :=
 fun a b => sw a .ret (cB b fun a b => cI b fun b c => cI c fun c d => asNil d (.ret .ret [.int .i64 i13, .bool a, .int .i64 b, .int .i64 c])) (sw a .normal (cB b fun a b => cI b fun b c => cI c fun c d => asNil d (.ret .normal [(.int .i64 (wi64 (i13 + 1))), .bool a, .int .i64 b, .int .i64 c])) (.fail))
noncomputable def T79b1 (a9 : Addr) (s6 : ByteArray) : List Value → Pg :=
 fun a => cI a fun a b => cB b fun b c => cI c fun c d => cI d fun d f => asNil f (.act (ld1 (aadd a9 1)) fun f => asSlice f fun _ f _ => bif (decide (a < (f:Int))) then (.join (.loop [.int .i64 0, .bool b, .int .i64 c, .int .i64 d] (T79b0 a9 a s6) (T79k1)) (T79k2 a)) else (.ret (.exit 0) [.int .i64 a, .bool b, .int .i64 c, .int .i64 d]))
noncomputable def T79k3 : Ex → List Value → Pg :=
 fun a b => sw a (.exit 0) (cI b fun _ b => cB b fun _ b => cI b fun _ b => cI b fun _ b => asNil b (.ret .ret [(.tuple #[.int .i64 0, .int .i64 0, .bool false])])) (sw a .ret (cI b fun _ b => cB b fun a b => cI b fun b c => cI c fun c d => asNil d (.ret .ret [(.tuple #[.int .i64 c, .int .i64 b, .bool a])])) (.fail))
noncomputable def T79 (p0 : Option Addr) (n1 : Nat) (n2 : Nat) (p3 : Option Addr) (n4 : Nat) (n5 : Nat) (s6 : ByteArray) : Pg :=
 .act (newC [.slice p0 n1 n2, .slice p3 n4 n5]) fun a => asPtr a fun a => asSome a fun a => .loop [.int .i64 0, .bool false, .int .i64 0, .int .i64 0] (T79b1 a s6) (T79k3)
theorem T79_eq (p0 : Option Addr) (n1 : Nat) (n2 : Nat) (p3 : Option Addr) (n4 : Nat) (n5 : Nat) (s6 : ByteArray) : progOf PROG false 79 [(.agg #[(.slice p0 n1 n2), (.slice p3 n4 n5)]), (.string s6)] = T79 p0 n1 n2 p3 n4 n5 s6 := by kernel_rfl
noncomputable def T80k0 : Ex → List Value → Pg :=
 fun a b => sw a .normal (cL b fun a c d b => asNil b (.ret .normal [.slice a c d])) (.fail)
noncomputable def T80k1 (a9 : Addr) (a42 : Addr) (i56 : Int) (p59 : Option Addr) (n60 : Nat) (n61 : Nat) : Ex → List Value → Pg :=
 fun a b => sw a .normal (cB b fun a b => asNil b (.join (bif a then (.act (ldN 2 a9) fun a => asAgg a fun a => cL a fun a c d b => cL b fun b g h f => asNil f (.act (ld1 (aadd a42 4)) fun f => asSlice f fun f i _ => asSome f fun f => grd (decide (0 ≤ i56) && decide (i56 < (i:Int))) (.act (ld1 (aadd f ((Int.toNat i56) * 1))) fun f => asInt .i64 f fun f => .call 80 [(.agg #[.slice a c d, .slice b g h]), .int .i64 f] fun a => asSlice a fun a b c => .act (apS 1 16 p59 n60 n61 a b c) fun a => asSlice a fun a b c => .ret .normal [.slice a b c]))) else (.ret .normal [.slice p59 n60 n61])) (T80k0))) (.fail)
noncomputable def T80k2 (i56 : Int) : Ex → List Value → Pg :=
 fun a b => sw a .normal (cL b fun a c d b => asNil b (.ret .normal [(.int .i64 (wi64 (i56 + 1))), .slice a c d])) (.fail)
noncomputable def T80b0 (a42 : Addr) (i6 : Int) (a9 : Addr) : List Value → Pg :=
 fun a => cI a fun a b => cL b fun b d f c => asNil c (.act (ld1 (aadd a42 4)) fun c => asSlice c fun _ c _ => bif (decide (a < (c:Int))) then (.join (.join (.act (ld1 (aadd a42 4)) fun b => asSlice b fun b c _ => asSome b fun b => grd (decide (0 ≤ a) && decide (a < (c:Int))) (.act (ld1 (aadd b ((Int.toNat a) * 1))) fun b => asInt .i64 b fun b => bif (decide (b > i6)) == true then (.act (ld1 (aadd a42 4)) fun b => asSlice b fun b c _ => asSome b fun b => grd (decide (0 ≤ a) && decide (a < (c:Int))) (.act (ld1 (aadd b ((Int.toNat a) * 1))) fun a => asInt .i64 a fun a => .act (ld1 (aadd a9 0)) fun b => asSlice b fun _ b _ => bif (decide (a < (b:Int))) == true then (.act (ld1 (aadd a42 0)) fun a => asInt .i64 a fun a => .ret .normal [(.bool (a == 26))]) else (.ret .normal [.bool false]))) else (.ret .normal [.bool false]))) (T80k1 a9 a42 a b d f)) (T80k2 a)) else (.ret (.exit 0) [.int .i64 a, .slice b d f]))
noncomputable def T80k3 : Ex → List Value → Pg :=
 fun a b => sw a (.exit 0) (cI b fun _ b => cL b fun a c d b => asNil b (.ret .ret [.slice a c d])) (.fail)
noncomputable def T80 (p0 : Option Addr) (n1 : Nat) (n2 : Nat) (p3 : Option Addr) (n4 : Nat) (n5 : Nat) (i6 : Int) : Pg :=
 .act (newC [.slice p0 n1 n2, .slice p3 n4 n5]) fun a => asPtr a fun a => asSome a fun a => .act (ld1 (aadd a 0)) fun b => asSlice b fun b c _ => asSome b fun b => grd (decide (0 ≤ i6) && decide (i6 < (c:Int))) (.act (ldN 7 (aadd b ((Int.toNat i6) * 7))) fun b => asAgg b fun b => cI b fun b c => cI c fun c d => cS d fun d f => cS f fun f g => cL g fun g i j h => cI h fun h k => cI k fun k l => asNil l (.act (newC [.int .i64 0, .int .i64 0, (.string (bs [])), (.string (bs [])), .slice none 0 0, .int .i64 0, .int .i64 0]) fun l => asPtr l fun l => asSome l fun l => .act (stC l [.int .i64 b, .int .i64 c, .string d, .string f, .slice g i j, .int .i64 h, .int .i64 k]) fun b => asTuple b fun b => asNil b (.act (ld1 (aadd l 0)) fun b => asInt .i64 b fun b => bif (b == 22) then (.act (ld1 (aadd l 2)) fun a => asStr a fun a => .act (bdSl 1 1 [.string a]) fun a => asSlice a fun a b c => .ret .ret [.slice a b c]) else (.loop [.int .i64 0, .slice none 0 0] (T80b0 l i6 a) (T80k3)))))
theorem T80_eq (p0 : Option Addr) (n1 : Nat) (n2 : Nat) (p3 : Option Addr) (n4 : Nat) (n5 : Nat) (i6 : Int) : progOf PROG false 80 [(.agg #[(.slice p0 n1 n2), (.slice p3 n4 n5)]), (.int .i64 i6)] = T80 p0 n1 n2 p3 n4 n5 i6 := by kernel_rfl
noncomputable def T82k0 : Ex → List Value → Pg :=
 fun a b => sw a .normal (cB b fun a b => asNil b (.ret .ret [.bool a])) (.fail)
noncomputable def T82k1 (s0 : ByteArray) (i1 : Int) : Ex → List Value → Pg :=
 fun a b => sw a .normal (cB b fun a b => asNil b (bif a then (.ret .ret [.bool false]) else (.call 96 [.string s0] fun a => asAgg a fun a => cI a fun a b => cS b fun b c => cI c fun c d => cI d fun d f => asNil f (.act (newC [.int .i64 0, (.string (bs [])), .int .i64 0, .int .i64 0]) fun f => asPtr f fun f => asSome f fun f => .act (stC f [.int .i64 a, .string b, .int .i64 c, .int .i64 d]) fun a => asTuple a fun a => asNil a (.join (.act (ld1 (aadd f 0)) fun a => asInt .i64 a fun a => bif (a == i1) == true then (.act (ld1 (aadd f 1)) fun a => asStr a fun a => .ret .normal [(.bool (a.toList == s0.toList))]) else (.ret .normal [.bool false])) (T82k0)))))) (.fail)
noncomputable def T82 (s0 : ByteArray) (i1 : Int) : Pg :=
 .join (bif (s0.toList == (bs []).toList) == false then (.ret .normal [(.bool (decide (((s0.size : Nat) : Int) > 4000)))]) else (.ret .normal [.bool true])) (T82k1 s0 i1)
theorem T82_eq (s0 : ByteArray) (i1 : Int) : progOf PROG false 82 [(.string s0), (.int .i64 i1)] = T82 s0 i1 := by kernel_rfl
noncomputable def T83k0 (i7 : Int) : Ex → List Value → Pg :=
 fun a b => sw a .ret (cI b fun a b => asNil b (.ret .ret [.int .i64 i7, .int .i64 a])) (sw a .normal (cI b fun a b => asNil b (.ret .normal [(.int .i64 (wi64 (i7 + 1))), .int .i64 a])) (.fail))
noncomputable def T83b0 (n1 : Nat) (p0 : Option Addr) (s3 : ByteArray) : List Value → Pg :=
 fun a => cI a fun a b => cI b fun b c => asNil c (bif (decide (a < (n1:Int))) then (.join (asSome p0 fun c => grd (decide (0 ≤ a) && decide (a < (n1:Int))) (.act (ld1 (aadd c ((Int.toNat a) * 1))) fun c => asStr c fun c => bif (s3.toList == c.toList) then (.ret .ret [.int .i64 a]) else (.ret .normal [.int .i64 b]))) (T83k0 a)) else (.ret (.exit 0) [.int .i64 a, .int .i64 b]))
noncomputable def T83k1 : Ex → List Value → Pg :=
 fun a b => sw a (.exit 0) (cI b fun _ b => cI b fun _ b => asNil b (.ret .ret [(.int .i64 (-1))])) (sw a .ret (cI b fun _ b => cI b fun a b => asNil b (.ret .ret [.int .i64 a])) (.fail))
noncomputable def T83 (p0 : Option Addr) (n1 : Nat) (n2 : Nat) (s3 : ByteArray) : Pg :=
 .loop [.int .i64 0, .int .i64 0] (T83b0 n1 p0 s3) (T83k1)
theorem T83_eq (p0 : Option Addr) (n1 : Nat) (n2 : Nat) (s3 : ByteArray) : progOf PROG false 83 [(.slice p0 n1 n2), (.string s3)] = T83 p0 n1 n2 s3 := by kernel_rfl
noncomputable def T84k0 (i7 : Int) : Ex → List Value → Pg :=
 fun a b => sw a .ret (cI b fun a b => asNil b (.ret .ret [.int .i64 i7, .int .i64 a])) (sw a .normal (cI b fun a b => asNil b (.ret .normal [(.int .i64 (wi64 (i7 + 1))), .int .i64 a])) (.fail))
noncomputable def T84b0 (n1 : Nat) (p0 : Option Addr) (v3 : Value) : List Value → Pg :=
 fun a => cI a fun a b => cI b fun b c => asNil c (bif (decide (a < (n1:Int))) then (.join (asSome p0 fun c => grd (decide (0 ≤ a) && decide (a < (n1:Int))) (.act (ld1 (aadd c ((Int.toNat a) * 1))) fun c => asStr c fun c => asFunc v3 fun d f g => .call d (f ++ [.string c] ++ g) fun c => asBool c fun c => bif c then (.ret .ret [.int .i64 a]) else (.ret .normal [.int .i64 b]))) (T84k0 a)) else (.ret (.exit 0) [.int .i64 a, .int .i64 b]))
noncomputable def T84k1 : Ex → List Value → Pg :=
 fun a b => sw a (.exit 0) (cI b fun _ b => cI b fun _ b => asNil b (.ret .ret [(.int .i64 (-1))])) (sw a .ret (cI b fun _ b => cI b fun a b => asNil b (.ret .ret [.int .i64 a])) (.fail))
noncomputable def T84 (p0 : Option Addr) (n1 : Nat) (n2 : Nat) (v3 : Value) : Pg :=
 .loop [.int .i64 0, .int .i64 0] (T84b0 n1 p0 v3) (T84k1)
theorem T84_eq (p0 : Option Addr) (n1 : Nat) (n2 : Nat) (v3 : Value) : progOf PROG false 84 [(.slice p0 n1 n2), v3] = T84 p0 n1 n2 v3 := by kernel_rfl
noncomputable def T85k0 : Ex → List Value → Pg :=
 fun a b => sw a .normal (cB b fun a b => asNil b (.ret .ret [.bool a])) (.fail)
noncomputable def T85k1 : Ex → List Value → Pg :=
 fun a b => sw a .normal (cB b fun a b => asNil b (.ret .ret [.bool a])) (.fail)
noncomputable def T85k2 (a11 : Addr) : Ex → List Value → Pg :=
 fun a b => sw a .normal (cB b fun a b => asNil b (bif a then (.join (.act (ld1 (aadd a11 1)) fun a => asInt .i64 a fun a => bif (a == 0) == false then (.act (ld1 (aadd a11 1)) fun a => asInt .i64 a fun a => .ret .normal [(.bool (a == 1))]) else (.ret .normal [.bool true])) (T85k1)) else (.ret .normal [.bool false]))) (.fail)
noncomputable def T85k3 (a11 : Addr) (i13 : Int) : Ex → List Value → Pg :=
 fun a b => sw a .normal (cB b fun a b => asNil b (bif a then (.join (.act (ld1 (aadd a11 1)) fun a => asInt .i64 a fun a => bif (decide (a ≥ 0)) == true then (.act (ld1 (aadd a11 1)) fun a => asInt .i64 a fun a => .ret .normal [(.bool (decide (a ≤ 4611686018427387903)))]) else (.ret .normal [.bool false])) (T85k0)) else (.join (bif (i13 == 2) then (.ret .normal [(.bool (i13 == 2))]) else (.ret .normal [(.bool (i13 == 24))])) (T85k2 a11)))) (.fail)
noncomputable def T85k4 (a11 : Addr) : Ex → List Value → Pg :=
 fun a b => sw a .ret (cB b fun a b => asNil b (.ret .ret [.bool a])) (sw a .normal (cB b fun _ b => asNil b (.act (ld1 (aadd a11 1)) fun a => asInt .i64 a fun a => .ret .ret [(.bool (a == 0))])) (.fail))
noncomputable def T85 (i0 : Int) (i1 : Int) (s2 : ByteArray) (s3 : ByteArray) (p4 : Option Addr) (n5 : Nat) (n6 : Nat) (i7 : Int) (i8 : Int) : Pg :=
 .act (newC [.int .i64 i0, .int .i64 i1, .string s2, .string s3, .slice p4 n5 n6, .int .i64 i7, .int .i64 i8]) fun a => asPtr a fun a => asSome a fun a => .act (ld1 (aadd a 0)) fun b => asInt .i64 b fun b => .join (.join (bif (b == 1) then (.ret .normal [(.bool (b == 1))]) else (.ret .normal [(.bool (b == 23))])) (T85k3 a b)) (T85k4 a)
theorem T85_eq (i0 : Int) (i1 : Int) (s2 : ByteArray) (s3 : ByteArray) (p4 : Option Addr) (n5 : Nat) (n6 : Nat) (i7 : Int) (i8 : Int) : progOf PROG false 85 [(.agg #[(.int .i64 i0), (.int .i64 i1), (.string s2), (.string s3), (.slice p4 n5 n6), (.int .i64 i7), (.int .i64 i8)])] = T85 i0 i1 s2 s3 p4 n5 n6 i7 i8 := by kernel_rfl
noncomputable def T86k0 : Ex → List Value → Pg :=
 fun a b => sw a .normal (cB b fun a b => asNil b (.ret .normal [.bool a])) (.fail)
noncomputable def T86k1 : Ex → List Value → Pg :=
 fun a b => sw a .normal (cB b fun a b => asNil b (.ret .normal [.bool a])) (.fail)
noncomputable def T86k2 (s15 : ByteArray) : Ex → List Value → Pg :=
 fun a b => sw a .normal (cB b fun a b => asNil b (.ret .normal [.bool a, (.bool (s15.toList == (bs []).toList))])) (.fail)
noncomputable def T86k3 (a11 : Addr) (i17 : Int) (s13 : ByteArray) (s15 : ByteArray) : Ex → List Value → Pg :=
 fun a b => sw a .normal (cB b fun a b => asNil b (.join (bif a then (.act (ld1 (aadd a11 2)) fun a => asStr a fun a => .call 57 [.string a] fun a => asBool a fun a => .ret .normal [.bool a]) else (.join (bif (i17 == 14) then (.act (bdSl 1 5 [(.string (bs [43])), (.string (bs [45])), (.string (bs [42])), (.string (bs [60])), (.string (bs [61]))]) fun a => asSlice a fun a b c => .act (ld1 (aadd a11 2)) fun d => asStr d fun d => .call 59 [.slice a b c, .string d] fun a => asBool a fun a => .ret .normal [.bool a]) else (.ret .normal [(.bool (s13.toList == (bs []).toList))])) (T86k1))) (T86k2 s15))) (.fail)
noncomputable def T86k4 : Ex → List Value → Pg :=
 fun a b => sw a .normal (cB b fun a b => cB b fun b c => asNil c (.ret .normal [.bool b, .bool a])) (.fail)
noncomputable def T86k5 (a11 : Addr) (s13 : ByteArray) (i17 : Int) (s15 : ByteArray) : Ex → List Value → Pg :=
 fun a b => sw a .normal (cB b fun a b => asNil b (.join (bif a then (.act (ld1 (aadd a11 3)) fun a => asStr a fun a => .call 55 [.string a] fun a => asBool a fun a => .ret .normal [(.bool (s13.toList == (bs []).toList)), .bool a]) else (.join (bif (i17 == 5) then (.ret .normal [(.bool (i17 == 5))]) else (.ret .normal [(.bool (i17 == 26))])) (T86k3 a11 i17 s13 s15))) (T86k4))) (.fail)
noncomputable def T86k6 : Ex → List Value → Pg :=
 fun a b => sw a .normal (cB b fun a b => cB b fun b c => asNil c (.ret .normal [.bool a, .bool b])) (.fail)
noncomputable def T86k7 : Ex → List Value → Pg :=
 fun a b => sw a .normal (cB b fun a b => cB b fun b c => asNil c (.ret .normal [.bool a, .bool b])) (.fail)
noncomputable def T86k8 (a11 : Addr) (s15 : ByteArray) (i17 : Int) (s13 : ByteArray) : Ex → List Value → Pg :=
 fun a b => sw a .normal (cB b fun a b => asNil b (.join (bif a then (.act (ld1 (aadd a11 2)) fun a => asStr a fun a => .call 55 [.string a] fun a => asBool a fun a => .ret .normal [(.bool (s15.toList == (bs []).toList)), .bool a]) else (.join (bif (i17 == 9) then (.act (ld1 (aadd a11 2)) fun a => asStr a fun a => .get fun b => .call 55 [.string a] fun a => asBool a fun a => .act (ld1 (aadd a11 3)) fun c => grd (past (ld1 (aadd a11 3)) c [b]) (asStr c fun b => .call 55 [.string b] fun b => asBool b fun b => .ret .normal [.bool b, .bool a])) else (.join (bif (i17 == 6) then (.ret .normal [(.bool (i17 == 6))]) else (.ret .normal [(.bool (i17 == 20))])) (T86k5 a11 s13 i17 s15))) (T86k6))) (T86k7))) (.fail)
noncomputable def T86k9 : Ex → List Value → Pg :=
 fun a b => sw a .normal (cB b fun a b => cB b fun b c => asNil c (.ret .ret [(.bool (b && a))])) (.fail)
noncomputable def T86 (i0 : Int) (i1 : Int) (s2 : ByteArray) (s3 : ByteArray) (p4 : Option Addr) (n5 : Nat) (n6 : Nat) (i7 : Int) (i8 : Int) : Pg :=
 .act (newC [.int .i64 i0, .int .i64 i1, .string s2, .string s3, .slice p4 n5 n6, .int .i64 i7, .int .i64 i8]) fun a => asPtr a fun a => asSome a fun a => .act (ld1 (aadd a 2)) fun b => asStr b fun b => .act (ld1 (aadd a 3)) fun c => asStr c fun c => .act (ld1 (aadd a 0)) fun d => asInt .i64 d fun d => .join (.join (bif (d == 4) then (.ret .normal [(.bool (d == 4))]) else (.join (bif (d == 8) then (.ret .normal [(.bool (d == 8))]) else (.ret .normal [(.bool (d == 22))])) (T86k0))) (T86k8 a c d b)) (T86k9)
theorem T86_eq (i0 : Int) (i1 : Int) (s2 : ByteArray) (s3 : ByteArray) (p4 : Option Addr) (n5 : Nat) (n6 : Nat) (i7 : Int) (i8 : Int) : progOf PROG false 86 [(.agg #[(.int .i64 i0), (.int .i64 i1), (.string s2), (.string s3), (.slice p4 n5 n6), (.int .i64 i7), (.int .i64 i8)])] = T86 i0 i1 s2 s3 p4 n5 n6 i7 i8 := by kernel_rfl
noncomputable def T87k0 : Ex → List Value → Pg :=
 fun a b => sw a .normal (cB b fun a b => asNil b (.ret .normal [.bool a])) (.fail)
noncomputable def T87k1 : Ex → List Value → Pg :=
 fun a b => sw a .normal (cB b fun a b => asNil b (.ret .normal [.bool a])) (.fail)
noncomputable def T87k2 : Ex → List Value → Pg :=
 fun a b => sw a .normal (cB b fun a b => asNil b (.ret .normal [.bool a])) (.fail)
noncomputable def T87k3 : Ex → List Value → Pg :=
 fun a b => sw a .normal (cB b fun a b => asNil b (.ret .normal [.bool a])) (.fail)
noncomputable def T87k4 : Ex → List Value → Pg :=
 fun a b => sw a .normal (cB b fun a b => asNil b (.ret .normal [.bool a])) (.fail)
noncomputable def T87k5 : Ex → List Value → Pg :=
 fun a b => sw a .normal (cB b fun a b => asNil b (.ret .normal [.bool a])) (.fail)
noncomputable def T87k6 : Ex → List Value → Pg :=
 fun a b => sw a .normal (cB b fun a b => asNil b (.ret .normal [.bool a])) (.fail)
noncomputable def T87k7 : Ex → List Value → Pg :=
 fun a b => sw a .normal (cB b fun a b => asNil b (.ret .normal [.bool a])) (.fail)
noncomputable def T87k8 (i0 : Int) : Ex → List Value → Pg :=
 fun a b => sw a .normal (cB b fun a b => asNil b (bif a then (.ret .ret [.int .i64 2, .int .i64 2]) else (bif (i0 == 10) then (.ret .ret [.int .i64 3, .int .i64 3]) else (.ret .normal [.int .i64 0, .int .i64 0])))) (.fail)
noncomputable def T87k9 (i0 : Int) : Ex → List Value → Pg :=
 fun a b => sw a .normal (cB b fun a b => asNil b (bif a then (.ret .ret [.int .i64 1, .int .i64 1]) else (.join (bif (i0 == 7) then (.ret .normal [(.bool (i0 == 7))]) else (.join (bif (i0 == 8) then (.ret .normal [(.bool (i0 == 8))]) else (.join (bif (i0 == 9) then (.ret .normal [(.bool (i0 == 9))]) else (.join (bif (i0 == 12) then (.ret .normal [(.bool (i0 == 12))]) else (.join (bif (i0 == 13) then (.ret .normal [(.bool (i0 == 13))]) else (.join (bif (i0 == 14) then (.ret .normal [(.bool (i0 == 14))]) else (.ret .normal [(.bool (i0 == 20))])) (T87k3))) (T87k4))) (T87k5))) (T87k6))) (T87k7))) (T87k8 i0)))) (.fail)
noncomputable def T87k10 (i0 : Int) : Ex → List Value → Pg :=
 fun a b => sw a .normal (cB b fun a b => asNil b (bif a then (.ret .ret [.int .i64 3, .int .i64 0]) else (bif (i0 == 11) then (.ret .ret [.int .i64 1000, .int .i64 3]) else (.join (bif (i0 == 6) then (.ret .normal [(.bool (i0 == 6))]) else (.join (bif (i0 == 15) then (.ret .normal [(.bool (i0 == 15))]) else (.join (bif (i0 == 16) then (.ret .normal [(.bool (i0 == 16))]) else (.join (bif (i0 == 17) then (.ret .normal [(.bool (i0 == 17))]) else (.ret .normal [(.bool (i0 == 19))])) (T87k0))) (T87k1))) (T87k2))) (T87k9 i0))))) (.fail)
noncomputable def T87k11 : Ex → List Value → Pg :=
 fun a b => sw a .ret (cI b fun a b => cI b fun b c => asNil c (.ret .ret [(.tuple #[.int .i64 b, .int .i64 a])])) (sw a .normal (cI b fun _ b => cI b fun _ b => asNil b (.ret .ret [(.tuple #[.int .i64 0, .int .i64 0])])) (.fail))
noncomputable def T87 (i0 : Int) : Pg :=
 .join (.join (bif (i0 == 5) then (.ret .normal [(.bool (i0 == 5))]) else (.ret .normal [(.bool (i0 == 26))])) (T87k10 i0)) (T87k11)
theorem T87_eq (i0 : Int) : progOf PROG false 87 [(.int .i64 i0)] = T87 i0 := by kernel_rfl
noncomputable def T89k0 : Ex → List Value → Pg :=
 fun a b => sw a .ret (cI b fun a b => asNil b (.ret .ret [.int .i64 a])) (sw a .normal (cI b fun a b => asNil b (.ret .normal [.int .i64 a])) (.fail))
noncomputable def T89b0 (a3 : Addr) : List Value → Pg :=
 fun a => cI a fun a b => asNil b (.act (nxt (some a3)) fun b => asNx b (fun b c => .join (.call 66 [.int .i32 c] fun c => asInt .i64 c fun c => bif ((c != 1) && (c != 2)) then (.ret .ret [.int .i64 b]) else (.ret .normal [.int .i64 a])) (T89k0)) (.ret (.exit 0) [.int .i64 a]))
noncomputable def T89k1 (s0 : ByteArray) : Ex → List Value → Pg :=
 fun a b => sw a (.exit 0) (cI b fun _ b => asNil b (.ret .ret [(.int .i64 ((s0.size : Nat) : Int))])) (sw a .ret (cI b fun a b => asNil b (.ret .ret [.int .i64 a])) (.fail))
noncomputable def T89 (s0 : ByteArray) : Pg :=
 .act (rng s0) fun a => asPtr a fun a => asSome a fun a => .loop [.int .i64 0] (T89b0 a) (T89k1 s0)
theorem T89_eq (s0 : ByteArray) : progOf PROG false 89 [(.string s0)] = T89 s0 := by kernel_rfl
noncomputable def T91k0 (i8 : Int) : Ex → List Value → Pg :=
 fun a b => sw a .ret (cB b fun a b => asNil b (.ret .ret [.int .i64 i8, .bool a])) (sw a .normal (cB b fun a b => asNil b (.ret .normal [(.int .i64 (wi64 (i8 + 1))), .bool a])) (.fail))
noncomputable def T91b0 (n3 : Nat) (p2 : Option Addr) (s0 : ByteArray) : List Value → Pg :=
 fun a => cI a fun a b => cB b fun b c => asNil c (bif (decide (a < (n3:Int))) then (.join (asSome p2 fun c => grd (decide (0 ≤ a) && decide (a < (n3:Int))) (.act (ld1 (aadd c ((Int.toNat a) * 1))) fun a => asStr a fun a => bif (a.toList == s0.toList) then (.ret .ret [.bool true]) else (.ret .normal [.bool b]))) (T91k0 a)) else (.ret (.exit 0) [.int .i64 a, .bool b]))
noncomputable def T91k1 : Ex → List Value → Pg :=
 fun a b => sw a (.exit 0) (cI b fun _ b => cB b fun _ b => asNil b (.ret .ret [.bool false])) (sw a .ret (cI b fun _ b => cB b fun a b => asNil b (.ret .ret [.bool a])) (.fail))
noncomputable def T91 (s0 : ByteArray) : Pg :=
 .act (bdSl 1 19 [(.string (bs [116, 121, 112, 101])), (.string (bs [111, 102])), (.string (bs [108, 101, 116])), (.string (bs [114, 101, 99])), (.string (bs [105, 110])), (.string (bs [102, 117, 110])), (.string (bs [105, 102])), (.string (bs [116, 104, 101, 110])), (.string (bs [101, 108, 115, 101])), (.string (bs [109, 97, 116, 99, 104])), (.string (bs [119, 105, 116, 104])), (.string (bs [101, 110, 100])), (.string (bs [114, 101, 102])), (.string (bs [112, 114, 105, 110, 116])), (.string (bs [114, 101, 97, 100])), (.string (bs [114, 97, 105, 115, 101])), (.string (bs [116, 114, 121])), (.string (bs [116, 114, 117, 101])), (.string (bs [102, 97, 108, 115, 101]))]) fun a => asSlice a fun a b _ => .loop [.int .i64 0, .bool false] (T91b0 b a s0) (T91k1)
theorem T91_eq (s0 : ByteArray) : progOf PROG false 91 [(.string s0)] = T91 s0 := by kernel_rfl
noncomputable def T92k0 : Ex → List Value → Pg :=
 fun a b => sw a .normal (cB b fun a b => asNil b (.ret .ret [.bool a])) (.fail)
noncomputable def T92 (p0 : Option Addr) (s1 : ByteArray) : Pg :=
 .call 45 [.pointer p0] fun a => asAgg a fun a => cI a fun a b => cS b fun b c => cI c fun c d => cI d fun d f => asNil f (.act (newC [.int .i64 0, (.string (bs [])), .int .i64 0, .int .i64 0]) fun f => asPtr f fun f => asSome f fun f => .act (stC f [.int .i64 a, .string b, .int .i64 c, .int .i64 d]) fun a => asTuple a fun a => asNil a (.join (asSome p0 fun a => .act (ld1 (aadd a 3)) fun a => asBool a fun a => bif (!a) == true then (.act (ld1 (aadd f 0)) fun a => asInt .i64 a fun a => bif (decide (a > 3)) == true then (.act (ld1 (aadd f 1)) fun a => asStr a fun a => .ret .normal [(.bool (a.toList == s1.toList))]) else (.ret .normal [.bool false])) else (.ret .normal [.bool false])) (T92k0)))
theorem T92_eq (p0 : Option Addr) (s1 : ByteArray) : progOf PROG false 92 [(.pointer p0), (.string s1)] = T92 p0 s1 := by kernel_rfl
noncomputable def T93 (p0 : Option Addr) : Pg :=
 .call 98 [.pointer p0] fun a => asPtr a fun a => .call 69 [.pointer p0, (.string (bs [60]))] fun b => asBool b fun b => bif b then (.call 98 [.pointer p0] fun b => asPtr b fun b => .call 73 [.int .i64 14, (.string (bs [60])), .pointer a, .pointer b] fun a => asPtr a fun a => .ret .ret [.pointer a]) else (.call 69 [.pointer p0, (.string (bs [61]))] fun b => asBool b fun b => bif b then (.call 98 [.pointer p0] fun b => asPtr b fun b => .call 73 [.int .i64 14, (.string (bs [61])), .pointer a, .pointer b] fun a => asPtr a fun a => .ret .ret [.pointer a]) else (.ret .ret [.pointer a]))
theorem T93_eq (p0 : Option Addr) : progOf PROG false 93 [(.pointer p0)] = T93 p0 := by kernel_rfl
noncomputable def T94k0 : Ex → List Value → Pg :=
 fun a b => sw a .normal (cB b fun a b => asNil b (.ret .ret [.bool a])) (.fail)
noncomputable def T94 (s0 : ByteArray) : Pg :=
 .call 42 [.string s0] fun a => asTuple a fun a => cL a fun a c _ b => cI b fun b d => cI d fun _ f => asNil f (.join (bif (b == 0) == true then (bif ((c:Int) == 1) == true then (asSome a fun b => grd (decide (0 < (c:Int))) (.act (ld1 (aadd (aadd b 0) 0)) fun b => asInt .i64 b fun b => bif (b == 2) == true then (asSome a fun a => grd (decide (0 < (c:Int))) (.act (ld1 (aadd (aadd a 0) 1)) fun a => asStr a fun a => .ret .normal [(.bool (a.toList == s0.toList))])) else (.ret .normal [.bool false]))) else (.ret .normal [.bool false])) else (.ret .normal [.bool false])) (T94k0))
theorem T94_eq (s0 : ByteArray) : progOf PROG false 94 [(.string s0)] = T94 s0 := by kernel_rfl
noncomputable def T95 : Pg :=
 .ret .ret [.int .i64 4611686018427387903]
theorem T95_eq : progOf PROG false 95 [] = T95 := by kernel_rfl
noncomputable def T96k0 : Ex → List Value → Pg :=
 fun a b => sw a .ret (asNil b (.ret .ret [])) (sw a .normal (asNil b (.ret .normal [])) (.fail))
noncomputable def T96k1 : Ex → List Value → Pg :=
 fun a b => sw a .ret (asNil b (.ret .ret [])) (sw a .normal (asNil b (.ret .normal [])) (.fail))
noncomputable def T96k2 (a3 : Addr) : Ex → List Value → Pg :=
 fun a b => sw a .ret (asNil b (.act (ldN 4 a3) fun a => .ret .ret [a])) (sw a .normal (asNil b (.act (stC a3 [.int .i64 0, (.string (bs [])), .int .i64 0, .int .i64 0]) fun a => asTuple a fun a => asNil a (.act (ldN 4 a3) fun a => .ret .ret [a]))) (.fail))
noncomputable def T96 (s0 : ByteArray) : Pg :=
 .act (newC [.int .i64 0, (.string (bs [])), .int .i64 0, .int .i64 0]) fun a => asPtr a fun a => asSome a fun a => .call 99 [.string s0] fun b => asTuple b fun b => asCons b fun b c => asInt .i32 b fun b => cI c fun _ d => asNil d (.call 100 [.int .i32 b] fun c => asInt .i64 c fun c => .join (.join (bif (c == 1) then (bif (b != 39) then (.call 101 [.string s0] fun b => asAgg b fun b => cI b fun b c => cS c fun c d => cI d fun d f => cI f fun f g => asNil g (.act (stC a [.int .i64 b, .string c, .int .i64 d, .int .i64 f]) fun a => asTuple a fun a => asNil a (.ret .ret []))) else (.ret .normal [])) else (.join (bif (c == 2) then (.call 102 [.string s0, (.func (.func 103) #[] #[])] fun b => asInt .i64 b fun b => grd ((decide (0 ≤ b)) && (decide (b ≤ ((s0.size : Nat) : Int)))) (.call 104 [(.string (s0.extract 0 (Int.toNat b)))] fun c => asTuple c fun c => cI c fun _ d => cB d fun c d => asNil d (bif c then (grd ((decide (0 ≤ b)) && (decide (b ≤ ((s0.size : Nat) : Int)))) (.act (stC a [.int .i64 1, (.string (s0.extract 0 (Int.toNat b))), .int .i64 0, .int .i64 0]) fun a => asTuple a fun a => asNil a (.ret .ret []))) else (.ret .normal [])))) else (bif (c == 4) then (.call 105 [.string s0] fun b => asAgg b fun b => cI b fun b c => cS c fun c d => cI d fun d f => cI f fun f g => asNil g (.act (stC a [.int .i64 b, .string c, .int .i64 d, .int .i64 f]) fun a => asTuple a fun a => asNil a (.ret .ret []))) else (.ret .normal []))) (T96k0))) (T96k1)) (T96k2 a))
theorem T96_eq (s0 : ByteArray) : progOf PROG false 96 [(.string s0)] = T96 s0 := by kernel_rfl
noncomputable def T98k0 : Ex → List Value → Pg :=
 fun a b => sw a .normal (asCons b fun a b => asPtr a fun a => asNil b (.ret .normal [.pointer a])) (sw a (.exit 0) (asCons b fun a b => asPtr a fun a => asNil b (.ret (.exit 0) [.pointer a])) (.fail))
noncomputable def T98k1 : Ex → List Value → Pg :=
 fun a b => sw a .normal (asCons b fun a b => asPtr a fun a => asNil b (.ret .normal [.pointer a])) (sw a (.exit 0) (asCons b fun a b => asPtr a fun a => asNil b (.ret (.exit 0) [.pointer a])) (.fail))
noncomputable def T98b0 (p0 : Option Addr) : List Value → Pg :=
 fun a => asCons a fun a b => asPtr a fun a => asNil b (asSome p0 fun b => .act (ld1 (aadd b 3)) fun b => asBool b fun b => bif (!b) then (.join (.call 69 [.pointer p0, (.string (bs [43]))] fun b => asBool b fun b => .join (bif b then (.call 108 [.pointer p0] fun b => asPtr b fun b => .call 73 [.int .i64 14, (.string (bs [43])), .pointer a, .pointer b] fun a => asPtr a fun a => .ret .normal [.pointer a]) else (.call 69 [.pointer p0, (.string (bs [45]))] fun b => asBool b fun b => bif b then (.call 108 [.pointer p0] fun b => asPtr b fun b => .call 73 [.int .i64 14, (.string (bs [45])), .pointer a, .pointer b] fun a => asPtr a fun a => .ret .normal [.pointer a]) else (.ret (.exit 0) [.pointer a]))) (T98k0)) (T98k1)) else (.ret (.exit 0) [.pointer a]))
noncomputable def T98k2 : Ex → List Value → Pg :=
 fun a b => sw a (.exit 0) (asCons b fun a b => asPtr a fun a => asNil b (.ret .ret [.pointer a])) (.fail)
noncomputable def T98 (p0 : Option Addr) : Pg :=
 .call 108 [.pointer p0] fun a => asPtr a fun a => .loop [.pointer a] (T98b0 p0) (T98k2)
theorem T98_eq (p0 : Option Addr) : progOf PROG false 98 [(.pointer p0)] = T98 p0 := by kernel_rfl
noncomputable def T100k0 (i0 : Int) : Ex → List Value → Pg :=
 fun a b => sw a .normal (cB b fun a b => asNil b (bif a then (.ret .ret [.int .i64 1]) else (bif ((decide (i0 ≥ 48)) && (decide (i0 ≤ 57))) then (.ret .ret [.int .i64 2]) else (.ret .normal [.int .i64 0])))) (.fail)
noncomputable def T100k1 : Ex → List Value → Pg :=
 fun a b => sw a .normal (cB b fun a b => asNil b (.ret .normal [.bool a])) (.fail)
noncomputable def T100k2 : Ex → List Value → Pg :=
 fun a b => sw a .normal (cB b fun a b => asNil b (.ret .normal [.bool a])) (.fail)
noncomputable def T100k3 : Ex → List Value → Pg :=
 fun a b => sw a .normal (cB b fun a b => asNil b (.ret .normal [.bool a])) (.fail)
noncomputable def T100k4 : Ex → List Value → Pg :=
 fun a b => sw a .normal (cB b fun a b => asNil b (.ret .normal [.bool a])) (.fail)
noncomputable def T100k5 : Ex → List Value → Pg :=
 fun a b => sw a .normal (cB b fun a b => asNil b (.ret .normal [.bool a])) (.fail)
noncomputable def T100k6 : Ex → List Value → Pg :=
 fun a b => sw a .normal (cB b fun a b => asNil b (.ret .normal [.bool a])) (.fail)
noncomputable def T100k7 : Ex → List Value → Pg :=
 fun a b => sw a .normal (cB b fun a b => asNil b (.ret .normal [.bool a])) (.fail)
noncomputable def T100k8 : Ex → List Value → Pg :=
 fun a b => sw a .normal (cB b fun a b => asNil b (.ret .normal [.bool a])) (.fail)
noncomputable def T100k9 : Ex → List Value → Pg :=
 fun a b => sw a .normal (cB b fun a b => asNil b (.ret .normal [.bool a])) (.fail)
noncomputable def T100k10 : Ex → List Value → Pg :=
 fun a b => sw a .normal (cB b fun a b => asNil b (.ret .normal [.bool a])) (.fail)
noncomputable def T100k11 : Ex → List Value → Pg :=
 fun a b => sw a .normal (cB b fun a b => asNil b (.ret .normal [.bool a])) (.fail)
noncomputable def T100k12 : Ex → List Value → Pg :=
 fun a b => sw a .normal (cB b fun a b => asNil b (.ret .normal [.bool a])) (.fail)
noncomputable def T100k13 : Ex → List Value → Pg :=
 fun a b => sw a .normal (cB b fun a b => asNil b (.ret .normal [.bool a])) (.fail)
noncomputable def T100k14 (i15 : Int) : Ex → List Value → Pg :=
 fun a b => sw a .normal (cB b fun a b => asNil b (bif a then (.ret .ret [.int .i64 4]) else (.ret .normal [.int .i64 i15]))) (.fail)
noncomputable def T100k15 (i0 : Int) (i15 : Int) : Ex → List Value → Pg :=
 fun a b => sw a .normal (cB b fun a b => asNil b (bif a then (.ret .ret [.int .i64 3]) else (.join (bif (i0 == 40) then (.ret .normal [(.bool (i0 == 40))]) else (.join (bif (i0 == 41) then (.ret .normal [(.bool (i0 == 41))]) else (.join (bif (i0 == 44) then (.ret .normal [(.bool (i0 == 44))]) else (.join (bif (i0 == 59) then (.ret .normal [(.bool (i0 == 59))]) else (.join (bif (i0 == 61) then (.ret .normal [(.bool (i0 == 61))]) else (.join (bif (i0 == 60) then (.ret .normal [(.bool (i0 == 60))]) else (.join (bif (i0 == 62) then (.ret .normal [(.bool (i0 == 62))]) else (.join (bif (i0 == 43) then (.ret .normal [(.bool (i0 == 43))]) else (.join (bif (i0 == 45) then (.ret .normal [(.bool (i0 == 45))]) else (.join (bif (i0 == 42) then (.ret .normal [(.bool (i0 == 42))]) else (.join (bif (i0 == 124) then (.ret .normal [(.bool (i0 == 124))]) else (.join (bif (i0 == 33) then (.ret .normal [(.bool (i0 == 33))]) else (.ret .normal [(.bool (i0 == 58))])) (T100k3))) (T100k4))) (T100k5))) (T100k6))) (T100k7))) (T100k8))) (T100k9))) (T100k10))) (T100k11))) (T100k12))) (T100k13))) (T100k14 i15)))) (.fail)
noncomputable def T100k16 : Ex → List Value → Pg :=
 fun a b => sw a .ret (cI b fun a b => asNil b (.ret .ret [.int .i64 a])) (sw a .normal (cI b fun _ b => asNil b (.ret .ret [.int .i64 0])) (.fail))
noncomputable def T100k17 (i0 : Int) : Ex → List Value → Pg :=
 fun a b => sw a .ret (cI b fun a b => asNil b (.ret .ret [.int .i64 a])) (sw a .normal (cI b fun a b => asNil b (.join (.join (bif (i0 == 32) then (.ret .normal [(.bool (i0 == 32))]) else (.join (bif (i0 == 9) then (.ret .normal [(.bool (i0 == 9))]) else (.join (bif (i0 == 10) then (.ret .normal [(.bool (i0 == 10))]) else (.ret .normal [(.bool (i0 == 13))])) (T100k1))) (T100k2))) (T100k15 i0 a)) (T100k16))) (.fail))
noncomputable def T100 (i0 : Int) : Pg :=
 .join (.join (bif ((i0 == 95) || (i0 == 39)) == false then (.call 88 [.int .i32 i0] fun a => asBool a fun a => .ret .normal [.bool a]) else (.ret .normal [.bool true])) (T100k0 i0)) (T100k17 i0)
theorem T100_eq (i0 : Int) : progOf PROG false 100 [(.int .i32 i0)] = T100 i0 := by kernel_rfl
noncomputable def T101k0 : Ex → List Value → Pg :=
 fun a b => sw a .normal (asNil b (.ret .normal [])) (.fail)
noncomputable def T101k1 : Ex → List Value → Pg :=
 fun a b => sw a .normal (asNil b (.ret .normal [])) (.fail)
noncomputable def T101k2 (a8 : Addr) (a3 : Addr) : Ex → List Value → Pg :=
 fun a b => sw a .normal (asNil b (.act (ldN 4 a8) fun a => asAgg a fun a => cI a fun a b => cS b fun b c => cI c fun c d => cI d fun d f => asNil f (.act (stC a3 [.int .i64 a, .string b, .int .i64 c, .int .i64 d]) fun a => asTuple a fun a => asNil a (.act (ldN 4 a3) fun a => .ret .ret [a])))) (.fail)
noncomputable def T101 (s0 : ByteArray) : Pg :=
 .act (newC [.int .i64 0, (.string (bs [])), .int .i64 0, .int .i64 0]) fun a => asPtr a fun a => asSome a fun a => .call 102 [.string s0, (.func (.func 110) #[] #[])] fun b => asInt .i64 b fun b => grd ((decide (0 ≤ b)) && (decide (b ≤ ((s0.size : Nat) : Int)))) (.act (newC [.int .i64 0, (.string (bs [])), .int .i64 0, .int .i64 0]) fun c => asPtr c fun c => asSome c fun c => .act (stC c [.int .i64 2, (.string (s0.extract 0 (Int.toNat b))), .int .i64 0, .int .i64 0]) fun b => asTuple b fun b => asNil b (.join (.call 111 [.string s0] fun a => asBool a fun a => .join (bif a then (.act (stC (aadd c 0) [.int .i64 3]) fun a => asTuple a fun a => asNil a (.ret .normal [])) else (.act (ld1 (aadd c 1)) fun a => asStr a fun a => .call 112 [.string a] fun a => asBool a fun a => .join (bif a then (.act (stC (aadd c 0) [.int .i64 4]) fun a => asTuple a fun a => asNil a (.ret .normal [])) else (.ret .normal [])) (T101k0))) (T101k1)) (T101k2 c a)))
theorem T101_eq (s0 : ByteArray) : progOf PROG false 101 [(.string s0)] = T101 s0 := by kernel_rfl
noncomputable def T102k0 : Ex → List Value → Pg :=
 fun a b => sw a .ret (cI b fun a b => asNil b (.ret .ret [.int .i64 a])) (sw a .normal (cI b fun a b => asNil b (.ret .normal [.int .i64 a])) (.fail))
noncomputable def T102b0 (a4 : Addr) (v1 : Value) : List Value → Pg :=
 fun a => cI a fun a b => asNil b (.act (nxt (some a4)) fun b => asNx b (fun b c => .join (asFunc v1 fun d f g => .call d (f ++ [.int .i32 c] ++ g) fun c => asBool c fun c => bif (!c) then (.ret .ret [.int .i64 b]) else (.ret .normal [.int .i64 a])) (T102k0)) (.ret (.exit 0) [.int .i64 a]))
noncomputable def T102k1 (s0 : ByteArray) : Ex → List Value → Pg :=
 fun a b => sw a (.exit 0) (cI b fun _ b => asNil b (.ret .ret [(.int .i64 ((s0.size : Nat) : Int))])) (sw a .ret (cI b fun a b => asNil b (.ret .ret [.int .i64 a])) (.fail))
noncomputable def T102 (s0 : ByteArray) (v1 : Value) : Pg :=
 .act (rng s0) fun a => asPtr a fun a => asSome a fun a => .loop [.int .i64 0] (T102b0 a v1) (T102k1 s0)
theorem T102_eq (s0 : ByteArray) (v1 : Value) : progOf PROG false 102 [(.string s0), v1] = T102 s0 v1 := by kernel_rfl
noncomputable def T103 (i0 : Int) : Pg :=
 .call 100 [.int .i32 i0] fun a => asInt .i64 a fun a => .ret .ret [(.bool (a == 2))]
theorem T103_eq (i0 : Int) : progOf PROG false 103 [(.int .i32 i0)] = T103 i0 := by kernel_rfl
noncomputable def T104k0 : Ex → List Value → Pg :=
 fun a b => sw a .ret (cI b fun a b => cB b fun b c => cI c fun c d => asNil d (.ret .ret [.int .i64 a, .bool b, .int .i64 c])) (sw a .normal (cI b fun a b => cB b fun b c => cI c fun c d => asNil d (.ret .normal [.int .i64 a, .bool b, .int .i64 c])) (.fail))
noncomputable def T104b0 (a3 : Addr) : List Value → Pg :=
 fun a => cI a fun a b => cB b fun b c => cI c fun c d => asNil d (.act (nxt (some a3)) fun d => asNx d (fun _ d => .join (bif (decide (a > (wi64 (Int.tdiv (wi64 (4611686018427387903 - (wi64 (wi32 (d - 48))))) 10)))) then (.ret .ret [.int .i64 a, .bool false, .int .i64 0]) else (.ret .normal [(.int .i64 (wi64 ((wi64 (10 * a)) + (wi64 (wi32 (d - 48)))))), .bool b, .int .i64 c])) (T104k0)) (.ret (.exit 0) [.int .i64 a, .bool b, .int .i64 c]))
noncomputable def T104k1 : Ex → List Value → Pg :=
 fun a b => sw a (.exit 0) (cI b fun a b => cB b fun _ c => cI c fun _ c => asNil c (.ret .ret [(.tuple #[.int .i64 a, .bool true])])) (sw a .ret (cI b fun _ b => cB b fun a b => cI b fun b c => asNil c (.ret .ret [(.tuple #[.int .i64 b, .bool a])])) (.fail))
noncomputable def T104 (s0 : ByteArray) : Pg :=
 .act (rng s0) fun a => asPtr a fun a => asSome a fun a => .loop [.int .i64 0, .bool false, .int .i64 0] (T104b0 a) (T104k1)
theorem T104_eq (s0 : ByteArray) : progOf PROG false 104 [(.string s0)] = T104 s0 := by kernel_rfl
noncomputable def T105k0 (i11 : Int) : Ex → List Value → Pg :=
 fun a b => sw a .ret (asNil b (.ret .ret [.int .i64 i11])) (sw a .normal (asNil b (.ret .normal [(.int .i64 (wi64 (i11 + 1)))])) (.fail))
noncomputable def T105b0 (n6 : Nat) (p5 : Option Addr) (s0 : ByteArray) (a3 : Addr) : List Value → Pg :=
 fun a => cI a fun a b => asNil b (bif (decide (a < (n6:Int))) then (.join (asSome p5 fun b => grd (decide (0 ≤ a) && decide (a < (n6:Int))) (.act (ld1 (aadd b ((Int.toNat a) * 1))) fun a => asStr a fun a => .call 113 [.string s0, .string a] fun b => asBool b fun b => bif b then (.act (stC a3 [.int .i64 5, .string a, .int .i64 0, .int .i64 0]) fun a => asTuple a fun a => asNil a (.ret .ret [])) else (.ret .normal []))) (T105k0 a)) else (.ret (.exit 0) [.int .i64 a]))
noncomputable def T105k1 (a3 : Addr) (s0 : ByteArray) : Ex → List Value → Pg :=
 fun a b => sw a .normal (cB b fun a b => asNil b (bif a then (.act (stC a3 [.int .i64 0, (.string (bs [])), .int .i64 0, .int .i64 0]) fun a => asTuple a fun a => asNil a (.act (ldN 4 a3) fun a => .ret .ret [a])) else (grd (decide (1 ≤ ((s0.size : Nat) : Int))) (.act (stC a3 [.int .i64 5, (.string (s0.extract 0 1)), .int .i64 0, .int .i64 0]) fun a => asTuple a fun a => asNil a (.act (ldN 4 a3) fun a => .ret .ret [a]))))) (.fail)
noncomputable def T105k2 (s0 : ByteArray) (a3 : Addr) : Ex → List Value → Pg :=
 fun a b => sw a (.exit 0) (cI b fun _ b => asNil b (.join (grd (decide (0 < ((s0.size : Nat) : Int))) (bif ((byteAt s0 0) == 62) == false then (grd (decide (0 < ((s0.size : Nat) : Int))) (.ret .normal [(.bool ((byteAt s0 0) == 58))])) else (.ret .normal [.bool true]))) (T105k1 a3 s0))) (sw a .ret (cI b fun _ b => asNil b (.act (ldN 4 a3) fun a => .ret .ret [a])) (.fail))
noncomputable def T105 (s0 : ByteArray) : Pg :=
 .act (newC [.int .i64 0, (.string (bs [])), .int .i64 0, .int .i64 0]) fun a => asPtr a fun a => asSome a fun a => .act (bdSl 1 2 [(.string (bs [58, 61])), (.string (bs [45, 62]))]) fun b => asSlice b fun b c _ => .loop [.int .i64 0] (T105b0 c b s0 a) (T105k2 s0 a)
theorem T105_eq (s0 : ByteArray) : progOf PROG false 105 [(.string s0)] = T105 s0 := by kernel_rfl
noncomputable def T108k0 : Ex → List Value → Pg :=
 fun a b => sw a .normal (asCons b fun a b => asPtr a fun a => asNil b (.ret .normal [.pointer a])) (.fail)
noncomputable def T108b0 (p0 : Option Addr) : List Value → Pg :=
 fun a => asCons a fun a b => asPtr a fun a => asNil b (.call 69 [.pointer p0, (.string (bs [42]))] fun b => asBool b fun b => bif b then (.join (.call 114 [.pointer p0] fun b => asPtr b fun b => .call 73 [.int .i64 14, (.string (bs [42])), .pointer a, .pointer b] fun a => asPtr a fun a => .ret .normal [.pointer a]) (T108k0)) else (.ret (.exit 0) [.pointer a]))
noncomputable def T108k1 : Ex → List Value → Pg :=
 fun a b => sw a (.exit 0) (asCons b fun a b => asPtr a fun a => asNil b (.ret .ret [.pointer a])) (.fail)
noncomputable def T108 (p0 : Option Addr) : Pg :=
 .call 114 [.pointer p0] fun a => asPtr a fun a => .loop [.pointer a] (T108b0 p0) (T108k1)
theorem T108_eq (p0 : Option Addr) : progOf PROG false 108 [(.pointer p0)] = T108 p0 := by kernel_rfl
noncomputable def T110 (i0 : Int) : Pg :=
 .call 100 [.int .i32 i0] fun a => asInt .i64 a fun a => .ret .ret [(.bool ((a == 1) || (a == 2)))]
theorem T110_eq (i0 : Int) : progOf PROG false 110 [(.int .i32 i0)] = T110 i0 := by kernel_rfl
noncomputable def T111k0 : Ex → List Value → Pg :=
 fun a b => sw a .ret (cB b fun a b => asNil b (.ret .ret [.bool a])) (.fail)
noncomputable def T111b0 (a3 : Addr) : List Value → Pg :=
 fun a => cB a fun a b => asNil b (.act (nxt (some a3)) fun b => asNx b (fun _ a => .join (.call 90 [.int .i32 a] fun a => asBool a fun a => .ret .ret [.bool a]) (T111k0)) (.ret (.exit 0) [.bool a]))
noncomputable def T111k1 : Ex → List Value → Pg :=
 fun a b => sw a (.exit 0) (cB b fun _ b => asNil b (.ret .ret [.bool false])) (sw a .ret (cB b fun a b => asNil b (.ret .ret [.bool a])) (.fail))
noncomputable def T111 (s0 : ByteArray) : Pg :=
 .act (rng s0) fun a => asPtr a fun a => asSome a fun a => .loop [.bool false] (T111b0 a) (T111k1)
theorem T111_eq (s0 : ByteArray) : progOf PROG false 111 [(.string s0)] = T111 s0 := by kernel_rfl
noncomputable def T112k0 : Ex → List Value → Pg :=
 fun a b => sw a .normal (cB b fun a b => asNil b (.ret .normal [.bool a])) (.fail)
noncomputable def T112k1 : Ex → List Value → Pg :=
 fun a b => sw a .normal (cB b fun a b => asNil b (.ret .normal [.bool a])) (.fail)
noncomputable def T112k2 : Ex → List Value → Pg :=
 fun a b => sw a .normal (cB b fun a b => asNil b (.ret .normal [.bool a])) (.fail)
noncomputable def T112k3 : Ex → List Value → Pg :=
 fun a b => sw a .normal (cB b fun a b => asNil b (.ret .normal [.bool a])) (.fail)
noncomputable def T112k4 : Ex → List Value → Pg :=
 fun a b => sw a .normal (cB b fun a b => asNil b (.ret .normal [.bool a])) (.fail)
noncomputable def T112k5 : Ex → List Value → Pg :=
 fun a b => sw a .normal (cB b fun a b => asNil b (.ret .normal [.bool a])) (.fail)
noncomputable def T112k6 : Ex → List Value → Pg :=
 fun a b => sw a .normal (cB b fun a b => asNil b (.ret .normal [.bool a])) (.fail)
noncomputable def T112k7 : Ex → List Value → Pg :=
 fun a b => sw a .normal (cB b fun a b => asNil b (.ret .normal [.bool a])) (.fail)
noncomputable def T112k8 : Ex → List Value → Pg :=
 fun a b => sw a .normal (cB b fun a b => asNil b (.ret .normal [.bool a])) (.fail)
noncomputable def T112k9 : Ex → List Value → Pg :=
 fun a b => sw a .normal (cB b fun a b => asNil b (.ret .normal [.bool a])) (.fail)
noncomputable def T112k10 : Ex → List Value → Pg :=
 fun a b => sw a .normal (cB b fun a b => asNil b (.ret .normal [.bool a])) (.fail)
noncomputable def T112k11 : Ex → List Value → Pg :=
 fun a b => sw a .normal (cB b fun a b => asNil b (.ret .normal [.bool a])) (.fail)
noncomputable def T112k12 : Ex → List Value → Pg :=
 fun a b => sw a .normal (cB b fun a b => asNil b (.ret .normal [.bool a])) (.fail)
noncomputable def T112k13 : Ex → List Value → Pg :=
 fun a b => sw a .normal (cB b fun a b => asNil b (.ret .normal [.bool a])) (.fail)
noncomputable def T112k14 : Ex → List Value → Pg :=
 fun a b => sw a .normal (cB b fun a b => asNil b (.ret .normal [.bool a])) (.fail)
noncomputable def T112k15 : Ex → List Value → Pg :=
 fun a b => sw a .normal (cB b fun a b => asNil b (.ret .normal [.bool a])) (.fail)
noncomputable def T112k16 : Ex → List Value → Pg :=
 fun a b => sw a .normal (cB b fun a b => asNil b (.ret .normal [.bool a])) (.fail)
noncomputable def T112k17 : Ex → List Value → Pg :=
 fun a b => sw a .normal (cB b fun a b => asNil b (bif a then (.ret .ret [.bool true]) else (.ret .normal [.bool false]))) (.fail)
noncomputable def T112k18 : Ex → List Value → Pg :=
 fun a b => sw a .ret (cB b fun a b => asNil b (.ret .ret [.bool a])) (sw a .normal (cB b fun _ b => asNil b (.ret .ret [.bool false])) (.fail))
noncomputable def T112 (s0 : ByteArray) : Pg :=
 .join (.join (bif (s0.toList == (bs [116, 121, 112, 101]).toList) then (.ret .normal [(.bool (s0.toList == (bs [116, 121, 112, 101]).toList))]) else (.join (bif (s0.toList == (bs [111, 102]).toList) then (.ret .normal [(.bool (s0.toList == (bs [111, 102]).toList))]) else (.join (bif (s0.toList == (bs [108, 101, 116]).toList) then (.ret .normal [(.bool (s0.toList == (bs [108, 101, 116]).toList))]) else (.join (bif (s0.toList == (bs [114, 101, 99]).toList) then (.ret .normal [(.bool (s0.toList == (bs [114, 101, 99]).toList))]) else (.join (bif (s0.toList == (bs [105, 110]).toList) then (.ret .normal [(.bool (s0.toList == (bs [105, 110]).toList))]) else (.join (bif (s0.toList == (bs [102, 117, 110]).toList) then (.ret .normal [(.bool (s0.toList == (bs [102, 117, 110]).toList))]) else (.join (bif (s0.toList == (bs [105, 102]).toList) then (.ret .normal [(.bool (s0.toList == (bs [105, 102]).toList))]) else (.join (bif (s0.toList == (bs [116, 104, 101, 110]).toList) then (.ret .normal [(.bool (s0.toList == (bs [116, 104, 101, 110]).toList))]) else (.join (bif (s0.toList == (bs [101, 108, 115, 101]).toList) then (.ret .normal [(.bool (s0.toList == (bs [101, 108, 115, 101]).toList))]) else (.join (bif (s0.toList == (bs [109, 97, 116, 99, 104]).toList) then (.ret .normal [(.bool (s0.toList == (bs [109, 97, 116, 99, 104]).toList))]) else (.join (bif (s0.toList == (bs [119, 105, 116, 104]).toList) then (.ret .normal [(.bool (s0.toList == (bs [119, 105, 116, 104]).toList))]) else (.join (bif (s0.toList == (bs [101, 110, 100]).toList) then (.ret .normal [(.bool (s0.toList == (bs [101, 110, 100]).toList))]) else (.join (bif (s0.toList == (bs [114, 101, 102]).toList) then (.ret .normal [(.bool (s0.toList == (bs [114, 101, 102]).toList))]) else (.join (bif (s0.toList == (bs [112, 114, 105, 110, 116]).toList) then (.ret .normal [(.bool (s0.toList == (bs [112, 114, 105, 110, 116]).toList))]) else (.join (bif (s0.toList == (bs [114, 101, 97, 100]).toList) then (.ret .normal [(.bool (s0.toList == (bs [114, 101, 97, 100]).toList))]) else (.join (bif (s0.toList == (bs [114, 97, 105, 115, 101]).toList) then (.ret .normal [(.bool (s0.toList == (bs [114, 97, 105, 115, 101]).toList))]) else (.join (bif (s0.toList == (bs [116, 114, 121]).toList) then (.ret .normal [(.bool (s0.toList == (bs [116, 114, 121]).toList))]) else (.join (bif (s0.toList == (bs [116, 114, 117, 101]).toList) then (.ret .normal [(.bool (s0.toList == (bs [116, 114, 117, 101]).toList))]) else (.ret .normal [(.bool (s0.toList == (bs [102, 97, 108, 115, 101]).toList))])) (T112k0))) (T112k1))) (T112k2))) (T112k3))) (T112k4))) (T112k5))) (T112k6))) (T112k7))) (T112k8))) (T112k9))) (T112k10))) (T112k11))) (T112k12))) (T112k13))) (T112k14))) (T112k15))) (T112k16))) (T112k17)) (T112k18)
theorem T112_eq (s0 : ByteArray) : progOf PROG false 112 [(.string s0)] = T112 s0 := by kernel_rfl
noncomputable def T113 (s0 : ByteArray) (s1 : ByteArray) : Pg :=
 .call 115 [.string s0, .string s1] fun a => asBool a fun a => .ret .ret [.bool a]
theorem T113_eq (s0 : ByteArray) (s1 : ByteArray) : progOf PROG false 113 [(.string s0), (.string s1)] = T113 s0 s1 := by kernel_rfl
noncomputable def T114k0 : Ex → List Value → Pg :=
 fun a b => sw a .normal (asCons b fun a b => asPtr a fun a => asNil b (.ret .normal [.pointer a])) (.fail)
noncomputable def T114b0 (p0 : Option Addr) : List Value → Pg :=
 fun a => asCons a fun a b => asPtr a fun a => asNil b (.call 117 [.pointer p0] fun b => asBool b fun b => bif b then (.join (.call 116 [.pointer p0] fun b => asPtr b fun b => .call 73 [.int .i64 7, (.string (bs [])), .pointer a, .pointer b] fun a => asPtr a fun a => .ret .normal [.pointer a]) (T114k0)) else (.ret (.exit 0) [.pointer a]))
noncomputable def T114k1 : Ex → List Value → Pg :=
 fun a b => sw a (.exit 0) (asCons b fun a b => asPtr a fun a => asNil b (.ret .ret [.pointer a])) (.fail)
noncomputable def T114 (p0 : Option Addr) : Pg :=
 .call 116 [.pointer p0] fun a => asPtr a fun a => .loop [.pointer a] (T114b0 p0) (T114k1)
theorem T114_eq (p0 : Option Addr) : progOf PROG false 114 [(.pointer p0)] = T114 p0 := by kernel_rfl
noncomputable def T115k0 : Ex → List Value → Pg :=
 fun a b => sw a .normal (cB b fun a b => asNil b (.ret .ret [.bool a])) (.fail)
noncomputable def T115 (s0 : ByteArray) (s1 : ByteArray) : Pg :=
 .join (bif (decide (((s0.size : Nat) : Int) ≥ ((s1.size : Nat) : Int))) == true then (grd (decide (((s1.size : Nat) : Int) ≤ ((s0.size : Nat) : Int))) (.ret .normal [(.bool ((s0.extract 0 s1.size).toList == s1.toList))])) else (.ret .normal [.bool false])) (T115k0)
theorem T115_eq (s0 : ByteArray) (s1 : ByteArray) : progOf PROG false 115 [(.string s0), (.string s1)] = T115 s0 s1 := by kernel_rfl
noncomputable def T116k0 (i26 : Int) : Ex → List Value → Pg :=
 fun a b => sw a .ret (asCons b fun a b => asPtr a fun a => asNil b (.ret .ret [.int .i64 i26, .pointer a])) (sw a .normal (asCons b fun a b => asPtr a fun a => asNil b (.ret .normal [(.int .i64 (wi64 (i26 + 1))), .pointer a])) (.fail))
noncomputable def T116b0 (p16 : Option Addr) (n17 : Nat) (p0 : Option Addr) (p20 : Option Addr) (n21 : Nat) (i11 : Int) : List Value → Pg :=
 fun a => cI a fun a b => asCons b fun b c => asPtr b fun b => asNil c (bif (decide (a < 4)) then (.join (asSome p16 fun c => grd (decide (0 ≤ a) && decide (a < (n17:Int))) (.act (ld1 (aadd c ((Int.toNat a) * 1))) fun c => asStr c fun c => .call 69 [.pointer p0, .string c] fun c => asBool c fun c => bif c then (.call 116 [.pointer p0] fun b => asPtr b fun b => asSome p20 fun c => grd (decide (0 ≤ a) && decide (a < (n21:Int))) (.act (ld1 (aadd c ((Int.toNat a) * 1))) fun d => asInt .i64 d fun f => asSome b fun g => .act (ld1 (aadd (aadd g 0) 6)) fun h => asInt .i64 h fun i => .act (bdSl 1 1 [.pointer b]) fun b => asSlice b fun b j k => .get fun l => grd (chks [((ld1 (aadd (aadd g 0) 6)), h), ((ld1 (aadd c ((Int.toNat a) * 1))), d)] l) (.act (newC [.int .i64 f, .int .i64 0, (.string (bs [])), (.string (bs [])), .slice none 0 0, .int .i64 i11, .int .i64 i, .slice b j k]) fun a => asPtr a fun a => asSome a fun a => .ret .ret [(.pointer (some a))]))) else (.ret .normal [.pointer b]))) (T116k0 a)) else (.ret (.exit 0) [.int .i64 a, .pointer b]))
noncomputable def T116k1 (p0 : Option Addr) : Ex → List Value → Pg :=
 fun a b => sw a (.exit 0) (cI b fun _ b => asCons b fun a b => asPtr a fun _ => asNil b (.call 118 [.pointer p0] fun a => asPtr a fun a => .ret .ret [.pointer a])) (sw a .ret (cI b fun _ b => asCons b fun a b => asPtr a fun a => asNil b (.ret .ret [.pointer a])) (.fail))
noncomputable def T116 (p0 : Option Addr) : Pg :=
 .call 45 [.pointer p0] fun a => asAgg a fun a => cI a fun _ b => cS b fun _ b => cI b fun a b => cI b fun _ c => asNil c (.act (bdSl 1 4 [(.string (bs [114, 101, 102])), (.string (bs [33])), (.string (bs [112, 114, 105, 110, 116])), (.string (bs [114, 97, 105, 115, 101]))]) fun b => asSlice b fun b c _ => .act (bdSl 1 4 [.int .i64 15, .int .i64 16, .int .i64 17, .int .i64 19]) fun d => asSlice d fun d f _ => .loop [.int .i64 0, .pointer none] (T116b0 b c p0 d f a) (T116k1 p0))
theorem T116_eq (p0 : Option Addr) : progOf PROG false 116 [(.pointer p0)] = T116 p0 := by kernel_rfl
noncomputable def T117k0 : Ex → List Value → Pg :=
 fun a b => sw a .normal (cB b fun a b => asNil b (.ret .ret [.bool a])) (.fail)
noncomputable def T117k1 (a17 : Addr) : Ex → List Value → Pg :=
 fun a b => sw a .normal (cB b fun a b => asNil b (bif a then (.ret .ret [.bool true]) else (.act (bdSl 1 13 [(.string (bs [114, 101, 102])), (.string (bs [33])), (.string (bs [112, 114, 105, 110, 116])), (.string (bs [114, 97, 105, 115, 101])), (.string (bs [116, 114, 117, 101])), (.string (bs [102, 97, 108, 115, 101])), (.string (bs [114, 101, 97, 100])), (.string (bs [40])), (.string (bs [102, 117, 110])), (.string (bs [108, 101, 116])), (.string (bs [105, 102])), (.string (bs [109, 97, 116, 99, 104])), (.string (bs [116, 114, 121]))]) fun a => asSlice a fun a b c => .join (.act (ld1 (aadd a17 0)) fun d => asInt .i64 d fun d => bif (decide (d > 3)) == true then (.act (ld1 (aadd a17 1)) fun d => asStr d fun d => .call 77 [.slice a b c, .string d] fun a => asBool a fun a => .ret .normal [.bool a]) else (.ret .normal [.bool false])) (T117k0)))) (.fail)
noncomputable def T117k2 (a17 : Addr) : Ex → List Value → Pg :=
 fun a b => sw a .normal (cB b fun a b => asNil b (bif a then (.ret .ret [.bool false]) else (.join (.act (ld1 (aadd a17 0)) fun a => asInt .i64 a fun a => bif (a == 1) == false then (.act (ld1 (aadd a17 0)) fun a => asInt .i64 a fun a => bif (a == 3) == false then (.act (ld1 (aadd a17 0)) fun a => asInt .i64 a fun a => bif (a == 2) == true then (.act (ld1 (aadd a17 1)) fun a => asStr a fun a => .ret .normal [(.bool (!(a.toList == (bs [95]).toList)))]) else (.ret .normal [.bool false])) else (.ret .normal [.bool true])) else (.ret .normal [.bool true])) (T117k1 a17)))) (.fail)
noncomputable def T117 (p0 : Option Addr) : Pg :=
 .call 45 [.pointer p0] fun a => asAgg a fun a => cI a fun a b => cS b fun b c => cI c fun c d => cI d fun d f => asNil f (.act (newC [.int .i64 0, (.string (bs [])), .int .i64 0, .int .i64 0]) fun f => asPtr f fun f => asSome f fun f => .act (stC f [.int .i64 a, .string b, .int .i64 c, .int .i64 d]) fun a => asTuple a fun a => asNil a (.join (asSome p0 fun a => .act (ld1 (aadd a 3)) fun a => asBool a fun a => bif a == false then (.act (ld1 (aadd f 0)) fun a => asInt .i64 a fun a => .ret .normal [(.bool (a == 0))]) else (.ret .normal [.bool true])) (T117k2 f)))
theorem T117_eq (p0 : Option Addr) : progOf PROG false 117 [(.pointer p0)] = T117 p0 := by kernel_rfl
noncomputable def T118k0 (p0 : Option Addr) : Ex → List Value → Pg :=
 fun a b => sw a .ret (asCons b fun a b => asPtr a fun a => asNil b (.ret .ret [.pointer a])) (sw a .normal (asCons b fun a b => asPtr a fun _ => asNil b (.call 124 [.pointer p0] fun a => asPtr a fun a => .ret .ret [.pointer a])) (.fail))
noncomputable def T118k1 (a17 : Addr) (p0 : Option Addr) : Ex → List Value → Pg :=
 fun a b => sw a .ret (asCons b fun a b => asPtr a fun a => asNil b (.ret .ret [.pointer a])) (sw a .normal (asCons b fun a b => asPtr a fun a => asNil b (.act (ld1 (aadd a17 1)) fun b => asStr b fun b => .join (bif (b.toList == (bs [116, 114, 117, 101]).toList) then (.call 120 [.pointer p0, (.agg #[.int .i64 2, .int .i64 1, (.string (bs [])), (.string (bs [])), .slice none 0 0, .int .i64 0, .int .i64 0])] fun a => asPtr a fun a => .ret .ret [.pointer a]) else (bif (b.toList == (bs [102, 97, 108, 115, 101]).toList) then (.call 120 [.pointer p0, (.agg #[.int .i64 2, .int .i64 0, (.string (bs [])), (.string (bs [])), .slice none 0 0, .int .i64 0, .int .i64 0])] fun a => asPtr a fun a => .ret .ret [.pointer a]) else (bif (b.toList == (bs [114, 101, 97, 100]).toList) then (.call 120 [.pointer p0, (.agg #[.int .i64 18, .int .i64 0, (.string (bs [])), (.string (bs [])), .slice none 0 0, .int .i64 0, .int .i64 0])] fun a => asPtr a fun a => .ret .ret [.pointer a]) else (bif (b.toList == (bs [40]).toList) then (.call 123 [.pointer p0] fun a => asPtr a fun a => .ret .ret [.pointer a]) else (.ret .normal [.pointer a]))))) (T118k0 p0))) (.fail))
noncomputable def T118 (p0 : Option Addr) : Pg :=
 .call 45 [.pointer p0] fun a => asAgg a fun a => cI a fun a b => cS b fun b c => cI c fun c d => cI d fun d f => asNil f (.act (newC [.int .i64 0, (.string (bs [])), .int .i64 0, .int .i64 0]) fun f => asPtr f fun f => asSome f fun f => .act (stC f [.int .i64 a, .string b, .int .i64 c, .int .i64 d]) fun a => asTuple a fun a => asNil a (.call 117 [.pointer p0] fun a => asBool a fun a => bif (!a) then (asSome p0 fun a => .act (stC (aadd a 3) [.bool true]) fun a => asTuple a fun a => asNil a (.call 119 [] fun a => asPtr a fun a => .ret .ret [.pointer a])) else (.act (ld1 (aadd f 0)) fun a => asInt .i64 a fun a => .join (bif (a == 1) then (.act (ld1 (aadd f 1)) fun a => asStr a fun a => .call 121 [.string a] fun a => asInt .i64 a fun a => .call 120 [.pointer p0, (.agg #[.int .i64 1, .int .i64 a, (.string (bs [])), (.string (bs [])), .slice none 0 0, .int .i64 0, .int .i64 0])] fun a => asPtr a fun a => .ret .ret [.pointer a]) else (bif (a == 2) then (.act (ld1 (aadd f 1)) fun a => asStr a fun a => .call 120 [.pointer p0, (.agg #[.int .i64 4, .int .i64 0, .string a, (.string (bs [])), .slice none 0 0, .int .i64 0, .int .i64 0])] fun a => asPtr a fun a => .ret .ret [.pointer a]) else (bif (a == 3) then (.call 122 [.pointer p0] fun a => asPtr a fun a => .ret .ret [.pointer a]) else (.ret .normal [.pointer none])))) (T118k1 f p0))))
theorem T118_eq (p0 : Option Addr) : progOf PROG false 118 [(.pointer p0)] = T118 p0 := by kernel_rfl
noncomputable def T119 : Pg :=
 .act (newC [.int .i64 3, .int .i64 0, (.string (bs [])), (.string (bs [])), .slice none 0 0, .int .i64 0, .int .i64 0, .slice none 0 0]) fun a => asPtr a fun a => asSome a fun a => .ret .ret [(.pointer (some a))]
theorem T119_eq : progOf PROG false 119 [] = T119 := by kernel_rfl
noncomputable def T120 (p0 : Option Addr) (i1 : Int) (i2 : Int) (s3 : ByteArray) (s4 : ByteArray) (p5 : Option Addr) (n6 : Nat) (n7 : Nat) (i8 : Int) (i9 : Int) : Pg :=
 .act (newC [.int .i64 i1, .int .i64 i2, .string s3, .string s4, .slice p5 n6 n7, .int .i64 i8, .int .i64 i9]) fun a => asPtr a fun a => asSome a fun a => .call 45 [.pointer p0] fun b => asAgg b fun b => cI b fun _ c => cS c fun _ c => cI c fun b c => cI c fun _ d => asNil d (.call 45 [.pointer p0] fun c => asAgg c fun c => cI c fun _ d => cS d fun _ d => cI d fun _ d => cI d fun c d => asNil d (.act (stC (aadd a 5) [.int .i64 b]) fun b => asTuple b fun b => asNil b (.act (stC (aadd a 6) [.int .i64 c]) fun b => asTuple b fun b => asNil b (asSome p0 fun b => .act (ld1 (aadd b 1)) fun b => asInt .i64 b fun b => asSome p0 fun c => .act (stC (aadd c 1) [(.int .i64 (wi64 (b + 1)))]) fun b => asTuple b fun b => asNil b (.act (ldN 7 a) fun a => asAgg a fun a => cI a fun a b => cI b fun b c => cS c fun c d => cS d fun d f => cL f fun f h i g => cI g fun g j => cI j fun j k => asNil k (.act (newC [.int .i64 a, .int .i64 b, .string c, .string d, .slice f h i, .int .i64 g, .int .i64 j, .slice none 0 0]) fun a => asPtr a fun a => asSome a fun a => .ret .ret [(.pointer (some a))]))))))
theorem T120_eq (p0 : Option Addr) (i1 : Int) (i2 : Int) (s3 : ByteArray) (s4 : ByteArray) (p5 : Option Addr) (n6 : Nat) (n7 : Nat) (i8 : Int) (i9 : Int) : progOf PROG false 120 [(.pointer p0), (.agg #[(.int .i64 i1), (.int .i64 i2), (.string s3), (.string s4), (.slice p5 n6 n7), (.int .i64 i8), (.int .i64 i9)])] = T120 p0 i1 i2 s3 s4 p5 n6 n7 i8 i9 := by kernel_rfl
noncomputable def T121k0 (i4 : Int) : Ex → List Value → Pg :=
 fun a b => sw a .normal (cI b fun a b => asNil b (.ret .normal [(.int .i64 (wi64 (i4 + 1))), .int .i64 a])) (.fail)
noncomputable def T121b0 (s0 : ByteArray) : List Value → Pg :=
 fun a => cI a fun a b => cI b fun b c => asNil c (bif (decide (a < ((s0.size : Nat) : Int))) then (.join (grd ((decide (0 ≤ a)) && (decide (a < ((s0.size : Nat) : Int)))) (.ret .normal [(.int .i64 (wi64 ((wi64 (10 * b)) + (wi64 (wu8 ((byteAt s0 (Int.toNat a)) - 48))))))])) (T121k0 a)) else (.ret (.exit 0) [.int .i64 a, .int .i64 b]))
noncomputable def T121k1 : Ex → List Value → Pg :=
 fun a b => sw a (.exit 0) (cI b fun _ b => cI b fun a b => asNil b (.ret .ret [.int .i64 a])) (.fail)
noncomputable def T121 (s0 : ByteArray) : Pg :=
 .loop [.int .i64 0, .int .i64 0] (T121b0 s0) (T121k1)
theorem T121_eq (s0 : ByteArray) : progOf PROG false 121 [(.string s0)] = T121 s0 := by kernel_rfl
noncomputable def T122k0 : Ex → List Value → Pg :=
 fun a b => sw a .normal (asNil b (.ret .normal [])) (.fail)
noncomputable def T122b0 (p0 : Option Addr) (p16 : Option Addr) : List Value → Pg :=
 fun a => asNil a (.call 69 [.pointer p0, (.string (bs [44]))] fun a => asBool a fun a => bif a then (.join (asSome p16 fun a => .act (ld1 (aadd a 7)) fun b => asSlice b fun c d f => .call 44 [.pointer p0] fun g => asPtr g fun g => .get fun h => grd (chks [((ld1 (aadd a 7)), b)] h) (.act (bdSl 1 1 [.pointer g]) fun g => asSlice g fun g h i => .get fun j => grd (chks [((ld1 (aadd a 7)), b)] j) (.act (apS 1 8 c d f g h i) fun a => asSlice a fun a b c => asSome p16 fun d => .act (stC (aadd d 7) [.slice a b c]) fun a => asTuple a fun a => asNil a (.ret .normal [])))) (T122k0)) else (.ret (.exit 0) []))
noncomputable def T122k1 (p0 : Option Addr) (p16 : Option Addr) : Ex → List Value → Pg :=
 fun a b => sw a (.exit 0) (asNil b (.call 71 [.pointer p0, (.string (bs [41]))] fun a => asTuple a fun a => asNil a (.call 125 [.pointer p0] fun a => asInt .i64 a fun a => asSome p16 fun b => .act (stC (aadd (aadd b 0) 6) [.int .i64 a]) fun a => asTuple a fun a => asNil a (.ret .ret [.pointer p16])))) (.fail)
noncomputable def T122k2 (p16 : Option Addr) (p0 : Option Addr) : Ex → List Value → Pg :=
 fun a b => sw a .normal (cB b fun a b => asNil b (bif a then (.ret .ret [.pointer p16]) else (.call 71 [.pointer p0, (.string (bs [40]))] fun a => asTuple a fun a => asNil a (asSome p16 fun a => .act (ld1 (aadd a 7)) fun b => asSlice b fun c d f => .call 44 [.pointer p0] fun g => asPtr g fun g => .get fun h => grd (chks [((ld1 (aadd a 7)), b)] h) (.act (bdSl 1 1 [.pointer g]) fun g => asSlice g fun g h i => .get fun j => grd (chks [((ld1 (aadd a 7)), b)] j) (.act (apS 1 8 c d f g h i) fun a => asSlice a fun a b c => asSome p16 fun d => .act (stC (aadd d 7) [.slice a b c]) fun a => asTuple a fun a => asNil a (.loop [] (T122b0 p0 p16) (T122k1 p0 p16)))))))) (.fail)
noncomputable def T122 (p0 : Option Addr) : Pg :=
 .call 45 [.pointer p0] fun a => asAgg a fun a => cI a fun _ b => cS b fun a b => cI b fun _ c => cI c fun _ c => asNil c (.call 120 [.pointer p0, (.agg #[.int .i64 5, .int .i64 0, .string a, (.string (bs [])), .slice none 0 0, .int .i64 0, .int .i64 0])] fun a => asPtr a fun a => .join (.call 92 [.pointer p0, (.string (bs [40]))] fun a => asBool a fun a => bif (!a) == false then (asSome p0 fun a => .act (ld1 (aadd a 1)) fun a => asInt .i64 a fun a => asSome p0 fun b => .act (ld1 (aadd b 0)) fun b => asSlice b fun _ b _ => bif (decide ((wi64 (a + 1)) < (b:Int))) == true then (asSome p0 fun a => .act (ld1 (aadd a 0)) fun a => asSlice a fun a b _ => asSome p0 fun c => .act (ld1 (aadd c 1)) fun c => asInt .i64 c fun c => asSome a fun a => grd ((decide (0 ≤ (wi64 (c + 1)))) && (decide ((wi64 (c + 1)) < (b:Int)))) (.act (ld1 (aadd (aadd a ((Int.toNat (wi64 (c + 1))) * 4)) 0)) fun a => asInt .i64 a fun a => bif (a == 5) == true then (asSome p0 fun a => .act (ld1 (aadd a 0)) fun a => asSlice a fun a b _ => asSome p0 fun c => .act (ld1 (aadd c 1)) fun c => asInt .i64 c fun c => asSome a fun a => grd ((decide (0 ≤ (wi64 (c + 1)))) && (decide ((wi64 (c + 1)) < (b:Int)))) (.act (ld1 (aadd (aadd a ((Int.toNat (wi64 (c + 1))) * 4)) 1)) fun a => asStr a fun a => .ret .normal [(.bool (a.toList == (bs [41]).toList))])) else (.ret .normal [.bool false]))) else (.ret .normal [.bool false])) else (.ret .normal [.bool true])) (T122k2 a p0))
theorem T122_eq (p0 : Option Addr) : progOf PROG false 122 [(.pointer p0)] = T122 p0 := by kernel_rfl
noncomputable def T123 (p0 : Option Addr) : Pg :=
 .call 45 [.pointer p0] fun a => asAgg a fun a => cI a fun _ b => cS b fun _ b => cI b fun a b => cI b fun _ c => asNil c (.call 71 [.pointer p0, (.string (bs [40]))] fun b => asTuple b fun b => asNil b (.call 69 [.pointer p0, (.string (bs [41]))] fun b => asBool b fun b => bif b then (.call 125 [.pointer p0] fun b => asInt .i64 b fun b => .act (newC [.int .i64 3, .int .i64 0, (.string (bs [])), (.string (bs [])), .slice none 0 0, .int .i64 a, .int .i64 b, .slice none 0 0]) fun a => asPtr a fun a => asSome a fun a => .ret .ret [(.pointer (some a))]) else (.call 44 [.pointer p0] fun a => asPtr a fun a => .call 71 [.pointer p0, (.string (bs [41]))] fun b => asTuple b fun b => asNil b (.ret .ret [.pointer a]))))
theorem T123_eq (p0 : Option Addr) : progOf PROG false 123 [(.pointer p0)] = T123 p0 := by kernel_rfl
noncomputable def T124k0 (p0 : Option Addr) : Ex → List Value → Pg :=
 fun a b => sw a .normal (asNil b (.call 71 [.pointer p0, (.string (bs [61]))] fun a => asTuple a fun a => asNil a (.call 44 [.pointer p0] fun a => asPtr a fun a => .act (bdSl 1 1 [.pointer a]) fun a => asSlice a fun a b c => .act (apS 1 8 none 0 0 a b c) fun a => asSlice a fun a b c => .call 71 [.pointer p0, (.string (bs [105, 110]))] fun d => asTuple d fun d => asNil d (.call 44 [.pointer p0] fun d => asPtr d fun d => .act (bdSl 1 1 [.pointer d]) fun d => asSlice d fun d f g => .act (apS 1 8 a b c d f g) fun a => asSlice a fun a b c => .ret .normal [.bool false, .slice a b c])))) (.fail)
noncomputable def T124k1 (p0 : Option Addr) (a17 : Addr) : Ex → List Value → Pg :=
 fun a b => sw a .normal (asNil b (.call 70 [.pointer p0, .int .i64 2] fun a => asStr a fun a => .act (stC (aadd a17 2) [.string a]) fun a => asTuple a fun a => asNil a (.act (ld1 (aadd a17 0)) fun a => asInt .i64 a fun a => .join (bif (a == 9) then (.call 70 [.pointer p0, .int .i64 2] fun a => asStr a fun a => .act (stC (aadd a17 3) [.string a]) fun a => asTuple a fun a => asNil a (.ret .normal [])) else (.ret .normal [])) (T124k0 p0)))) (.fail)
noncomputable def T124k2 (p0 : Option Addr) : Ex → List Value → Pg :=
 fun a b => sw a .normal (cL b fun a c d b => asNil b (.call 69 [.pointer p0, (.string (bs [124]))] fun b => asBool b fun b => .ret .normal [.bool b, .slice a c d])) (.fail)
noncomputable def T124k3 (p0 : Option Addr) (p146 : Option Addr) (n147 : Nat) (n148 : Nat) (b143 : Bool) : Ex → List Value → Pg :=
 fun a b => sw a .normal (cB b fun a b => asNil b (bif a then (.join (.call 126 [.pointer p0] fun a => asPtr a fun a => .act (bdSl 1 1 [.pointer a]) fun a => asSlice a fun a b c => .act (apS 1 8 p146 n147 n148 a b c) fun a => asSlice a fun a b c => .call 71 [.pointer p0, (.string (bs [45, 62]))] fun d => asTuple d fun d => asNil d (.call 44 [.pointer p0] fun d => asPtr d fun d => .act (bdSl 1 1 [.pointer d]) fun d => asSlice d fun d f g => .act (apS 1 8 a b c d f g) fun a => asSlice a fun a b c => .ret .normal [.slice a b c])) (T124k2 p0)) else (.ret (.exit 1) [.bool b143, .slice p146 n147 n148]))) (.fail)
noncomputable def T124b0 (p0 : Option Addr) : List Value → Pg :=
 fun a => cB a fun a b => cL b fun b d f c => asNil c (.join (bif a == true then (asSome p0 fun a => .act (ld1 (aadd a 3)) fun a => asBool a fun a => .ret .normal [(.bool (!a))]) else (.ret .normal [.bool false])) (T124k3 p0 b d f a))
noncomputable def T124k4 (p0 : Option Addr) : Ex → List Value → Pg :=
 fun a b => sw a (.exit 1) (cB b fun _ b => cL b fun a c d b => asNil b (.call 71 [.pointer p0, (.string (bs [101, 110, 100]))] fun b => asTuple b fun b => asNil b (.ret .normal [.slice a c d, .bool true]))) (.fail)
noncomputable def T124k5 : Ex → List Value → Pg :=
 fun a b => sw a .normal (cL b fun a c d b => cB b fun b f => asNil f (.ret .normal [.slice a c d, .bool b])) (.fail)
noncomputable def T124k6 : Ex → List Value → Pg :=
 fun a b => sw a .normal (cL b fun a c d b => cB b fun b f => asNil f (.ret .normal [.bool b, .slice a c d])) (.fail)
noncomputable def T124k7 : Ex → List Value → Pg :=
 fun a b => sw a .normal (cB b fun a b => cL b fun b d f c => asNil c (.ret .normal [.bool a, .slice b d f])) (.fail)
noncomputable def T124k8 : Ex → List Value → Pg :=
 fun a b => sw a .normal (cB b fun a b => cL b fun b d f c => asNil c (.ret .normal [.bool a, .slice b d f])) (.fail)
noncomputable def T124k9 : Ex → List Value → Pg :=
 fun a b => sw a .normal (cB b fun a b => cL b fun b d f c => asNil c (.ret .normal [.bool a, .slice b d f])) (.fail)
noncomputable def T124k10 (a17 : Addr) (p291 : Option Addr) (n292 : Nat) (n293 : Nat) : Ex → List Value → Pg :=
 fun a b => sw a .normal (asNil b (.act (ldN 7 a17) fun a => asAgg a fun a => cI a fun a b => cI b fun b c => cS c fun c d => cS d fun d f => cL f fun f h i g => cI g fun g j => cI j fun j k => asNil k (.act (newC [.int .i64 a, .int .i64 b, .string c, .string d, .slice f h i, .int .i64 g, .int .i64 j, .slice p291 n292 n293]) fun a => asPtr a fun a => asSome a fun a => .ret .ret [(.pointer (some a))]))) (.fail)
noncomputable def T124k11 (p0 : Option Addr) (p291 : Option Addr) (n292 : Nat) (a17 : Addr) (b288 : Bool) (n293 : Nat) : Ex → List Value → Pg :=
 fun a b => sw a .normal (cB b fun a b => asNil b (bif a then (asSome p0 fun a => .act (stC (aadd a 3) [.bool true]) fun a => asTuple a fun a => asNil a (.call 119 [] fun a => asPtr a fun a => .ret .ret [.pointer a])) else (asSome p291 fun a => grd ((decide (0 ≤ (wi64 ((n292:Int) - 1)))) && (decide ((wi64 ((n292:Int) - 1)) < (n292:Int)))) (.act (ld1 (aadd a ((Int.toNat (wi64 ((n292:Int) - 1))) * 1))) fun a => asPtr a fun a => asSome a fun a => .act (ld1 (aadd (aadd a 0) 6)) fun a => asInt .i64 a fun a => .act (stC (aadd a17 6) [.int .i64 a]) fun a => asTuple a fun a => asNil a (.join (bif b288 then (.call 125 [.pointer p0] fun a => asInt .i64 a fun a => .act (stC (aadd a17 6) [.int .i64 a]) fun a => asTuple a fun a => asNil a (.ret .normal [])) else (.ret .normal [])) (T124k10 a17 p291 n292 n293)))))) (.fail)
noncomputable def T124k12 (p0 : Option Addr) (a17 : Addr) : Ex → List Value → Pg :=
 fun a b => sw a .normal (cB b fun a b => cL b fun b d f c => asNil c (.join (asSome p0 fun a => .act (ld1 (aadd a 3)) fun a => asBool a fun a => bif a == false then (.ret .normal [(.bool ((d:Int) == 0))]) else (.ret .normal [.bool true])) (T124k11 p0 b d a17 a f))) (.fail)
noncomputable def T124 (p0 : Option Addr) : Pg :=
 .call 45 [.pointer p0] fun a => asAgg a fun a => cI a fun _ b => cS b fun _ b => cI b fun a b => cI b fun _ c => asNil c (.act (newC [.int .i64 0, .int .i64 0, (.string (bs [])), (.string (bs [])), .slice none 0 0, .int .i64 0, .int .i64 0]) fun b => asPtr b fun b => asSome b fun b => .act (stC b [.int .i64 0, .int .i64 0, (.string (bs [])), (.string (bs [])), .slice none 0 0, .int .i64 a, .int .i64 0]) fun a => asTuple a fun a => asNil a (.join (.call 69 [.pointer p0, (.string (bs [102, 117, 110]))] fun a => asBool a fun a => .join (bif a then (.call 70 [.pointer p0, .int .i64 2] fun a => asStr a fun a => .act (stC (aadd b 0) [.int .i64 6]) fun c => asTuple c fun c => asNil c (.act (stC (aadd b 3) [.string a]) fun a => asTuple a fun a => asNil a (.call 71 [.pointer p0, (.string (bs [45, 62]))] fun a => asTuple a fun a => asNil a (.call 44 [.pointer p0] fun a => asPtr a fun a => .act (bdSl 1 1 [.pointer a]) fun a => asSlice a fun a b c => .act (apS 1 8 none 0 0 a b c) fun a => asSlice a fun a b c => .ret .normal [.bool false, .slice a b c])))) else (.call 69 [.pointer p0, (.string (bs [108, 101, 116]))] fun a => asBool a fun a => .join (bif a then (.act (stC (aadd b 0) [.int .i64 8]) fun a => asTuple a fun a => asNil a (.call 69 [.pointer p0, (.string (bs [114, 101, 99]))] fun a => asBool a fun a => .join (bif a then (.act (stC (aadd b 0) [.int .i64 9]) fun a => asTuple a fun a => asNil a (.ret .normal [])) else (.ret .normal [])) (T124k1 p0 b))) else (.call 69 [.pointer p0, (.string (bs [105, 102]))] fun a => asBool a fun a => .join (bif a then (.act (stC (aadd b 0) [.int .i64 10]) fun a => asTuple a fun a => asNil a (.call 44 [.pointer p0] fun a => asPtr a fun a => .act (bdSl 1 1 [.pointer a]) fun a => asSlice a fun a b c => .act (apS 1 8 none 0 0 a b c) fun a => asSlice a fun a b c => .call 71 [.pointer p0, (.string (bs [116, 104, 101, 110]))] fun d => asTuple d fun d => asNil d (.call 44 [.pointer p0] fun d => asPtr d fun d => .act (bdSl 1 1 [.pointer d]) fun d => asSlice d fun d f g => .act (apS 1 8 a b c d f g) fun a => asSlice a fun a b c => .call 71 [.pointer p0, (.string (bs [101, 108, 115, 101]))] fun d => asTuple d fun d => asNil d (.call 44 [.pointer p0] fun d => asPtr d fun d => .act (bdSl 1 1 [.pointer d]) fun d => asSlice d fun d f g => .act (apS 1 8 a b c d f g) fun a => asSlice a fun a b c => .ret .normal [.bool false, .slice a b c])))) else (.call 69 [.pointer p0, (.string (bs [109, 97, 116, 99, 104]))] fun a => asBool a fun a => .join (bif a then (.act (stC (aadd b 0) [.int .i64 11]) fun a => asTuple a fun a => asNil a (.call 44 [.pointer p0] fun a => asPtr a fun a => .act (bdSl 1 1 [.pointer a]) fun a => asSlice a fun a b c => .act (apS 1 8 none 0 0 a b c) fun a => asSlice a fun a b c => .call 71 [.pointer p0, (.string (bs [119, 105, 116, 104]))] fun d => asTuple d fun d => asNil d (.loop [.bool true, .slice a b c] (T124b0 p0) (T124k4 p0)))) else (.call 69 [.pointer p0, (.string (bs [116, 114, 121]))] fun a => asBool a fun a => .join (bif a then (.act (stC (aadd b 0) [.int .i64 20]) fun a => asTuple a fun a => asNil a (.call 44 [.pointer p0] fun a => asPtr a fun a => .act (bdSl 1 1 [.pointer a]) fun a => asSlice a fun a c d => .act (apS 1 8 none 0 0 a c d) fun a => asSlice a fun a c d => .call 71 [.pointer p0, (.string (bs [119, 105, 116, 104]))] fun f => asTuple f fun f => asNil f (.call 70 [.pointer p0, .int .i64 2] fun f => asStr f fun f => .act (stC (aadd b 3) [.string f]) fun b => asTuple b fun b => asNil b (.call 71 [.pointer p0, (.string (bs [45, 62]))] fun b => asTuple b fun b => asNil b (.call 44 [.pointer p0] fun b => asPtr b fun b => .act (bdSl 1 1 [.pointer b]) fun b => asSlice b fun b f g => .act (apS 1 8 a c d b f g) fun a => asSlice a fun a b c => .call 71 [.pointer p0, (.string (bs [101, 110, 100]))] fun d => asTuple d fun d => asNil d (.ret .normal [.slice a b c, .bool true])))))) else (.ret .normal [.slice none 0 0, .bool false])) (T124k5))) (T124k6))) (T124k7))) (T124k8))) (T124k9)) (T124k12 p0 b)))
theorem T124_eq (p0 : Option Addr) : progOf PROG false 124 [(.pointer p0)] = T124 p0 := by kernel_rfl
noncomputable def T125 (p0 : Option Addr) : Pg :=
 asSome p0 fun a => .act (ld1 (aadd a 0)) fun a => asSlice a fun a b _ => asSome p0 fun c => .act (ld1 (aadd c 1)) fun c => asInt .i64 c fun c => asSome a fun a => grd ((decide (0 ≤ (wi64 (c - 1)))) && (decide ((wi64 (c - 1)) < (b:Int)))) (.act (ld1 (aadd (aadd a ((Int.toNat (wi64 (c - 1))) * 4)) 3)) fun a => asInt .i64 a fun a => .ret .ret [.int .i64 a])
theorem T125_eq (p0 : Option Addr) : progOf PROG false 125 [(.pointer p0)] = T125 p0 := by kernel_rfl
noncomputable def T126k0 : Ex → List Value → Pg :=
 fun a b => sw a .normal (asNil b (.ret .normal [])) (.fail)
noncomputable def T126b0 (p0 : Option Addr) (p90 : Option Addr) : List Value → Pg :=
 fun a => asNil a (.call 69 [.pointer p0, (.string (bs [44]))] fun a => asBool a fun a => bif a then (.join (asSome p90 fun a => .act (ld1 (aadd a 7)) fun b => asSlice b fun c d f => .call 126 [.pointer p0] fun g => asPtr g fun g => .get fun h => grd (chks [((ld1 (aadd a 7)), b)] h) (.act (bdSl 1 1 [.pointer g]) fun g => asSlice g fun g h i => .get fun j => grd (chks [((ld1 (aadd a 7)), b)] j) (.act (apS 1 8 c d f g h i) fun a => asSlice a fun a b c => asSome p90 fun d => .act (stC (aadd d 7) [.slice a b c]) fun a => asTuple a fun a => asNil a (.ret .normal [])))) (T126k0)) else (.ret (.exit 1) []))
noncomputable def T126k1 : Ex → List Value → Pg :=
 fun a b => sw a .normal (asNil b (.ret .normal [])) (.fail)
noncomputable def T126k2 (p0 : Option Addr) (p90 : Option Addr) : Ex → List Value → Pg :=
 fun a b => sw a (.exit 1) (asNil b (.call 71 [.pointer p0, (.string (bs [41]))] fun a => asTuple a fun a => asNil a (asSome p0 fun a => .act (ld1 (aadd a 3)) fun a => asBool a fun a => .join (bif (!a) then (.call 125 [.pointer p0] fun a => asInt .i64 a fun a => asSome p90 fun b => .act (stC (aadd (aadd b 0) 6) [.int .i64 a]) fun a => asTuple a fun a => asNil a (.ret .normal [])) else (.ret .normal [])) (T126k1)))) (.fail)
noncomputable def T126k3 (p90 : Option Addr) : Ex → List Value → Pg :=
 fun a b => sw a .normal (asNil b (.ret .ret [.pointer p90])) (.fail)
noncomputable def T126k4 : Ex → List Value → Pg :=
 fun a b => sw a .ret (asCons b fun a b => asPtr a fun a => asNil b (.ret .ret [.pointer a])) (sw a .normal (asCons b fun a b => asPtr a fun a => asNil b (.ret .normal [.pointer a])) (.fail))
noncomputable def T126k5 (p0 : Option Addr) (a17 : Addr) : Ex → List Value → Pg :=
 fun a b => sw a .normal (cB b fun a b => asNil b (bif a then (.call 120 [.pointer p0, (.agg #[.int .i64 24, .int .i64 0, (.string (bs [])), (.string (bs [])), .slice none 0 0, .int .i64 0, .int .i64 0])] fun a => asPtr a fun a => .ret .ret [.pointer a]) else (.call 69 [.pointer p0, (.string (bs [40]))] fun a => asBool a fun a => .join (bif a then (.call 71 [.pointer p0, (.string (bs [41]))] fun a => asTuple a fun a => asNil a (asSome p0 fun a => .act (ld1 (aadd a 3)) fun a => asBool a fun a => bif (!a) then (.act (ld1 (aadd a17 2)) fun a => asInt .i64 a fun b => .call 125 [.pointer p0] fun c => asInt .i64 c fun c => .get fun d => grd (chks [((ld1 (aadd a17 2)), a)] d) (.act (newC [.int .i64 25, .int .i64 0, (.string (bs [])), (.string (bs [])), .slice none 0 0, .int .i64 b, .int .i64 c, .slice none 0 0]) fun a => asPtr a fun a => asSome a fun a => .ret .ret [(.pointer (some a))])) else (.ret .normal [.pointer none]))) else (.act (ld1 (aadd a17 0)) fun a => asInt .i64 a fun a => bif (a == 3) then (.act (ld1 (aadd a17 1)) fun a => asStr a fun a => .call 120 [.pointer p0, (.agg #[.int .i64 26, .int .i64 0, .string a, (.string (bs [])), .slice none 0 0, .int .i64 0, .int .i64 0])] fun a => asPtr a fun a => .call 69 [.pointer p0, (.string (bs [40]))] fun b => asBool b fun b => .join (bif b then (asSome a fun b => .act (ld1 (aadd b 7)) fun c => asSlice c fun d f g => .call 126 [.pointer p0] fun h => asPtr h fun h => .get fun i => grd (chks [((ld1 (aadd b 7)), c)] i) (.act (bdSl 1 1 [.pointer h]) fun h => asSlice h fun h i j => .get fun k => grd (chks [((ld1 (aadd b 7)), c)] k) (.act (apS 1 8 d f g h i j) fun b => asSlice b fun b c d => asSome a fun f => .act (stC (aadd f 7) [.slice b c d]) fun b => asTuple b fun b => asNil b (.loop [] (T126b0 p0 a) (T126k2 p0 a))))) else (.ret .normal [])) (T126k3 a)) else (.ret .normal [.pointer none]))) (T126k4)))) (.fail)
noncomputable def T126k6 (p0 : Option Addr) (a17 : Addr) : Ex → List Value → Pg :=
 fun a b => sw a .normal (cB b fun a b => asNil b (bif a then (.call 120 [.pointer p0, (.agg #[.int .i64 24, .int .i64 1, (.string (bs [])), (.string (bs [])), .slice none 0 0, .int .i64 0, .int .i64 0])] fun a => asPtr a fun a => .ret .ret [.pointer a]) else (.join (.act (ld1 (aadd a17 0)) fun a => asInt .i64 a fun a => bif (a == 4) == true then (.act (ld1 (aadd a17 1)) fun a => asStr a fun a => .ret .normal [(.bool (a.toList == (bs [102, 97, 108, 115, 101]).toList))]) else (.ret .normal [.bool false])) (T126k5 p0 a17)))) (.fail)
noncomputable def T126k7 (p0 : Option Addr) (a17 : Addr) : Ex → List Value → Pg :=
 fun a b => sw a .normal (cB b fun a b => asNil b (bif a then (.call 120 [.pointer p0, (.agg #[.int .i64 21, .int .i64 0, (.string (bs [])), (.string (bs [])), .slice none 0 0, .int .i64 0, .int .i64 0])] fun a => asPtr a fun a => .ret .ret [.pointer a]) else (.act (ld1 (aadd a17 0)) fun a => asInt .i64 a fun a => bif (a == 2) then (.act (ld1 (aadd a17 1)) fun a => asStr a fun a => .call 120 [.pointer p0, (.agg #[.int .i64 22, .int .i64 0, .string a, (.string (bs [])), .slice none 0 0, .int .i64 0, .int .i64 0])] fun a => asPtr a fun a => .ret .ret [.pointer a]) else (.act (ld1 (aadd a17 0)) fun a => asInt .i64 a fun a => bif (a == 1) then (.act (ld1 (aadd a17 1)) fun a => asStr a fun a => .call 121 [.string a] fun a => asInt .i64 a fun a => .call 120 [.pointer p0, (.agg #[.int .i64 23, .int .i64 a, (.string (bs [])), (.string (bs [])), .slice none 0 0, .int .i64 0, .int .i64 0])] fun a => asPtr a fun a => .ret .ret [.pointer a]) else (.join (.act (ld1 (aadd a17 0)) fun a => asInt .i64 a fun a => bif (a == 4) == true then (.act (ld1 (aadd a17 1)) fun a => asStr a fun a => .ret .normal [(.bool (a.toList == (bs [116, 114, 117, 101]).toList))]) else (.ret .normal [.bool false])) (T126k6 p0 a17)))))) (.fail)
noncomputable def T126k8 : Ex → List Value → Pg :=
 fun a b => sw a .normal (asCons b fun a b => asPtr a fun a => asNil b (.ret .normal [.pointer a])) (sw a .ret (asCons b fun a b => asPtr a fun a => asNil b (.ret .ret [.pointer a])) (.fail))
noncomputable def T126k9 (p0 : Option Addr) : Ex → List Value → Pg :=
 fun a b => sw a .normal (asCons b fun a b => asPtr a fun _ => asNil b (asSome p0 fun a => .act (stC (aadd a 3) [.bool true]) fun a => asTuple a fun a => asNil a (.call 119 [] fun a => asPtr a fun a => .ret .ret [.pointer a]))) (sw a .ret (asCons b fun a b => asPtr a fun a => asNil b (.ret .ret [.pointer a])) (.fail))
noncomputable def T126 (p0 : Option Addr) : Pg :=
 .call 45 [.pointer p0] fun a => asAgg a fun a => cI a fun a b => cS b fun b c => cI c fun c d => cI d fun d f => asNil f (.act (newC [.int .i64 0, (.string (bs [])), .int .i64 0, .int .i64 0]) fun f => asPtr f fun f => asSome f fun f => .act (stC f [.int .i64 a, .string b, .int .i64 c, .int .i64 d]) fun a => asTuple a fun a => asNil a (.join (asSome p0 fun a => .act (ld1 (aadd a 3)) fun a => asBool a fun a => .join (bif a then (.ret .normal [.pointer none]) else (.join (.act (ld1 (aadd f 0)) fun a => asInt .i64 a fun a => bif (a == 2) == true then (.act (ld1 (aadd f 1)) fun a => asStr a fun a => .ret .normal [(.bool (a.toList == (bs [95]).toList))]) else (.ret .normal [.bool false])) (T126k7 p0 f))) (T126k8)) (T126k9 p0)))
theorem T126_eq (p0 : Option Addr) : progOf PROG false 126 [(.pointer p0)] = T126 p0 := by kernel_rfl
noncomputable def A6 : List Value → Option Pg
 | [(.string s0)] => some (T6 s0)
 | _ => none
theorem A6_ok : ∀ args p, A6 args = some p → progOf PROG false 6 args = p := by
 intro args p h
 unfold A6 at h
 split at h
 ·cases h; exact T6_eq _
 ·cases h
noncomputable def A8 : List Value → Option Pg
 | [] => some (T8)
 | _ => none
theorem A8_ok : ∀ args p, A8 args = some p → progOf PROG false 8 args = p := by
 intro args p h
 unfold A8 at h
 split at h
 ·cases h; exact T8_eq
 ·cases h
noncomputable def A9 : List Value → Option Pg
 | [(.string s0)] => some (T9 s0)
 | _ => none
theorem A9_ok : ∀ args p, A9 args = some p → progOf PROG false 9 args = p := by
 intro args p h
 unfold A9 at h
 split at h
 ·cases h; exact T9_eq _
 ·cases h
noncomputable def A10 : List Value → Option Pg
 | [(.agg c0)] => (match c0.toList with
  | [(.slice p0 n1 n2), (.slice p3 n4 n5)] => some (T10 p0 n1 n2 p3 n4 n5)
  | _ => none)
 | _ => none
theorem A10_ok : ∀ args p, A10 args = some p → progOf PROG false 10 args = p := by
 intro args p h
 unfold A10 at h
 split at h
 ·split at h
  ·rename_i e0
   have f0 := agg_of e0
   subst f0
   cases h
   exact T10_eq _ _ _ _ _ _
  ·cases h
 ·cases h
noncomputable def A11 : List Value → Option Pg
 | [(.agg c0), (.slice p6 n7 n8)] => (match c0.toList with
  | [(.slice p0 n1 n2), (.slice p3 n4 n5)] => some (T11 p0 n1 n2 p3 n4 n5 p6 n7 n8)
  | _ => none)
 | _ => none
theorem A11_ok : ∀ args p, A11 args = some p → progOf PROG false 11 args = p := by
 intro args p h
 unfold A11 at h
 split at h
 ·split at h
  ·rename_i e0
   have f0 := agg_of e0
   subst f0
   cases h
   exact T11_eq _ _ _ _ _ _ _ _ _
  ·cases h
 ·cases h
noncomputable def A12 : List Value → Option Pg
 | [(.string s0)] => some (T12 s0)
 | _ => none
theorem A12_ok : ∀ args p, A12 args = some p → progOf PROG false 12 args = p := by
 intro args p h
 unfold A12 at h
 split at h
 ·cases h; exact T12_eq _
 ·cases h
noncomputable def A17 : List Value → Option Pg
 | [(.agg c0), (.slice p6 n7 n8), (.slice p9 n10 n11)] => (match c0.toList with
  | [(.slice p0 n1 n2), (.slice p3 n4 n5)] => some (T17 p0 n1 n2 p3 n4 n5 p6 n7 n8 p9 n10 n11)
  | _ => none)
 | _ => none
theorem A17_ok : ∀ args p, A17 args = some p → progOf PROG false 17 args = p := by
 intro args p h
 unfold A17 at h
 split at h
 ·split at h
  ·rename_i e0
   have f0 := agg_of e0
   subst f0
   cases h
   exact T17_eq _ _ _ _ _ _ _ _ _ _ _ _
  ·cases h
 ·cases h
noncomputable def A19 : List Value → Option Pg
 | [(.agg c0), (.int .i64 i6)] => (match c0.toList with
  | [(.slice p0 n1 n2), (.slice p3 n4 n5)] => some (T19 p0 n1 n2 p3 n4 n5 i6)
  | _ => none)
 | _ => none
theorem A19_ok : ∀ args p, A19 args = some p → progOf PROG false 19 args = p := by
 intro args p h
 unfold A19 at h
 split at h
 ·split at h
  ·rename_i e0
   have f0 := agg_of e0
   subst f0
   cases h
   exact T19_eq _ _ _ _ _ _ _
  ·cases h
 ·cases h
noncomputable def A21 : List Value → Option Pg
 | [(.agg c0)] => (match c0.toList with
  | [(.slice p0 n1 n2), (.slice p3 n4 n5)] => some (T21 p0 n1 n2 p3 n4 n5)
  | _ => none)
 | _ => none
theorem A21_ok : ∀ args p, A21 args = some p → progOf PROG false 21 args = p := by
 intro args p h
 unfold A21 at h
 split at h
 ·split at h
  ·rename_i e0
   have f0 := agg_of e0
   subst f0
   cases h
   exact T21_eq _ _ _ _ _ _
  ·cases h
 ·cases h
noncomputable def A22 : List Value → Option Pg
 | [(.agg c0), (.int .i64 i6)] => (match c0.toList with
  | [(.slice p0 n1 n2), (.slice p3 n4 n5)] => some (T22 p0 n1 n2 p3 n4 n5 i6)
  | _ => none)
 | _ => none
theorem A22_ok : ∀ args p, A22 args = some p → progOf PROG false 22 args = p := by
 intro args p h
 unfold A22 at h
 split at h
 ·split at h
  ·rename_i e0
   have f0 := agg_of e0
   subst f0
   cases h
   exact T22_eq _ _ _ _ _ _ _
  ·cases h
 ·cases h
noncomputable def A23 : List Value → Option Pg
 | [(.slice p0 n1 n2), (.int .i64 i3)] => some (T23 p0 n1 n2 i3)
 | _ => none
theorem A23_ok : ∀ args p, A23 args = some p → progOf PROG false 23 args = p := by
 intro args p h
 unfold A23 at h
 split at h
 ·cases h; exact T23_eq _ _ _ _
 ·cases h
noncomputable def A24 : List Value → Option Pg
 | [(.pointer p0), (.slice p1 n2 n3), (.slice p4 n5 n6)] => some (T24 p0 p1 n2 n3 p4 n5 n6)
 | _ => none
theorem A24_ok : ∀ args p, A24 args = some p → progOf PROG false 24 args = p := by
 intro args p h
 unfold A24 at h
 split at h
 ·cases h; exact T24_eq _ _ _ _ _ _ _
 ·cases h
noncomputable def A25 : List Value → Option Pg
 | [(.string s0)] => some (T25 s0)
 | _ => none
theorem A25_ok : ∀ args p, A25 args = some p → progOf PROG false 25 args = p := by
 intro args p h
 unfold A25 at h
 split at h
 ·cases h; exact T25_eq _
 ·cases h
noncomputable def A27 : List Value → Option Pg
 | [(.agg c0)] => (match c0.toList with
  | [(.slice p0 n1 n2), (.slice p3 n4 n5)] => some (T27 p0 n1 n2 p3 n4 n5)
  | _ => none)
 | _ => none
theorem A27_ok : ∀ args p, A27 args = some p → progOf PROG false 27 args = p := by
 intro args p h
 unfold A27 at h
 split at h
 ·split at h
  ·rename_i e0
   have f0 := agg_of e0
   subst f0
   cases h
   exact T27_eq _ _ _ _ _ _
  ·cases h
 ·cases h
noncomputable def A30 : List Value → Option Pg
 | [(.agg c0), (.string s6)] => (match c0.toList with
  | [(.slice p0 n1 n2), (.slice p3 n4 n5)] => some (T30 p0 n1 n2 p3 n4 n5 s6)
  | _ => none)
 | _ => none
theorem A30_ok : ∀ args p, A30 args = some p → progOf PROG false 30 args = p := by
 intro args p h
 unfold A30 at h
 split at h
 ·split at h
  ·rename_i e0
   have f0 := agg_of e0
   subst f0
   cases h
   exact T30_eq _ _ _ _ _ _ _
  ·cases h
 ·cases h
noncomputable def A31 : List Value → Option Pg
 | [(.slice p0 n1 n2)] => some (T31 p0 n1 n2)
 | _ => none
theorem A31_ok : ∀ args p, A31 args = some p → progOf PROG false 31 args = p := by
 intro args p h
 unfold A31 at h
 split at h
 ·cases h; exact T31_eq _ _ _
 ·cases h
noncomputable def A32 : List Value → Option Pg
 | [(.pointer p0), (.bool b1), (.int .i64 i2)] => some (T32 p0 b1 i2)
 | _ => none
theorem A32_ok : ∀ args p, A32 args = some p → progOf PROG false 32 args = p := by
 intro args p h
 unfold A32 at h
 split at h
 ·cases h; exact T32_eq _ _ _
 ·cases h
noncomputable def A33 : List Value → Option Pg
 | [(.int .i64 i0)] => some (T33 i0)
 | _ => none
theorem A33_ok : ∀ args p, A33 args = some p → progOf PROG false 33 args = p := by
 intro args p h
 unfold A33 at h
 split at h
 ·cases h; exact T33_eq _
 ·cases h
noncomputable def A34 : List Value → Option Pg
 | [(.slice p0 n1 n2)] => some (T34 p0 n1 n2)
 | _ => none
theorem A34_ok : ∀ args p, A34 args = some p → progOf PROG false 34 args = p := by
 intro args p h
 unfold A34 at h
 split at h
 ·cases h; exact T34_eq _ _ _
 ·cases h
noncomputable def A35 : List Value → Option Pg
 | [(.agg c0), (.int .i64 i6)] => (match c0.toList with
  | [(.slice p0 n1 n2), (.slice p3 n4 n5)] => some (T35 p0 n1 n2 p3 n4 n5 i6)
  | _ => none)
 | _ => none
theorem A35_ok : ∀ args p, A35 args = some p → progOf PROG false 35 args = p := by
 intro args p h
 unfold A35 at h
 split at h
 ·split at h
  ·rename_i e0
   have f0 := agg_of e0
   subst f0
   cases h
   exact T35_eq _ _ _ _ _ _ _
  ·cases h
 ·cases h
noncomputable def A36 : List Value → Option Pg
 | [(.int .i64 i0)] => some (T36 i0)
 | _ => none
theorem A36_ok : ∀ args p, A36 args = some p → progOf PROG false 36 args = p := by
 intro args p h
 unfold A36 at h
 split at h
 ·cases h; exact T36_eq _
 ·cases h
noncomputable def A37 : List Value → Option Pg
 | [(.pointer p0), (.int .i64 i1)] => some (T37 p0 i1)
 | _ => none
theorem A37_ok : ∀ args p, A37 args = some p → progOf PROG false 37 args = p := by
 intro args p h
 unfold A37 at h
 split at h
 ·cases h; exact T37_eq _ _
 ·cases h
noncomputable def A38 : List Value → Option Pg
 | [(.pointer p0), (.slice p1 n2 n3), (.agg c0)] => (match c0.toList with
  | [(.int .i64 i4), (.int .i64 i5), (.string s6)] => some (T38 p0 p1 n2 n3 i4 i5 s6)
  | _ => none)
 | _ => none
theorem A38_ok : ∀ args p, A38 args = some p → progOf PROG false 38 args = p := by
 intro args p h
 unfold A38 at h
 split at h
 ·split at h
  ·rename_i e0
   have f0 := agg_of e0
   subst f0
   cases h
   exact T38_eq _ _ _ _ _ _ _
  ·cases h
 ·cases h
noncomputable def A39 : List Value → Option Pg
 | [(.pointer p0), (.slice p1 n2 n3), (.agg c0)] => (match c0.toList with
  | [(.int .i64 i4), (.int .i64 i5), (.string s6)] => some (T39 p0 p1 n2 n3 i4 i5 s6)
  | _ => none)
 | _ => none
theorem A39_ok : ∀ args p, A39 args = some p → progOf PROG false 39 args = p := by
 intro args p h
 unfold A39 at h
 split at h
 ·split at h
  ·rename_i e0
   have f0 := agg_of e0
   subst f0
   cases h
   exact T39_eq _ _ _ _ _ _ _
  ·cases h
 ·cases h
noncomputable def A40 : List Value → Option Pg
 | [(.pointer p0), (.slice p1 n2 n3)] => some (T40 p0 p1 n2 n3)
 | _ => none
theorem A40_ok : ∀ args p, A40 args = some p → progOf PROG false 40 args = p := by
 intro args p h
 unfold A40 at h
 split at h
 ·cases h; exact T40_eq _ _ _ _
 ·cases h
noncomputable def A41 : List Value → Option Pg
 | [(.pointer p0), (.slice p1 n2 n3)] => some (T41 p0 p1 n2 n3)
 | _ => none
theorem A41_ok : ∀ args p, A41 args = some p → progOf PROG false 41 args = p := by
 intro args p h
 unfold A41 at h
 split at h
 ·cases h; exact T41_eq _ _ _ _
 ·cases h
noncomputable def A42 : List Value → Option Pg
 | [(.string s0)] => some (T42 s0)
 | _ => none
theorem A42_ok : ∀ args p, A42 args = some p → progOf PROG false 42 args = p := by
 intro args p h
 unfold A42 at h
 split at h
 ·cases h; exact T42_eq _
 ·cases h
noncomputable def A43 : List Value → Option Pg
 | [(.pointer p0)] => some (T43 p0)
 | _ => none
theorem A43_ok : ∀ args p, A43 args = some p → progOf PROG false 43 args = p := by
 intro args p h
 unfold A43 at h
 split at h
 ·cases h; exact T43_eq _
 ·cases h
noncomputable def A44 : List Value → Option Pg
 | [(.pointer p0)] => some (T44 p0)
 | _ => none
theorem A44_ok : ∀ args p, A44 args = some p → progOf PROG false 44 args = p := by
 intro args p h
 unfold A44 at h
 split at h
 ·cases h; exact T44_eq _
 ·cases h
noncomputable def A45 : List Value → Option Pg
 | [(.pointer p0)] => some (T45 p0)
 | _ => none
theorem A45_ok : ∀ args p, A45 args = some p → progOf PROG false 45 args = p := by
 intro args p h
 unfold A45 at h
 split at h
 ·cases h; exact T45_eq _
 ·cases h
noncomputable def A46 : List Value → Option Pg
 | [(.pointer p0), (.pointer p1), (.int .i64 i2)] => some (T46 p0 p1 i2)
 | _ => none
theorem A46_ok : ∀ args p, A46 args = some p → progOf PROG false 46 args = p := by
 intro args p h
 unfold A46 at h
 split at h
 ·cases h; exact T46_eq _ _ _
 ·cases h
noncomputable def A47 : List Value → Option Pg
 | [(.agg c0)] => (match c0.toList with
  | [(.slice p0 n1 n2), (.slice p3 n4 n5)] => some (T47 p0 n1 n2 p3 n4 n5)
  | _ => none)
 | _ => none
theorem A47_ok : ∀ args p, A47 args = some p → progOf PROG false 47 args = p := by
 intro args p h
 unfold A47 at h
 split at h
 ·split at h
  ·rename_i e0
   have f0 := agg_of e0
   subst f0
   cases h
   exact T47_eq _ _ _ _ _ _
  ·cases h
 ·cases h
noncomputable def A48 : List Value → Option Pg
 | [(.agg c0), (.int .i64 i6), (.bool b7), (.int .i64 i8)] => (match c0.toList with
  | [(.slice p0 n1 n2), (.slice p3 n4 n5)] => some (T48 p0 n1 n2 p3 n4 n5 i6 b7 i8)
  | _ => none)
 | _ => none
theorem A48_ok : ∀ args p, A48 args = some p → progOf PROG false 48 args = p := by
 intro args p h
 unfold A48 at h
 split at h
 ·split at h
  ·rename_i e0
   have f0 := agg_of e0
   subst f0
   cases h
   exact T48_eq _ _ _ _ _ _ _ _ _
  ·cases h
 ·cases h
noncomputable def A55 : List Value → Option Pg
 | [(.string s0)] => some (T55 s0)
 | _ => none
theorem A55_ok : ∀ args p, A55 args = some p → progOf PROG false 55 args = p := by
 intro args p h
 unfold A55 at h
 split at h
 ·cases h; exact T55_eq _
 ·cases h
noncomputable def A56 : List Value → Option Pg
 | [(.string s0)] => some (T56 s0)
 | _ => none
theorem A56_ok : ∀ args p, A56 args = some p → progOf PROG false 56 args = p := by
 intro args p h
 unfold A56 at h
 split at h
 ·cases h; exact T56_eq _
 ·cases h
noncomputable def A57 : List Value → Option Pg
 | [(.string s0)] => some (T57 s0)
 | _ => none
theorem A57_ok : ∀ args p, A57 args = some p → progOf PROG false 57 args = p := by
 intro args p h
 unfold A57 at h
 split at h
 ·cases h; exact T57_eq _
 ·cases h
noncomputable def A58 : List Value → Option Pg
 | [(.string s0), (.pointer (some a1))] => some (T58 s0 a1)
 | _ => none
theorem A58_ok : ∀ args p, A58 args = some p → progOf PROG false 58 args = p := by
 intro args p h
 unfold A58 at h
 split at h
 ·cases h; exact T58_eq _ _
 ·cases h
noncomputable def A59 : List Value → Option Pg
 | [(.slice p0 n1 n2), (.string s3)] => some (T59 p0 n1 n2 s3)
 | _ => none
theorem A59_ok : ∀ args p, A59 args = some p → progOf PROG false 59 args = p := by
 intro args p h
 unfold A59 at h
 split at h
 ·cases h; exact T59_eq _ _ _ _
 ·cases h
noncomputable def A60 : List Value → Option Pg
 | [(.string s0), (.pointer (some a1))] => some (T60 s0 a1)
 | _ => none
theorem A60_ok : ∀ args p, A60 args = some p → progOf PROG false 60 args = p := by
 intro args p h
 unfold A60 at h
 split at h
 ·cases h; exact T60_eq _ _
 ·cases h
noncomputable def A61 : List Value → Option Pg
 | [(.slice p0 n1 n2), v3] => some (T61 p0 n1 n2 v3)
 | _ => none
theorem A61_ok : ∀ args p, A61 args = some p → progOf PROG false 61 args = p := by
 intro args p h
 unfold A61 at h
 split at h
 ·cases h; exact T61_eq _ _ _ _
 ·cases h
noncomputable def A62 : List Value → Option Pg
 | [(.agg c0), (.agg c1)] => (match c0.toList with
  | [(.slice p0 n1 n2), (.slice p3 n4 n5)] => (match c1.toList with
  | [(.int .i64 i6), (.int .i64 i7), (.string s8), (.string s9), (.slice p10 n11 n12), (.int .i64 i13), (.int .i64 i14)] => some (T62 p0 n1 n2 p3 n4 n5 i6 i7 s8 s9 p10 n11 n12 i13 i14)
  | _ => none)
  | _ => none)
 | _ => none
theorem A62_ok : ∀ args p, A62 args = some p → progOf PROG false 62 args = p := by
 intro args p h
 unfold A62 at h
 split at h
 ·split at h
  ·split at h
   ·rename_i e0 d1 x1_0 x1_1 x1_2 x1_3 x1_4 x1_5 x1_6 x1_7 x1_8 e1
    have f0 := agg_of e0
    subst f0
    have f1 := agg_of e1
    subst f1
    cases h
    exact T62_eq _ _ _ _ _ _ _ _ _ _ _ _ _ _ _
   ·cases h
  ·cases h
 ·cases h
noncomputable def A63 : List Value → Option Pg
 | [(.pointer p0), (.int .i64 i1)] => some (T63 p0 i1)
 | _ => none
theorem A63_ok : ∀ args p, A63 args = some p → progOf PROG false 63 args = p := by
 intro args p h
 unfold A63 at h
 split at h
 ·cases h; exact T63_eq _ _
 ·cases h
noncomputable def A64 : List Value → Option Pg
 | [(.pointer p0), (.agg c0)] => (match c0.toList with
  | [(.int .i64 i1), (.int .i64 i2), (.string s3)] => some (T64 p0 i1 i2 s3)
  | _ => none)
 | _ => none
theorem A64_ok : ∀ args p, A64 args = some p → progOf PROG false 64 args = p := by
 intro args p h
 unfold A64 at h
 split at h
 ·split at h
  ·rename_i e0
   have f0 := agg_of e0
   subst f0
   cases h
   exact T64_eq _ _ _ _
  ·cases h
 ·cases h
noncomputable def A65 : List Value → Option Pg
 | [(.string s0)] => some (T65 s0)
 | _ => none
theorem A65_ok : ∀ args p, A65 args = some p → progOf PROG false 65 args = p := by
 intro args p h
 unfold A65 at h
 split at h
 ·cases h; exact T65_eq _
 ·cases h
noncomputable def A66 : List Value → Option Pg
 | [(.int .i32 i0)] => some (T66 i0)
 | _ => none
theorem A66_ok : ∀ args p, A66 args = some p → progOf PROG false 66 args = p := by
 intro args p h
 unfold A66 at h
 split at h
 ·cases h; exact T66_eq _
 ·cases h
noncomputable def A67 : List Value → Option Pg
 | [(.string s0), (.int .i64 i1)] => some (T67 s0 i1)
 | _ => none
theorem A67_ok : ∀ args p, A67 args = some p → progOf PROG false 67 args = p := by
 intro args p h
 unfold A67 at h
 split at h
 ·cases h; exact T67_eq _ _
 ·cases h
noncomputable def A68 : List Value → Option Pg
 | [(.string s0), (.int .i64 i1)] => some (T68 s0 i1)
 | _ => none
theorem A68_ok : ∀ args p, A68 args = some p → progOf PROG false 68 args = p := by
 intro args p h
 unfold A68 at h
 split at h
 ·cases h; exact T68_eq _ _
 ·cases h
noncomputable def A69 : List Value → Option Pg
 | [(.pointer p0), (.string s1)] => some (T69 p0 s1)
 | _ => none
theorem A69_ok : ∀ args p, A69 args = some p → progOf PROG false 69 args = p := by
 intro args p h
 unfold A69 at h
 split at h
 ·cases h; exact T69_eq _ _
 ·cases h
noncomputable def A70 : List Value → Option Pg
 | [(.pointer p0), (.int .i64 i1)] => some (T70 p0 i1)
 | _ => none
theorem A70_ok : ∀ args p, A70 args = some p → progOf PROG false 70 args = p := by
 intro args p h
 unfold A70 at h
 split at h
 ·cases h; exact T70_eq _ _
 ·cases h
noncomputable def A71 : List Value → Option Pg
 | [(.pointer p0), (.string s1)] => some (T71 p0 s1)
 | _ => none
theorem A71_ok : ∀ args p, A71 args = some p → progOf PROG false 71 args = p := by
 intro args p h
 unfold A71 at h
 split at h
 ·cases h; exact T71_eq _ _
 ·cases h
noncomputable def A72 : List Value → Option Pg
 | [(.pointer p0)] => some (T72 p0)
 | _ => none
theorem A72_ok : ∀ args p, A72 args = some p → progOf PROG false 72 args = p := by
 intro args p h
 unfold A72 at h
 split at h
 ·cases h; exact T72_eq _
 ·cases h
noncomputable def A73 : List Value → Option Pg
 | [(.int .i64 i0), (.string s1), (.pointer p2), (.pointer p3)] => some (T73 i0 s1 p2 p3)
 | _ => none
theorem A73_ok : ∀ args p, A73 args = some p → progOf PROG false 73 args = p := by
 intro args p h
 unfold A73 at h
 split at h
 ·cases h; exact T73_eq _ _ _ _
 ·cases h
noncomputable def A74 : List Value → Option Pg
 | [(.string s0)] => some (T74 s0)
 | _ => none
theorem A74_ok : ∀ args p, A74 args = some p → progOf PROG false 74 args = p := by
 intro args p h
 unfold A74 at h
 split at h
 ·cases h; exact T74_eq _
 ·cases h
noncomputable def A75 : List Value → Option Pg
 | [(.string s0)] => some (T75 s0)
 | _ => none
theorem A75_ok : ∀ args p, A75 args = some p → progOf PROG false 75 args = p := by
 intro args p h
 unfold A75 at h
 split at h
 ·cases h; exact T75_eq _
 ·cases h
noncomputable def A76 : List Value → Option Pg
 | [(.slice p0 n1 n2)] => some (T76 p0 n1 n2)
 | _ => none
theorem A76_ok : ∀ args p, A76 args = some p → progOf PROG false 76 args = p := by
 intro args p h
 unfold A76 at h
 split at h
 ·cases h; exact T76_eq _ _ _
 ·cases h
noncomputable def A77 : List Value → Option Pg
 | [(.slice p0 n1 n2), (.string s3)] => some (T77 p0 n1 n2 s3)
 | _ => none
theorem A77_ok : ∀ args p, A77 args = some p → progOf PROG false 77 args = p := by
 intro args p h
 unfold A77 at h
 split at h
 ·cases h; exact T77_eq _ _ _ _
 ·cases h
noncomputable def A78 : List Value → Option Pg
 | [(.agg c0)] => (match c0.toList with
  | [(.int .i64 i0), (.int .i64 i1), (.string s2), (.string s3), (.slice p4 n5 n6), (.int .i64 i7), (.int .i64 i8)] => some (T78 i0 i1 s2 s3 p4 n5 n6 i7 i8)
  | _ => none)
 | _ => none
theorem A78_ok : ∀ args p, A78 args = some p → progOf PROG false 78 args = p := by
 intro args p h
 unfold A78 at h
 split at h
 ·split at h
  ·rename_i e0
   have f0 := agg_of e0
   subst f0
   cases h
   exact T78_eq _ _ _ _ _ _ _ _ _
  ·cases h
 ·cases h
noncomputable def A79 : List Value → Option Pg
 | [(.agg c0), (.string s6)] => (match c0.toList with
  | [(.slice p0 n1 n2), (.slice p3 n4 n5)] => some (T79 p0 n1 n2 p3 n4 n5 s6)
  | _ => none)
 | _ => none
theorem A79_ok : ∀ args p, A79 args = some p → progOf PROG false 79 args = p := by
 intro args p h
 unfold A79 at h
 split at h
 ·split at h
  ·rename_i e0
   have f0 := agg_of e0
   subst f0
   cases h
   exact T79_eq _ _ _ _ _ _ _
  ·cases h
 ·cases h
noncomputable def A80 : List Value → Option Pg
 | [(.agg c0), (.int .i64 i6)] => (match c0.toList with
  | [(.slice p0 n1 n2), (.slice p3 n4 n5)] => some (T80 p0 n1 n2 p3 n4 n5 i6)
  | _ => none)
 | _ => none
theorem A80_ok : ∀ args p, A80 args = some p → progOf PROG false 80 args = p := by
 intro args p h
 unfold A80 at h
 split at h
 ·split at h
  ·rename_i e0
   have f0 := agg_of e0
   subst f0
   cases h
   exact T80_eq _ _ _ _ _ _ _
  ·cases h
 ·cases h
noncomputable def A82 : List Value → Option Pg
 | [(.string s0), (.int .i64 i1)] => some (T82 s0 i1)
 | _ => none
theorem A82_ok : ∀ args p, A82 args = some p → progOf PROG false 82 args = p := by
 intro args p h
 unfold A82 at h
 split at h
 ·cases h; exact T82_eq _ _
 ·cases h
noncomputable def A83 : List Value → Option Pg
 | [(.slice p0 n1 n2), (.string s3)] => some (T83 p0 n1 n2 s3)
 | _ => none
theorem A83_ok : ∀ args p, A83 args = some p → progOf PROG false 83 args = p := by
 intro args p h
 unfold A83 at h
 split at h
 ·cases h; exact T83_eq _ _ _ _
 ·cases h
noncomputable def A84 : List Value → Option Pg
 | [(.slice p0 n1 n2), v3] => some (T84 p0 n1 n2 v3)
 | _ => none
theorem A84_ok : ∀ args p, A84 args = some p → progOf PROG false 84 args = p := by
 intro args p h
 unfold A84 at h
 split at h
 ·cases h; exact T84_eq _ _ _ _
 ·cases h
noncomputable def A85 : List Value → Option Pg
 | [(.agg c0)] => (match c0.toList with
  | [(.int .i64 i0), (.int .i64 i1), (.string s2), (.string s3), (.slice p4 n5 n6), (.int .i64 i7), (.int .i64 i8)] => some (T85 i0 i1 s2 s3 p4 n5 n6 i7 i8)
  | _ => none)
 | _ => none
theorem A85_ok : ∀ args p, A85 args = some p → progOf PROG false 85 args = p := by
 intro args p h
 unfold A85 at h
 split at h
 ·split at h
  ·rename_i e0
   have f0 := agg_of e0
   subst f0
   cases h
   exact T85_eq _ _ _ _ _ _ _ _ _
  ·cases h
 ·cases h
noncomputable def A86 : List Value → Option Pg
 | [(.agg c0)] => (match c0.toList with
  | [(.int .i64 i0), (.int .i64 i1), (.string s2), (.string s3), (.slice p4 n5 n6), (.int .i64 i7), (.int .i64 i8)] => some (T86 i0 i1 s2 s3 p4 n5 n6 i7 i8)
  | _ => none)
 | _ => none
theorem A86_ok : ∀ args p, A86 args = some p → progOf PROG false 86 args = p := by
 intro args p h
 unfold A86 at h
 split at h
 ·split at h
  ·rename_i e0
   have f0 := agg_of e0
   subst f0
   cases h
   exact T86_eq _ _ _ _ _ _ _ _ _
  ·cases h
 ·cases h
noncomputable def A87 : List Value → Option Pg
 | [(.int .i64 i0)] => some (T87 i0)
 | _ => none
theorem A87_ok : ∀ args p, A87 args = some p → progOf PROG false 87 args = p := by
 intro args p h
 unfold A87 at h
 split at h
 ·cases h; exact T87_eq _
 ·cases h
noncomputable def A89 : List Value → Option Pg
 | [(.string s0)] => some (T89 s0)
 | _ => none
theorem A89_ok : ∀ args p, A89 args = some p → progOf PROG false 89 args = p := by
 intro args p h
 unfold A89 at h
 split at h
 ·cases h; exact T89_eq _
 ·cases h
noncomputable def A91 : List Value → Option Pg
 | [(.string s0)] => some (T91 s0)
 | _ => none
theorem A91_ok : ∀ args p, A91 args = some p → progOf PROG false 91 args = p := by
 intro args p h
 unfold A91 at h
 split at h
 ·cases h; exact T91_eq _
 ·cases h
noncomputable def A92 : List Value → Option Pg
 | [(.pointer p0), (.string s1)] => some (T92 p0 s1)
 | _ => none
theorem A92_ok : ∀ args p, A92 args = some p → progOf PROG false 92 args = p := by
 intro args p h
 unfold A92 at h
 split at h
 ·cases h; exact T92_eq _ _
 ·cases h
noncomputable def A93 : List Value → Option Pg
 | [(.pointer p0)] => some (T93 p0)
 | _ => none
theorem A93_ok : ∀ args p, A93 args = some p → progOf PROG false 93 args = p := by
 intro args p h
 unfold A93 at h
 split at h
 ·cases h; exact T93_eq _
 ·cases h
noncomputable def A94 : List Value → Option Pg
 | [(.string s0)] => some (T94 s0)
 | _ => none
theorem A94_ok : ∀ args p, A94 args = some p → progOf PROG false 94 args = p := by
 intro args p h
 unfold A94 at h
 split at h
 ·cases h; exact T94_eq _
 ·cases h
noncomputable def A95 : List Value → Option Pg
 | [] => some (T95)
 | _ => none
theorem A95_ok : ∀ args p, A95 args = some p → progOf PROG false 95 args = p := by
 intro args p h
 unfold A95 at h
 split at h
 ·cases h; exact T95_eq
 ·cases h
noncomputable def A96 : List Value → Option Pg
 | [(.string s0)] => some (T96 s0)
 | _ => none
theorem A96_ok : ∀ args p, A96 args = some p → progOf PROG false 96 args = p := by
 intro args p h
 unfold A96 at h
 split at h
 ·cases h; exact T96_eq _
 ·cases h
noncomputable def A98 : List Value → Option Pg
 | [(.pointer p0)] => some (T98 p0)
 | _ => none
theorem A98_ok : ∀ args p, A98 args = some p → progOf PROG false 98 args = p := by
 intro args p h
 unfold A98 at h
 split at h
 ·cases h; exact T98_eq _
 ·cases h
noncomputable def A100 : List Value → Option Pg
 | [(.int .i32 i0)] => some (T100 i0)
 | _ => none
theorem A100_ok : ∀ args p, A100 args = some p → progOf PROG false 100 args = p := by
 intro args p h
 unfold A100 at h
 split at h
 ·cases h; exact T100_eq _
 ·cases h
noncomputable def A101 : List Value → Option Pg
 | [(.string s0)] => some (T101 s0)
 | _ => none
theorem A101_ok : ∀ args p, A101 args = some p → progOf PROG false 101 args = p := by
 intro args p h
 unfold A101 at h
 split at h
 ·cases h; exact T101_eq _
 ·cases h
noncomputable def A102 : List Value → Option Pg
 | [(.string s0), v1] => some (T102 s0 v1)
 | _ => none
theorem A102_ok : ∀ args p, A102 args = some p → progOf PROG false 102 args = p := by
 intro args p h
 unfold A102 at h
 split at h
 ·cases h; exact T102_eq _ _
 ·cases h
noncomputable def A103 : List Value → Option Pg
 | [(.int .i32 i0)] => some (T103 i0)
 | _ => none
theorem A103_ok : ∀ args p, A103 args = some p → progOf PROG false 103 args = p := by
 intro args p h
 unfold A103 at h
 split at h
 ·cases h; exact T103_eq _
 ·cases h
noncomputable def A104 : List Value → Option Pg
 | [(.string s0)] => some (T104 s0)
 | _ => none
theorem A104_ok : ∀ args p, A104 args = some p → progOf PROG false 104 args = p := by
 intro args p h
 unfold A104 at h
 split at h
 ·cases h; exact T104_eq _
 ·cases h
noncomputable def A105 : List Value → Option Pg
 | [(.string s0)] => some (T105 s0)
 | _ => none
theorem A105_ok : ∀ args p, A105 args = some p → progOf PROG false 105 args = p := by
 intro args p h
 unfold A105 at h
 split at h
 ·cases h; exact T105_eq _
 ·cases h
noncomputable def A108 : List Value → Option Pg
 | [(.pointer p0)] => some (T108 p0)
 | _ => none
theorem A108_ok : ∀ args p, A108 args = some p → progOf PROG false 108 args = p := by
 intro args p h
 unfold A108 at h
 split at h
 ·cases h; exact T108_eq _
 ·cases h
noncomputable def A110 : List Value → Option Pg
 | [(.int .i32 i0)] => some (T110 i0)
 | _ => none
theorem A110_ok : ∀ args p, A110 args = some p → progOf PROG false 110 args = p := by
 intro args p h
 unfold A110 at h
 split at h
 ·cases h; exact T110_eq _
 ·cases h
noncomputable def A111 : List Value → Option Pg
 | [(.string s0)] => some (T111 s0)
 | _ => none
theorem A111_ok : ∀ args p, A111 args = some p → progOf PROG false 111 args = p := by
 intro args p h
 unfold A111 at h
 split at h
 ·cases h; exact T111_eq _
 ·cases h
noncomputable def A112 : List Value → Option Pg
 | [(.string s0)] => some (T112 s0)
 | _ => none
theorem A112_ok : ∀ args p, A112 args = some p → progOf PROG false 112 args = p := by
 intro args p h
 unfold A112 at h
 split at h
 ·cases h; exact T112_eq _
 ·cases h
noncomputable def A113 : List Value → Option Pg
 | [(.string s0), (.string s1)] => some (T113 s0 s1)
 | _ => none
theorem A113_ok : ∀ args p, A113 args = some p → progOf PROG false 113 args = p := by
 intro args p h
 unfold A113 at h
 split at h
 ·cases h; exact T113_eq _ _
 ·cases h
noncomputable def A114 : List Value → Option Pg
 | [(.pointer p0)] => some (T114 p0)
 | _ => none
theorem A114_ok : ∀ args p, A114 args = some p → progOf PROG false 114 args = p := by
 intro args p h
 unfold A114 at h
 split at h
 ·cases h; exact T114_eq _
 ·cases h
noncomputable def A115 : List Value → Option Pg
 | [(.string s0), (.string s1)] => some (T115 s0 s1)
 | _ => none
theorem A115_ok : ∀ args p, A115 args = some p → progOf PROG false 115 args = p := by
 intro args p h
 unfold A115 at h
 split at h
 ·cases h; exact T115_eq _ _
 ·cases h
noncomputable def A116 : List Value → Option Pg
 | [(.pointer p0)] => some (T116 p0)
 | _ => none
theorem A116_ok : ∀ args p, A116 args = some p → progOf PROG false 116 args = p := by
 intro args p h
 unfold A116 at h
 split at h
 ·cases h; exact T116_eq _
 ·cases h
noncomputable def A117 : List Value → Option Pg
 | [(.pointer p0)] => some (T117 p0)
 | _ => none
theorem A117_ok : ∀ args p, A117 args = some p → progOf PROG false 117 args = p := by
 intro args p h
 unfold A117 at h
 split at h
 ·cases h; exact T117_eq _
 ·cases h
noncomputable def A118 : List Value → Option Pg
 | [(.pointer p0)] => some (T118 p0)
 | _ => none
theorem A118_ok : ∀ args p, A118 args = some p → progOf PROG false 118 args = p := by
 intro args p h
 unfold A118 at h
 split at h
 ·cases h; exact T118_eq _
 ·cases h
noncomputable def A119 : List Value → Option Pg
 | [] => some (T119)
 | _ => none
theorem A119_ok : ∀ args p, A119 args = some p → progOf PROG false 119 args = p := by
 intro args p h
 unfold A119 at h
 split at h
 ·cases h; exact T119_eq
 ·cases h
noncomputable def A120 : List Value → Option Pg
 | [(.pointer p0), (.agg c0)] => (match c0.toList with
  | [(.int .i64 i1), (.int .i64 i2), (.string s3), (.string s4), (.slice p5 n6 n7), (.int .i64 i8), (.int .i64 i9)] => some (T120 p0 i1 i2 s3 s4 p5 n6 n7 i8 i9)
  | _ => none)
 | _ => none
theorem A120_ok : ∀ args p, A120 args = some p → progOf PROG false 120 args = p := by
 intro args p h
 unfold A120 at h
 split at h
 ·split at h
  ·rename_i e0
   have f0 := agg_of e0
   subst f0
   cases h
   exact T120_eq _ _ _ _ _ _ _ _ _ _
  ·cases h
 ·cases h
noncomputable def A121 : List Value → Option Pg
 | [(.string s0)] => some (T121 s0)
 | _ => none
theorem A121_ok : ∀ args p, A121 args = some p → progOf PROG false 121 args = p := by
 intro args p h
 unfold A121 at h
 split at h
 ·cases h; exact T121_eq _
 ·cases h
noncomputable def A122 : List Value → Option Pg
 | [(.pointer p0)] => some (T122 p0)
 | _ => none
theorem A122_ok : ∀ args p, A122 args = some p → progOf PROG false 122 args = p := by
 intro args p h
 unfold A122 at h
 split at h
 ·cases h; exact T122_eq _
 ·cases h
noncomputable def A123 : List Value → Option Pg
 | [(.pointer p0)] => some (T123 p0)
 | _ => none
theorem A123_ok : ∀ args p, A123 args = some p → progOf PROG false 123 args = p := by
 intro args p h
 unfold A123 at h
 split at h
 ·cases h; exact T123_eq _
 ·cases h
noncomputable def A124 : List Value → Option Pg
 | [(.pointer p0)] => some (T124 p0)
 | _ => none
theorem A124_ok : ∀ args p, A124 args = some p → progOf PROG false 124 args = p := by
 intro args p h
 unfold A124 at h
 split at h
 ·cases h; exact T124_eq _
 ·cases h
noncomputable def A125 : List Value → Option Pg
 | [(.pointer p0)] => some (T125 p0)
 | _ => none
theorem A125_ok : ∀ args p, A125 args = some p → progOf PROG false 125 args = p := by
 intro args p h
 unfold A125 at h
 split at h
 ·cases h; exact T125_eq _
 ·cases h
noncomputable def A126 : List Value → Option Pg
 | [(.pointer p0)] => some (T126 p0)
 | _ => none
theorem A126_ok : ∀ args p, A126 args = some p → progOf PROG false 126 args = p := by
 intro args p h
 unfold A126 at h
 split at h
 ·cases h; exact T126_eq _
 ·cases h
noncomputable def TAB : Tab := (.low 69 (.low 39 (.low 24 (.low 12 (.low 9 (.one 6 A6 (.one 8 A8 (.one 9 A9 .nil))) (.one 10 A10 (.one 11 A11 (.one 12 A12 .nil)))) (.low 21 (.one 17 A17 (.one 19 A19 (.one 21 A21 .nil))) (.one 22 A22 (.one 23 A23 (.one 24 A24 .nil))))) (.low 33 (.low 30 (.one 25 A25 (.one 27 A27 (.one 30 A30 .nil))) (.one 31 A31 (.one 32 A32 (.one 33 A33 .nil)))) (.low 36 (.one 34 A34 (.one 35 A35 (.one 36 A36 .nil))) (.one 37 A37 (.one 38 A38 (.one 39 A39 .nil)))))) (.low 57 (.low 45 (.low 42 (.one 40 A40 (.one 41 A41 (.one 42 A42 .nil))) (.one 43 A43 (.one 44 A44 (.one 45 A45 .nil)))) (.low 48 (.one 46 A46 (.one 47 A47 (.one 48 A48 .nil))) (.one 55 A55 (.one 56 A56 (.one 57 A57 .nil))))) (.low 63 (.low 60 (.one 58 A58 (.one 59 A59 (.one 60 A60 .nil))) (.one 61 A61 (.one 62 A62 (.one 63 A63 .nil)))) (.low 66 (.one 64 A64 (.one 65 A65 (.one 66 A66 .nil))) (.one 67 A67 (.one 68 A68 (.one 69 A69 .nil))))))) (.low 96 (.low 82 (.low 75 (.low 72 (.one 70 A70 (.one 71 A71 (.one 72 A72 .nil))) (.one 73 A73 (.one 74 A74 (.one 75 A75 .nil)))) (.low 78 (.one 76 A76 (.one 77 A77 (.one 78 A78 .nil))) (.one 79 A79 (.one 80 A80 (.one 82 A82 .nil))))) (.low 89 (.low 85 (.one 83 A83 (.one 84 A84 (.one 85 A85 .nil))) (.one 86 A86 (.one 87 A87 (.one 89 A89 .nil)))) (.low 93 (.one 91 A91 (.one 92 A92 (.one 93 A93 .nil))) (.one 94 A94 (.one 95 A95 (.one 96 A96 .nil)))))) (.low 113 (.low 104 (.low 101 (.one 98 A98 (.one 100 A100 (.one 101 A101 .nil))) (.one 102 A102 (.one 103 A103 (.one 104 A104 .nil)))) (.low 110 (.one 105 A105 (.one 108 A108 (.one 110 A110 .nil))) (.one 111 A111 (.one 112 A112 (.one 113 A113 .nil))))) (.low 119 (.low 116 (.one 114 A114 (.one 115 A115 (.one 116 A116 .nil))) (.one 117 A117 (.one 118 A118 (.one 119 A119 .nil)))) (.low 122 (.one 120 A120 (.one 121 A121 (.one 122 A122 .nil))) (.low 124 (.one 123 A123 (.one 124 A124 .nil)) (.one 125 A125 (.one 126 A126 .nil))))))))
theorem TAB_ok : TabOK PROG TAB := (.low (.low (.low (.low (.low (.one A6_ok (.one A8_ok (.one A9_ok .nil))) (.one A10_ok (.one A11_ok (.one A12_ok .nil)))) (.low (.one A17_ok (.one A19_ok (.one A21_ok .nil))) (.one A22_ok (.one A23_ok (.one A24_ok .nil))))) (.low (.low (.one A25_ok (.one A27_ok (.one A30_ok .nil))) (.one A31_ok (.one A32_ok (.one A33_ok .nil)))) (.low (.one A34_ok (.one A35_ok (.one A36_ok .nil))) (.one A37_ok (.one A38_ok (.one A39_ok .nil)))))) (.low (.low (.low (.one A40_ok (.one A41_ok (.one A42_ok .nil))) (.one A43_ok (.one A44_ok (.one A45_ok .nil)))) (.low (.one A46_ok (.one A47_ok (.one A48_ok .nil))) (.one A55_ok (.one A56_ok (.one A57_ok .nil))))) (.low (.low (.one A58_ok (.one A59_ok (.one A60_ok .nil))) (.one A61_ok (.one A62_ok (.one A63_ok .nil)))) (.low (.one A64_ok (.one A65_ok (.one A66_ok .nil))) (.one A67_ok (.one A68_ok (.one A69_ok .nil))))))) (.low (.low (.low (.low (.one A70_ok (.one A71_ok (.one A72_ok .nil))) (.one A73_ok (.one A74_ok (.one A75_ok .nil)))) (.low (.one A76_ok (.one A77_ok (.one A78_ok .nil))) (.one A79_ok (.one A80_ok (.one A82_ok .nil))))) (.low (.low (.one A83_ok (.one A84_ok (.one A85_ok .nil))) (.one A86_ok (.one A87_ok (.one A89_ok .nil)))) (.low (.one A91_ok (.one A92_ok (.one A93_ok .nil))) (.one A94_ok (.one A95_ok (.one A96_ok .nil)))))) (.low (.low (.low (.one A98_ok (.one A100_ok (.one A101_ok .nil))) (.one A102_ok (.one A103_ok (.one A104_ok .nil)))) (.low (.one A105_ok (.one A108_ok (.one A110_ok .nil))) (.one A111_ok (.one A112_ok (.one A113_ok .nil))))) (.low (.low (.one A114_ok (.one A115_ok (.one A116_ok .nil))) (.one A117_ok (.one A118_ok (.one A119_ok .nil)))) (.low (.one A120_ok (.one A121_ok (.one A122_ok .nil))) (.low (.one A123_ok (.one A124_ok .nil)) (.one A125_ok (.one A126_ok .nil))))))))
end Go.Pg
namespace Go.Pg
open Go.Proofs
abbrev ov0 : Ov := fun _ => none
abbrev ovD : Ov := fun k => bif Nat.beq k 99 then some (ovPure decodeG) else (fun k => bif Nat.beq k 88 then some (ovPure letterG) else (fun k => bif Nat.beq k 90 then some (ovPure upperG) else (ov0) k) k) k
noncomputable abbrev tabsD : List (Nat × IntKind × List Int) := [(0, .u8, numsD YtadmleckoibeeaaGreatDoor.Rows.laid_unicode_properties)]
end Go.Pg
namespace Go.Pg
open Go.Proofs Go.Utf8 Go.Lib
def mkB (l : List UInt8) : ByteArray := ⟨l.toArray⟩
theorem mkB_self (s : ByteArray) : mkB s.data.toList = s := rfl
theorem mkB_data (l : List UInt8) : (mkB l).data.toList = l := rfl
theorem mkB_size (l : List UInt8) : (mkB l).size = l.length := rfl
def decL (L : List UInt8) : Nat × Nat := dec (fun i => (L.getD i 0).toNat) L.length 0
theorem decL_eq (L : List UInt8) (p : Nat) (hp : p ≤ L.length) : Utf8.decode (mkB L) p = decL (L.drop p) := by
 rw [decode_dec]
 unfold decL
 have e : (mkB L).size = p + (L.drop p).length := by rw [mkB_size, List.length_drop]; omega
 rw [e]
 have := dec_shift (fun i => ((L.drop p).getD i 0).toNat) (byteN (mkB L)) p (L.drop p).length 0 (fun k => by
  unfold byteN
  rw [mkB_data]
  simp [List.getD, List.getElem?_drop])
 rw [Nat.add_zero] at this
 exact this
theorem decL_width {L : List UInt8} (h : L ≠ []) : 1 ≤ (decL L).2 ∧ (decL L).2 ≤ L.length := by
 have hl : 0 < L.length := List.length_pos_iff.2 h
 have := dec_width (fun i => (L.getD i 0).toNat) L.length 0 hl
 unfold decL
 omega
theorem dec_pre {g g' : Nat → Nat} {n n' : Nat} (h0 : 0 < n) (hg : ∀ k, k < n → g' k = g k) (hw : (dec g' n' 0).2 ≤ n) (hr : (dec g' n' 0).1 ≠ runeError) : dec g n 0 = dec g' n' 0 := by
 have e0 := hg 0 h0
 unfold dec at hw hr ⊢
 simp only [Nat.zero_add] at hw hr ⊢
 rw [e0] at hw hr ⊢
 by_cases h1 : g 0 < 0x80
 ·rw [if_pos h1, if_pos h1]
 rw [if_neg h1] at hw hr ⊢
 rw [if_neg h1]
 by_cases h2 : (g 0 / 32 == 6 && (decide (1 < n') && (g' 1 / 64 == 2))) = true
 ·rw [if_pos h2] at hw hr ⊢
  split at hw
  ·rename_i hc
   have hn1 : 1 < n := hw
   have e1 := hg 1 hn1
   rw [e1] at h2 hc ⊢
   simp only [Bool.and_eq_true, decide_eq_true_eq, beq_iff_eq] at h2
   rw [if_pos (by simp [h2, hn1])]
  ·rename_i hc
   rw [if_neg hc] at hr
   exact absurd rfl hr
 rw [if_neg h2] at hw hr ⊢
 by_cases h3 : (g 0 / 16 == 14 && (decide (1 < n') && (g' 1 / 64 == 2)) && (decide (2 < n') && (g' 2 / 64 == 2))) = true
 ·rw [if_pos h3] at hw hr ⊢
  have hx : (g 0 / 32 == 6) = false := by
   simp only [Bool.and_eq_true, decide_eq_true_eq, beq_iff_eq] at h3
   rw [Bool.eq_false_iff]
   simp only [ne_eq, beq_iff_eq]
   omega
  rw [if_neg (by simp [hx])]
  split at hw
  ·rename_i hc
   have hn2 : 2 < n := hw
   have e1 := hg 1 (by omega)
   have e2 := hg 2 hn2
   rw [e1, e2] at h3 hc ⊢
   simp only [Bool.and_eq_true, decide_eq_true_eq, beq_iff_eq] at h3
   rw [if_pos (by simp [h3, hn2]; omega)]
  ·rename_i hc
   rw [if_neg hc] at hr
   exact absurd rfl hr
 rw [if_neg h3] at hw hr ⊢
 by_cases h4 : (g 0 / 8 == 30 && (decide (1 < n') && (g' 1 / 64 == 2)) && (decide (2 < n') && (g' 2 / 64 == 2)) && (decide (3 < n') && (g' 3 / 64 == 2))) = true
 ·rw [if_pos h4] at hw hr ⊢
  have hx : (g 0 / 32 == 6) = false ∧ (g 0 / 16 == 14) = false := by
   simp only [Bool.and_eq_true, decide_eq_true_eq, beq_iff_eq] at h4
   simp only [Bool.eq_false_iff, ne_eq, beq_iff_eq]
   omega
  rw [if_neg (by simp [hx.1]), if_neg (by simp [hx.2])]
  split at hw
  ·rename_i hc
   have hn3 : 3 < n := hw
   have e1 := hg 1 (by omega)
   have e2 := hg 2 (by omega)
   have e3 := hg 3 hn3
   rw [e1, e2, e3] at h4 hc ⊢
   simp only [Bool.and_eq_true, decide_eq_true_eq, beq_iff_eq] at h4
   rw [if_pos (by simp [h4, hn3]; omega)]
  ·rename_i hc
   rw [if_neg hc] at hr
   exact absurd rfl hr
 ·rw [if_neg h4] at hr
  exact absurd rfl hr
theorem decL_ascii {b : UInt8} {r : List UInt8} (hb : b.toNat < 128) : decL (b :: r) = (b.toNat, 1) := by
 unfold decL dec
 simp only [List.getD_cons_zero]
 rw [if_pos hb]
theorem dec_lt {g : Nat → Nat} {n : Nat} (h : (dec g n 0).1 < 128) : g 0 = (dec g n 0).1 ∧ (dec g n 0).2 = 1 := by
 unfold dec at h ⊢
 simp only at h ⊢
 repeat' split at h
 all_goals first
  | (rename_i h1; rw [if_pos h1]; exact ⟨rfl, rfl⟩)
  | (exfalso; simp only [runeError, Bool.and_eq_true, decide_eq_true_eq, beq_iff_eq, ge_iff_le] at *; omega)
theorem decL_lt {L : List UInt8} (hL : L ≠ []) (h : (decL L).1 < 128) : ∃ b r, L = b :: r ∧ b.toNat = (decL L).1 ∧ (decL L).2 = 1 := by
 obtain ⟨b, r, rfl⟩ : ∃ b r, L = b :: r := by
  cases L with
  | nil => exact absurd rfl hL
  | cons b r => exact ⟨b, r, rfl⟩
 unfold decL at h ⊢
 have := dec_lt h
 exact ⟨b, r, rfl, this.1, this.2⟩
def runL (may : Nat → Bool) : Nat → List UInt8 → Nat
 | 0, _ => 0
 | f + 1, L => if L = [] then 0 else if may (decL L).1 = true then (decL L).2 + runL may f (L.drop (decL L).2) else 0
def run (may : Nat → Bool) (L : List UInt8) : Nat := runL may L.length L
section
variable {may : Nat → Bool}
theorem runL_fuel : ∀ (f f' : Nat) (L : List UInt8), L.length ≤ f → L.length ≤ f' → runL may f L = runL may f' L
 | 0, f', L, h, _ => by
  have : L = [] := List.eq_nil_of_length_eq_zero (by omega)
  subst this
  cases f' <;> simp [runL]
 | f + 1, 0, L, _, h => by
  have : L = [] := List.eq_nil_of_length_eq_zero (by omega)
  subst this
  simp [runL]
 | f + 1, f' + 1, L, h1, h2 => by
  unfold runL
  by_cases hL : L = []
  ·rw [if_pos hL, if_pos hL]
  ·have := decL_width hL
   rw [if_neg hL, if_neg hL, runL_fuel f f' _ (by rw [List.length_drop]; omega) (by rw [List.length_drop]; omega)]
theorem run_nil : run may [] = 0 := rfl
theorem run_step {L : List UInt8} (hL : L ≠ []) : run may L = if may (decL L).1 = true then (decL L).2 + run may (L.drop (decL L).2) else 0 := by
 have hw := decL_width hL
 unfold run
 obtain ⟨n, hn⟩ : ∃ n, L.length = n + 1 := ⟨L.length - 1, by have := List.length_pos_iff.2 hL; omega⟩
 rw [hn]
 conv => lhs; unfold runL
 rw [if_neg hL, runL_fuel n (L.drop (decL L).2).length _ (by rw [List.length_drop]; omega) (Nat.le_refl _)]
theorem run_le : ∀ (n : Nat) (L : List UInt8), L.length ≤ n → run may L ≤ L.length
 | 0, L, h => by
  have : L = [] := List.eq_nil_of_length_eq_zero (by omega)
  subst this
  exact Nat.le_refl _
 | n + 1, L, h => by
  by_cases hL : L = []
  ·subst hL; exact Nat.le_refl _
  ·have hw := decL_width hL
   rw [run_step hL]
   split
   ·have := run_le n (L.drop (decL L).2) (by rw [List.length_drop]; omega)
    rw [List.length_drop] at this
    omega
   ·omega
theorem run_len (L : List UInt8) : run may L ≤ L.length := run_le _ L (Nat.le_refl _)
theorem run_stop {b : UInt8} {r : List UInt8} (hb : b.toNat < 128) (hm : may b.toNat = false) : run may (b :: r) = 0 := by
 rw [run_step (by simp), decL_ascii hb]
 simp [hm]
theorem run_go {b : UInt8} {r : List UInt8} (hb : b.toNat < 128) (hm : may b.toNat = true) : run may (b :: r) = 1 + run may r := by
 rw [run_step (by simp), decL_ascii hb]
 simp [hm]
end
def rmk : Nat → List UInt8 → Int → Option Nat
 | 0, _, _ => none
 | f + 1, L, d => match L with
  | [] => none
  | a :: r =>
   if a = 40 ∧ r.head? = some 42 then (if d + 1 = 0 then some 2 else (rmk f (r.drop 1) (d + 1)).map (· + 2))
   else if a = 42 ∧ r.head? = some 41 then (if d - 1 = 0 then some 2 else (rmk f (r.drop 1) (d - 1)).map (· + 2))
   else if d = 0 then some 1 else (rmk f r d).map (· + 1)
theorem rmk_fuel : ∀ (f f' : Nat) (L : List UInt8) (d : Int), L.length ≤ f → L.length ≤ f' → rmk f L d = rmk f' L d
 | 0, f', L, d, h, _ => by
  have : L = [] := List.eq_nil_of_length_eq_zero (by omega)
  subst this
  cases f' <;> rfl
 | f + 1, 0, L, d, _, h => by
  have : L = [] := List.eq_nil_of_length_eq_zero (by omega)
  subst this
  rfl
 | f + 1, f' + 1, L, d, h1, h2 => by
  cases L with
  | nil => rfl
  | cons a r =>
   simp only [List.length_cons] at h1 h2
   unfold rmk
   simp only
   rw [rmk_fuel f f' (r.drop 1) (d + 1) (by simp; omega) (by simp; omega), rmk_fuel f f' (r.drop 1) (d - 1) (by simp; omega) (by simp; omega), rmk_fuel f f' r d (by omega) (by omega)]
theorem rmk_bound : ∀ (f : Nat) (L : List UInt8) (d : Int) (m : Nat), rmk f L d = some m → 1 ≤ m ∧ m ≤ L.length
 | 0, L, d, m, h => by cases h
 | f + 1, L, d, m, h => by
  cases L with
  | nil => cases h
  | cons a r =>
   unfold rmk at h
   simp only at h
   split at h
   ·rename_i h1
    have hr : 1 ≤ r.length := by
     cases r with
     | nil => simp at h1
     | cons _ _ => simp
    split at h
    ·cases h; simp; omega
    ·obtain ⟨k, hk, rfl⟩ := Option.map_eq_some_iff.1 h
     have := rmk_bound f _ _ _ hk
     simp at this ⊢
     omega
   ·split at h
    ·rename_i h1
     have hr : 1 ≤ r.length := by
      cases r with
      | nil => simp at h1
      | cons _ _ => simp
     split at h
     ·cases h; simp; omega
     ·obtain ⟨k, hk, rfl⟩ := Option.map_eq_some_iff.1 h
      have := rmk_bound f _ _ _ hk
      simp at this ⊢
      omega
    ·split at h
     ·cases h; simp
     ·obtain ⟨k, hk, rfl⟩ := Option.map_eq_some_iff.1 h
      have := rmk_bound f _ _ _ hk
      simp
      omega
end Go.Pg
