/- StarveL, Shelf, CopW, CopO, UniR, UniW, UniJ, UniP, UniH, UniO -/
import Derived.Ground.NamesProg
import Derived.Shelf.Unicode.PredsPay
import Derived.Test.YtaebddgepicjpaaGreatDoorProg
import Derived.WalkKit
import Derived.Maps.Ext
import Derived.Maps.RangeWalk
import Derived.BigCall
import Derived.Test.YtaebddgepicjpaaGreatDoorP7
import Derived.Test.YtaebddgepicjpaaGreatDoorP8
import Derived.Test.YtaebddgepicjpaaGreatDoorP9
import Derived.Test.YtaebddgepicjpaaGreatDoorP10
import Derived.Test.YtaebddgepicjpaaGreatDoorP11
import Derived.Test.YtaebddgepicjpaaGreatDoorP12
import Derived.Test.YtaebddgepicjpaaGreatDoorP13
import Derived.Test.YtaebddgepicjpaaGreatDoorP14
import Derived.Test.YtaebddgepicjpaaGreatDoorP15
import Derived.Test.YtaebddgepicjpaaGreatDoorP16
import Derived.Test.YtaebddgepicjpaaGreatDoorP17
set_option maxHeartbeats 1000000
namespace Go.Pg
open Go.Proofs
theorem vr_spot {B n c:Nat} {v:Value} {p:Option Addr} (h:VR noInj B (.slice p n c) v):∀ q,p=some q→q.spot=none:=by
 intro q hq
 cases h with
 |sliceNil=>cases hq
 |sliceZero _ _ hl=>
  cases hq
  cases hs:q.spot with
  |none=>rfl
  |some v=>
   obtain ⟨i,hi⟩:=hl v hs
   cases hi
 |sliceOld=>
  cases hq
  assumption
 |sliceNew h=>cases h
theorem cl_some {a:Addr} {l:List Int}:clA (some a) l=.agg (l.map i64).toArray:=if_neg (by simp)
theorem run_all {old:Addr→Option Value} {p:Option Addr} {c:Nat} (h0:RunOK old p c (clA p []) 0 []):∀ l:List Int,l.length≤15→(l≠[]→p≠none)→RunOK old p c (clA p l) l.length l
 |[],_,_=>h0
 |[n1],_,hp=>by
  obtain ⟨a,rfl⟩:=Option.ne_none_iff_exists'.1 (hp (by simp))
  rw [cl_some]
  exact (runs6 _ _ _).2 n1
 |[n1,n2],_,hp=>by
  obtain ⟨a,rfl⟩:=Option.ne_none_iff_exists'.1 (hp (by simp))
  rw [cl_some]
  exact (runs7 _ _ _).2 n1 n2
 |[n1,n2,n3],_,hp=>by
  obtain ⟨a,rfl⟩:=Option.ne_none_iff_exists'.1 (hp (by simp))
  rw [cl_some]
  exact (runs8 _ _ _).2 n1 n2 n3
 |[n1,n2,n3,n4],_,hp=>by
  obtain ⟨a,rfl⟩:=Option.ne_none_iff_exists'.1 (hp (by simp))
  rw [cl_some]
  exact (runs9 _ _ _).2 n1 n2 n3 n4
 |[n1,n2,n3,n4,n5],_,hp=>by
  obtain ⟨a,rfl⟩:=Option.ne_none_iff_exists'.1 (hp (by simp))
  rw [cl_some]
  exact (runs10 _ _ _).2 n1 n2 n3 n4 n5
 |[n1,n2,n3,n4,n5,n6],_,hp=>by
  obtain ⟨a,rfl⟩:=Option.ne_none_iff_exists'.1 (hp (by simp))
  rw [cl_some]
  exact (runs10 _ _ _).1 n1 n2 n3 n4 n5 n6
 |[n1,n2,n3,n4,n5,n6,n7],_,hp=>by
  obtain ⟨a,rfl⟩:=Option.ne_none_iff_exists'.1 (hp (by simp))
  rw [cl_some]
  exact (runs9 _ _ _).1 n1 n2 n3 n4 n5 n6 n7
 |[n1,n2,n3,n4,n5,n6,n7,n8],_,hp=>by
  obtain ⟨a,rfl⟩:=Option.ne_none_iff_exists'.1 (hp (by simp))
  rw [cl_some]
  exact (runs8 _ _ _).1 n1 n2 n3 n4 n5 n6 n7 n8
 |[n1,n2,n3,n4,n5,n6,n7,n8,n9],_,hp=>by
  obtain ⟨a,rfl⟩:=Option.ne_none_iff_exists'.1 (hp (by simp))
  rw [cl_some]
  exact (runs7 _ _ _).1 n1 n2 n3 n4 n5 n6 n7 n8 n9
 |[n1,n2,n3,n4,n5,n6,n7,n8,n9,n10],_,hp=>by
  obtain ⟨a,rfl⟩:=Option.ne_none_iff_exists'.1 (hp (by simp))
  rw [cl_some]
  exact (runs6 _ _ _).1 n1 n2 n3 n4 n5 n6 n7 n8 n9 n10
 |[n1,n2,n3,n4,n5,n6,n7,n8,n9,n10,n11],_,hp=>by
  obtain ⟨a,rfl⟩:=Option.ne_none_iff_exists'.1 (hp (by simp))
  rw [cl_some]
  exact (runs5 _ _ _).1 n1 n2 n3 n4 n5 n6 n7 n8 n9 n10 n11
 |[n1,n2,n3,n4,n5,n6,n7,n8,n9,n10,n11,n12],_,hp=>by
  obtain ⟨a,rfl⟩:=Option.ne_none_iff_exists'.1 (hp (by simp))
  rw [cl_some]
  exact (runs4 _ _ _).1 n1 n2 n3 n4 n5 n6 n7 n8 n9 n10 n11 n12
 |[n1,n2,n3,n4,n5,n6,n7,n8,n9,n10,n11,n12,n13],_,hp=>by
  obtain ⟨a,rfl⟩:=Option.ne_none_iff_exists'.1 (hp (by simp))
  rw [cl_some]
  exact (runs3 _ _ _) n1 n2 n3 n4 n5 n6 n7 n8 n9 n10 n11 n12 n13
 |[n1,n2,n3,n4,n5,n6,n7,n8,n9,n10,n11,n12,n13,n14],_,hp=>by
  obtain ⟨a,rfl⟩:=Option.ne_none_iff_exists'.1 (hp (by simp))
  rw [cl_some]
  exact (runs2 _ _ _) n1 n2 n3 n4 n5 n6 n7 n8 n9 n10 n11 n12 n13 n14
 |[n1,n2,n3,n4,n5,n6,n7,n8,n9,n10,n11,n12,n13,n14,n15],_,hp=>by
  obtain ⟨a,rfl⟩:=Option.ne_none_iff_exists'.1 (hp (by simp))
  rw [cl_some]
  exact (runs1 _ _ _) n1 n2 n3 n4 n5 n6 n7 n8 n9 n10 n11 n12 n13 n14 n15
 |_::_::_::_::_::_::_::_::_::_::_::_::_::_::_::_::_,h,_=>by simp only [List.length_cons] at h;omega
theorem topStarve_law (p0:Option Addr) (c0:Nat) (l0:List Int) (old0:Addr→Option Value) (rd0:RdR (unO tabsD old0) 1 (.int .i64) p0 l0) (ok0:(Sh.row 1 (.int .i64)).ok l0) (sp0:∀ q,p0=some q→q.spot=none):
  WpF PROG ovE 3 [.slice p0 l0.length c0] (startH (unO tabsD old0)) fun v _=>v=.bool true:=by
 have hm:l0.length≤maxLen:=ok0.1
 by_cases h:l0.length≤15∧inpB l0=true
 ·refine starve_of rd0 sp0 h.1 h.2 (run_all ?_ l0 h.1 ?_)
  ·cases p0 with
   |none=>exact (runs4 _ _ _).2
   |some a=>
    rw [cl_some]
    exact (runs5 _ _ _).2
  ·intro hl hn
   subst hn
   obtain ⟨x,hx,_⟩:=rd0 0 (Nat.pos_of_ne_zero (by simpa using hl))
   cases hx
 ·exact starve_not rd0 (by unfold maxLen at hm;omega) h
end Go.Pg
namespace Go.Proofs
open Go.Shelf
def Tryz.laysLetter_ren:Go.Shelf.Ren:=⟨fun|200=>225|261=>286|311=>315|312=>316|n=>n,fun|21=>21|4=>4|51=>394|5=>5|119=>408|0=>0|141=>410|196=>440|193=>437|3=>3|198=>443|49=>441|194=>438|201=>446|226=>468|46=>105|227=>469|n=>n,fun|7=>0|8=>1|n=>n⟩
theorem Tryz.laysLetter:Go.Proofs.Lays.n200 Tryz.prog Tryz.laysLetter_ren:={
 mixed:=by kernel_rfl
 f200:=Tryz.func225.trans (congrArg some (by kernel_rfl))
 f261:=Tryz.func286.trans (congrArg some (by kernel_rfl))
 f311:=Tryz.func315.trans (congrArg some (by kernel_rfl))
 f312:=Tryz.func316.trans (congrArg some (by kernel_rfl))
 t0:=Tryz.underlying0
 a0:=Tryz.isAgg0
 z0:=Tryz.sizeOf0
 v0:=Tryz.zeroValue0
 t3:=Tryz.underlying3
 a3:=Tryz.isAgg3
 z3:=Tryz.sizeOf3
 v3:=Tryz.zeroValue3
 t4:=Tryz.underlying4
 a4:=Tryz.isAgg4
 z4:=Tryz.sizeOf4
 v4:=Tryz.zeroValue4
 t5:=Tryz.underlying5
 a5:=Tryz.isAgg5
 z5:=Tryz.sizeOf5
 v5:=Tryz.zeroValue5
 t21:=Tryz.underlying21
 a21:=Tryz.isAgg21
 z21:=Tryz.sizeOf21
 v21:=Tryz.zeroValue21
 t46:=Tryz.underlying105
 a46:=Tryz.isAgg105
 z46:=Tryz.sizeOf105
 v46:=Tryz.zeroValue105
 t49:=Tryz.underlying441
 a49:=Tryz.isAgg441
 z49:=Tryz.sizeOf441
 v49:=Tryz.zeroValue441
 t51:=Tryz.underlying394
 a51:=Tryz.isAgg394
 z51:=Tryz.sizeOf394
 v51:=Tryz.zeroValue394
 t119:=Tryz.underlying408
 a119:=Tryz.isAgg408
 z119:=Tryz.sizeOf408
 t141:=Tryz.underlying410
 a141:=Tryz.isAgg410
 z141:=Tryz.sizeOf410
 v141:=Tryz.zeroValue410
 t193:=Tryz.underlying437
 a193:=Tryz.isAgg437
 z193:=Tryz.sizeOf437
 v193:=Tryz.zeroValue437
 t194:=Tryz.underlying438
 a194:=Tryz.isAgg438
 z194:=Tryz.sizeOf438
 v194:=Tryz.zeroValue438
 t196:=Tryz.underlying440
 a196:=Tryz.isAgg440
 z196:=Tryz.sizeOf440
 v196:=Tryz.zeroValue440
 t198:=Tryz.underlying443
 a198:=Tryz.isAgg443
 z198:=Tryz.sizeOf443
 v198:=Tryz.zeroValue443
 t201:=Tryz.underlying446
 a201:=Tryz.isAgg446
 z201:=Tryz.sizeOf446
 v201:=Tryz.zeroValue446
 t226:=Tryz.underlying468
 a226:=Tryz.isAgg468
 z226:=Tryz.sizeOf468
 v226:=Tryz.zeroValue468
 t227:=Tryz.underlying469
 a227:=Tryz.isAgg469
 z227:=Tryz.sizeOf469
 v227:=Tryz.zeroValue469
 g7:=by kernel_rfl
 g8:=by kernel_rfl }
def Tryz.laysUpper_ren:Go.Shelf.Ren:=⟨fun|201=>287|261=>286|311=>315|312=>316|n=>n,fun|21=>21|4=>4|51=>394|5=>5|119=>408|0=>0|141=>410|196=>440|193=>437|3=>3|198=>443|49=>441|194=>438|201=>446|226=>468|46=>105|227=>469|n=>n,fun|7=>0|9=>4|n=>n⟩
theorem Tryz.laysUpper:Go.Proofs.Lays.n201 Tryz.prog Tryz.laysUpper_ren:={
 mixed:=by kernel_rfl
 f201:=Tryz.func287.trans (congrArg some (by kernel_rfl))
 f261:=Tryz.func286.trans (congrArg some (by kernel_rfl))
 f311:=Tryz.func315.trans (congrArg some (by kernel_rfl))
 f312:=Tryz.func316.trans (congrArg some (by kernel_rfl))
 t0:=Tryz.underlying0
 a0:=Tryz.isAgg0
 z0:=Tryz.sizeOf0
 v0:=Tryz.zeroValue0
 t3:=Tryz.underlying3
 a3:=Tryz.isAgg3
 z3:=Tryz.sizeOf3
 v3:=Tryz.zeroValue3
 t4:=Tryz.underlying4
 a4:=Tryz.isAgg4
 z4:=Tryz.sizeOf4
 v4:=Tryz.zeroValue4
 t5:=Tryz.underlying5
 a5:=Tryz.isAgg5
 z5:=Tryz.sizeOf5
 v5:=Tryz.zeroValue5
 t21:=Tryz.underlying21
 a21:=Tryz.isAgg21
 z21:=Tryz.sizeOf21
 v21:=Tryz.zeroValue21
 t46:=Tryz.underlying105
 a46:=Tryz.isAgg105
 z46:=Tryz.sizeOf105
 v46:=Tryz.zeroValue105
 t49:=Tryz.underlying441
 a49:=Tryz.isAgg441
 z49:=Tryz.sizeOf441
 v49:=Tryz.zeroValue441
 t51:=Tryz.underlying394
 a51:=Tryz.isAgg394
 z51:=Tryz.sizeOf394
 v51:=Tryz.zeroValue394
 t119:=Tryz.underlying408
 a119:=Tryz.isAgg408
 z119:=Tryz.sizeOf408
 t141:=Tryz.underlying410
 a141:=Tryz.isAgg410
 z141:=Tryz.sizeOf410
 v141:=Tryz.zeroValue410
 t193:=Tryz.underlying437
 a193:=Tryz.isAgg437
 z193:=Tryz.sizeOf437
 v193:=Tryz.zeroValue437
 t194:=Tryz.underlying438
 a194:=Tryz.isAgg438
 z194:=Tryz.sizeOf438
 v194:=Tryz.zeroValue438
 t196:=Tryz.underlying440
 a196:=Tryz.isAgg440
 z196:=Tryz.sizeOf440
 v196:=Tryz.zeroValue440
 t198:=Tryz.underlying443
 a198:=Tryz.isAgg443
 z198:=Tryz.sizeOf443
 v198:=Tryz.zeroValue443
 t201:=Tryz.underlying446
 a201:=Tryz.isAgg446
 z201:=Tryz.sizeOf446
 v201:=Tryz.zeroValue446
 t226:=Tryz.underlying468
 a226:=Tryz.isAgg468
 z226:=Tryz.sizeOf468
 v226:=Tryz.zeroValue468
 t227:=Tryz.underlying469
 a227:=Tryz.isAgg469
 z227:=Tryz.sizeOf469
 v227:=Tryz.zeroValue469
 g7:=by kernel_rfl
 g9:=by kernel_rfl }
end Go.Proofs
namespace Go.Proofs.YtaebddgepicjpaaGreatDoor
open Go.RowKit Go.Maps
theorem law3:Keyed Tryz.prog 3:=int_keyed Tryz.underlying3
def heldR:Value→Option (DataW Value × List MemPlace)
 | .agg cs=>match cs.toList with
  |[.int .i64 _,.string _,.int .i64 _,.slice _ _ _]=>some (.held (.agg cs),[])
  |_=>none
 |_=>none
def mkT (x:Int × ByteArray × Int × Option Addr × Nat × Nat):Value:=.agg #[.int .i64 x.1,.string x.2.1,.int .i64 x.2.2.1,.slice x.2.2.2.1 x.2.2.2.2.1 x.2.2.2.2.2]
theorem held_mkT (x:Int × ByteArray × Int × Option Addr × Nat × Nat):heldR (mkT x)=some (.held (mkT x),[]):=rfl
theorem held_inv {v:Value} {y:DataW Value × List MemPlace} (h:heldR v=some y):∃ c,v=mkT c:=by
 unfold heldR at h
 split at h
 ·rename_i cs
  obtain ⟨l⟩:=cs
  split at h
  ·rename_i a b c d e f heq
   simp only at heq
   subst heq
   exact ⟨(a,b,c,d,e,f),rfl⟩
  ·cases h
 ·cases h
theorem run_und61 (w:World):(underlying 195).run Tryz.prog w=.ok (.map 3 31) w:=Go.Pg.run_und Tryz.underlying195
theorem run_len61 {b:Nat} {es:Array MapEntry} {clock:Nat} {w:World} (h:w.heap[b]?=some (.map es clock)):(Builtin.len_ #[195] 3 #[Value.map (some b)]).run Tryz.prog w=.ok (.int .i64 es.size) w:=by
 unfold Builtin.len_
 simp only [List.getElem?_toArray,List.getElem?_cons_zero]
 rw [Sem.run_bind,run_und61]
 simp only [Result.andThen]
 rw [Sem.run_bind,Go.MapKept.run_getObj_map h]
 try rfl
theorem run_make61 (n:Int) (w:World):(Instr.makeMap 195 (some (.int .i64 n))).run Tryz.prog w=.ok (.map (some w.heap.size)) (w.alloc (.map #[] 0)):=by
 unfold Instr.makeMap
 simp only
 rw [Sem.run_bind,run_und61]
 try rfl
set_option maxRecDepth 100000 in
theorem copied_any (SB SO b n:Nat) (nx:Int) (D0:DataW Value) (w:World) (h0:w.cell? ⟨SB,SO,none⟩=some (.int .i64 nx)) (h1:w.cell? ⟨SB,SO+1,none⟩=some (.map (some b))) (hown:w.ownsMap Tryz.prog 3 heldR b n D0) (hmax:Maps.size D0≤maxLen):
  Calls Tryz.prog 289 #[.pointer (some ⟨SB,SO,none⟩)] w fun e w'=>∃ g,e=.returned (.pointer (some ⟨g,0,none⟩))∧w.heap.size<g∧w'.heap[g]?=some (.cells #[.int .i64 nx,.map (some w.heap.size)] 197 (0,0))∧w'.ownsMap Tryz.prog 3 heldR w.heap.size (Maps.size D0) D0∧Below w.heap.size w w':=by
 have hmm2:=run_make61
 have hbl:=hown.lt
 have hSB:SB<w.heap.size:=by
  rcases Nat.lt_or_ge SB w.heap.size with h'|h'
  ·exact h'
  ·simp [World.cell?,Array.getElem?_eq_none h'] at h1
 have h1':∀ o,(w.alloc o).cell? ⟨SB,SO+1,none⟩=some (.map (some b)):=fun o=>(World.cell?_alloc_lt w o _ hSB).trans h1
 have e1:(w.alloc (.map #[] 0)).heap.size=w.heap.size+1:=by simp
 have hlen:∃ k:Nat,(Builtin.len_ #[195] 3 #[Value.map (some b)]).run Tryz.prog w=.ok (.int .i64 k) w:=by
  obtain ⟨es,clock,hb,_⟩:=hown
  exact ⟨_,run_len61 hb⟩
 obtain ⟨k,hlen⟩:=hlen
 go_enter Tryz.func289,Tryz.ntmps289
 go_wp2_with (first
  |(at_range;refine wpList_range_own _ rfl _ 195 rfl 3 31 law3 Tryz.underlying195 heldR b n _ rfl (hown.alloc _) ?_;intro w0 hrg0 hg0 hs0)
  |go_in)
 go_frame
 rw [e1] at hrg0 hs0 ⊢
 go_loopw [4] (fun _ wr=>∃ (left:Lit→Bool) (cnt:Nat) (Dout:DataW Value),wr.ranges Tryz.prog 3 heldR b (w.heap.size+1) n D0 left cnt∧cnt≤Maps.size D0∧
   wr.ownsMap Tryz.prog 3 heldR w.heap.size (Maps.size D0 - cnt) Dout∧Agree Dout D0 left∧Below w.heap.size w wr)
  (fun _ wr=>wr.rangeLeft b (w.heap.size+1))
 case atStart=>
  exact ⟨_,_,.map [],hrg0,Nat.le_refl _,((World.ownsMap_made _ _ _ _).kept hg0 (by simp)).mono (Nat.zero_le _),agree_start D0,((Below.refl _ _).alloc (Nat.le_refl _) _).grown hg0 (by simp) (fun j hj=>by cases hj)⟩
 case round=>
  obtain ⟨left,cnt,Dout,hrg,hcs,hout,hA,hnx⟩:=hrel
  have hc0:wr.cell? ⟨SB,SO,none⟩=some (.int .i64 nx):=(hnx.cell hSB).trans h0
  go_wp2_with (first
   |(at_next;refine wpList_next_ranges _ rfl _ rfl 3 law3 heldR (Value.int .i64) mkT (fun key kl h=>by obtain ⟨x,e,_⟩:=Maps.keyOf_int_inv Tryz.underlying3 h;exact ⟨x,e⟩) (fun v y h=>held_inv h) b (w.heap.size+1) n _ _ _ rfl hrg ?_ ?_)
   |go_in)
  ·intro hcz hl0
   subst hcz
   go_wp2
   go_ret
   have e:=agree_end hA hl0 (hout.canon law3) (hown.canon law3)
   subst e
   exact ⟨_,rfl,by have:=hrg.lt;omega,Go.Pg.heap_new _ _,(by simpa using hout:World.ownsMap wr Tryz.prog 3 heldR w.heap.size (size Dout) Dout).alloc _,hnx.alloc hnx.size _⟩
  ·intro x a1 b1 c1 d1 d2 d3 kl yd yp w1 cnt1 hkx hlx hRc hat hrg1 hlt hg1 hs1 hen
   have hout1:=hout.kept hg1 (by simp)
   cases hRc
   have HS1:Hid (w1.heap.size=wr.heap.size):=hs1
   clear hs1
   simp only [mkT] at hen hat ⊢
   have hv4:heldR (.agg #[.int .i64 a1,.string b1,.int .i64 c1,.slice d1 d2 d3])=some (.held (.agg #[.int .i64 a1,.string b1,.int .i64 c1,.slice d1 d2 d3]),[]):=rfl
   go_wp2_with (first
    |(at_mapUpdate;refine wpList_mapUpdate_own _ rfl _ _ _ 195 rfl 3 31 law3 Tryz.underlying195 heldR w.heap.size _ _ rfl (hout1.alloc _) (by have:=HS1.out;omega) _ _ _ rfl rfl hkx _ [] hv4 ?_;intro w2 hout2 hg2;go_frame)
    |go_in)
   have hB1:=hnx.grown hg1 hnx.size (fun j hj=>by cases hj;exact Nat.le_succ _)
   have hB2:=hB1.alloc hB1.size (.cells #[.int .i64 a1,.string b1,.int .i64 c1,.slice d1 d2 d3] 31)
   have hrg2:=(hrg1.alloc (.cells #[.int .i64 a1,.string b1,.int .i64 c1,.slice d1 d2 d3] 31)).kept hg2 (fun e=>by have:=Option.some.inj e;omega) (fun e=>by have:=Option.some.inj e;omega)
   refine ⟨⟨_,cnt1,_,hrg2,by omega,hout2.mono (by omega),agree_step hA hout.isMap (law3.key hkx) hat,hB2.grown hg2 hB2.size (fun j hj=>by cases hj;exact Nat.le_refl _)⟩,?_⟩
   rw [hrg2.left_eq,hrg.left_eq]
   exact hlt
end Go.Proofs.YtaebddgepicjpaaGreatDoor
namespace Go.Proofs.YtaebddgepicjpaaGreatDoor
open Go.RowKit Go.Pg Go.Maps Go.WideShapes
open Go.WideElems (Fit rg rd rd_mk rg_of rd_key rd_val)
theorem ar_spot {ι:Inj} {B:Nat} {a a':Addr} (h:AR ι B a a'):a'.spot=none:=by
 cases h with
 |old _ hs=>exact hs
 |new _ _=>rfl
theorem ptr_inv {ι:Inj} {B:Nat} {a:Addr} {v:Value} (h:VR ι B (.pointer (some a)) v):∃ a',v=.pointer (some a')∧AR ι B a a':=by
 cases h with
 |ptr h=>exact ⟨_,rfl,h⟩
theorem int_inv {ι:Inj} {B:Nat} {k:IntKind} {n:Int} {v:Value} (h:VR ι B (.int k n) v):v=.int k n:=by
 cases h
 rfl
theorem isTy_VR {ι:Inj} {B:Nat} {v v':Value} (h:isTy v=true) (hv:VR ι B v v'):∃ k s n p l c,v'=.agg #[.int .i64 k,.string s,.int .i64 n,.slice p l c]:=by
 unfold isTy at h
 split at h
 ·rename_i cs
  obtain ⟨l⟩:=cs
  split at h
  ·rename_i a b c d e f heq
   simp only at heq
   subst heq
   cases hv with
   |agg hx hc=>
    rename_i x'
    obtain ⟨m⟩:=x'
    simp at hx
    match m,hx with
    |[x0,x1,x2,x3],_=>
     have h0:=hc 0 _ _ rfl rfl
     have h1:=hc 1 _ _ rfl rfl
     have h2:=hc 2 _ _ rfl rfl
     have h3:=hc 3 _ _ rfl rfl
     cases h0
     cases h1
     cases h2
     cases h3<;>exact ⟨_,_,_,_,_,_,rfl⟩
  ·cases h
 ·cases h
theorem keyOf3 {n:Int} (h0: -9223372036854775808≤n) (h1:n≤9223372036854775807):keyOf Tryz.prog 3 (.int .i64 n)=some (.int .i64 n):=by
 have hw:(Lit.int .i64 n).wf=true:=by simp [Lit.wf,IntKind.min,IntKind.max,IntKind.bits,IntKind.signed];omega
 exact keyOf_int_mk Tryz.underlying3 hw
theorem perm_lift {α β:Type} {f:α→β} {l1 l2:List β} (p:l1.Perm l2):∀ z:List α,z.map f=l1→∃ z':List α,z'.Perm z∧z'.map f=l2:=by
 induction p with
 |nil=>intro z hz;exact ⟨z,.refl _,hz⟩
 |cons x _ ih=>
  intro z hz
  cases z with
  |nil=>cases hz
  |cons a z=>
   simp only [List.map_cons,List.cons.injEq] at hz
   obtain ⟨z',h1,h2⟩:=ih z hz.2
   exact ⟨a::z',h1.cons _,by simp [h2,hz.1]⟩
 |swap x y l=>
  intro z hz
  match z,hz with
  |a::b::z,hz=>
   simp only [List.map_cons,List.cons.injEq] at hz
   exact ⟨b::a::z,.swap _ _ _,by simp [hz.1,hz.2.1,hz.2.2]⟩
 |trans _ _ ih1 ih2=>
  intro z hz
  obtain ⟨z1,h1,h2⟩:=ih1 z hz
  obtain ⟨z2,h3,h4⟩:=ih2 z1 h2
  exact ⟨z2,h3.trans h1,h4⟩
theorem rg_ent {e:MapEntry} {n:Int} (hk:e.key=.int .i64 n) (h0: -9223372036854775808≤n) (h1:n≤9223372036854775807) (hv:heldR e.val=some (.held e.val,[])):rd Tryz.prog 3 heldR e=some (.int .i64 n,.held e.val):=by
 unfold rd
 rw [hk,keyOf3 h0 h1,hv]
 try rfl
theorem held_self {v:Value} {y:DataW Value × List MemPlace} (h:heldR v=some y):y=(.held v,[]):=by
 obtain ⟨c,rfl⟩:=held_inv h
 rw [held_mkT] at h
 exact (Option.some.inj h).symm
theorem ents_perm {es1 es2:Array MapEntry} {c1 c2:Nat} (F1:Fit Tryz.prog 3 heldR es1 c1) (F2:Fit Tryz.prog 3 heldR es2 c2) (h:(es1.toList.map (rg Tryz.prog 3 heldR)).foldr DataW.insert []=(es2.toList.map (rg Tryz.prog 3 heldR)).foldr DataW.insert []):
  (es1.toList.map fun e=>(e.key,e.val)).Perm (es2.toList.map fun e=>(e.key,e.val)):=by
 have hp:(es1.toList.map (rg Tryz.prog 3 heldR)).Perm (es2.toList.map (rg Tryz.prog 3 heldR)):=(sorted_perm _).symm.trans (h▸sorted_perm _)
 have back:∀ {es:Array MapEntry} {c:Nat},Fit Tryz.prog 3 heldR es c→(es.toList.map (rg Tryz.prog 3 heldR)).map (fun p=>((match p.1 with
   | .int k n=>Value.int k n
   |_=>.tuple #[]),(match p.2 with
   | .held v=>v
   |_=>.tuple #[])))=es.toList.map fun e=>(e.key,e.val):=fun {es c} F=>by
  rw [List.map_map]
  refine List.map_congr_left fun e he=>?_
  obtain ⟨y,hy⟩:=F.reads e he
  have hk:=rd_key hy
  obtain ⟨z,hz,hyz⟩:=rd_val hy
  obtain ⟨n,hn,hl,_⟩:=Go.Maps.keyOf_int_inv Tryz.underlying3 hk
  have hs:=held_self hz
  simp only [Function.comp,rg_of hy,hl,hyz,hs,hn]
 have:=hp.map (fun p=>((match p.1 with
   | .int k n=>Value.int k n
   |_=>.tuple #[]),(match p.2 with
   | .held v=>v
   |_=>.tuple #[])))
 rw [back F1,back F2] at this
 exact this
theorem copied_ov {W0:World} (hn:NoNum Tryz.prog):
  ∀ args σ v σ',copiedG args σ=some (v,σ')→∀ (ι:Inj) (W:World) (args':Array Value),Rel ι W0 σ W→VRL ι W0.heap.size args args'.toList→
  (callFunc 289 args').run Tryz.prog W=.ok (.enter 289 args') W∧Calls Tryz.prog 289 args' W fun e w'=>∃ v' κ,e=.returned v'∧ι.le κ∧VR κ W0.heap.size v v'∧Rel κ W0 σ' w':=by
 intro args σ v σ' h ι W args' R hA
 refine ⟨enter_run hn Tryz.func289 (by rfl) args' W,?_⟩
 unfold copiedG at h
 split at h
 ·rename_i a
  split at h
  ·rename_i nx r hrd
   split at h
   ·rename_i es hes
    obtain ⟨hc,hvv⟩:=bif_some h
    simp only [Bool.and_eq_true,Nat.ble_eq] at hc
    simp only [Prod.mk.injEq] at hvv
    obtain ⟨rfl,rfl⟩:=hvv
    obtain ⟨hty,hlen⟩:=hc
    obtain ⟨hE1,hKA⟩:=tyEnts_inv hty
    obtain ⟨l⟩:=args'
    simp only at hA
    obtain ⟨x,rfl⟩:∃ x,l=[x]:=by
     have:=hA.1
     match l,this with
     |[y],_=>exact ⟨y,rfl⟩
    obtain ⟨a',rfl,ha⟩:=ptr_inv (hA.2 0 _ _ rfl rfl)
    obtain ⟨_,vs',hvl,hsp,hcl⟩:=rdN_sound R ha hrd
    obtain ⟨y0,y1,rfl⟩:∃ y0 y1,vs'=[y0,y1]:=by
     have:=hvl.1
     match vs',this with
     |[y0,y1],_=>exact ⟨y0,y1,rfl⟩
    have hy0:=int_inv (hvl.2 0 _ _ rfl rfl)
    obtain ⟨i,hy1,hi⟩:=(show VR ι W0.heap.size (.map (some r)) y1 from hvl.2 1 _ _ rfl rfl).map_inv
    subst hy0
    subst hy1
    have hc0:=hcl 0 _ rfl
    have hc1:=hcl 1 _ rfl
    obtain ⟨SB,SO,sp⟩:=a'
    simp only at hsp
    subst hsp
    obtain ⟨i',hi',ents,clock,hheap,hEO⟩:=R.map r es _ _ (getMap_inv hes) hi
    rw [hi] at hi'
    cases hi'
    obtain ⟨es',hp1,_,hp3⟩:=hEO.order
    have hsz:=hEO.size
    have hread:∀ e∈ents.toList,∃ n:Int,e.key=.int .i64 n∧ -9223372036854775808≤n∧n≤9223372036854775807∧heldR e.val=some (.held e.val,[]):=fun e he=>by
     obtain ⟨j,hj,rfl⟩:=List.mem_iff_getElem.1 he
     have hj':j<es'.length:=by rw [hp3.1];exact hj
     obtain ⟨q1,q2⟩:=hp3.2 j es'[j].1 es'[j].2 _ (List.getElem?_eq_getElem hj') (List.getElem?_eq_getElem hj)
     obtain ⟨⟨n,f1,f2,f3⟩,f4⟩:=hE1 _ (hp1.mem_iff.1 (List.getElem_mem hj'))
     obtain ⟨k,s,m,p,l,c,e⟩:=isTy_VR f4 q2
     exact ⟨n,by rw [q1,f1],f2,f3,by rw [e];rfl⟩
    have hstamp:Go.MapKept.Stamped ents clock:=by
     refine ⟨fun e he=>hEO.born.1 _ (List.mem_map_of_mem he),hEO.born.2,?_⟩
     have:ents.toList.map (·.key)=es'.map (·.1):=by
      apply List.ext_getElem
      ·simp [hp3.1]
      ·intro j h1 h2
       simp only [List.length_map] at h1 h2
       simp only [List.getElem_map]
       exact (hp3.2 j es'[j].1 es'[j].2 _ (List.getElem?_eq_getElem h2) (List.getElem?_eq_getElem h1)).1
     rw [this]
     obtain ⟨kd,_,hnd⟩:=hKA
     exact (hp1.map _).nodup_iff.2 hnd
    have hF:Fit Tryz.prog 3 heldR ents clock:=⟨by unfold maxLen;omega,hstamp,fun e he=>by
     obtain ⟨n,g1,g2,g3,g4⟩:=hread e he
     exact ⟨_,rg_ent g1 g2 g3 g4⟩⟩
    have hown:W.ownsMap Tryz.prog 3 heldR i.c ents.size (.map ((ents.toList.map (rg Tryz.prog 3 heldR)).foldr DataW.insert [])):=⟨ents,clock,hheap,hF,Nat.le_refl _,rfl⟩
    have hmax:Go.Maps.size (DataW.map ((ents.toList.map (rg Tryz.prog 3 heldR)).foldr DataW.insert []))≤maxLen:=by
     rw [Go.Maps.size_eq,(sorted_perm _).length_eq,List.length_map]
     simp only [Array.length_toList]
     unfold maxLen
     omega
    refine (copied_any SB SO i.c ents.size nx _ W (by simpa [Addr.add] using hc0) (by simpa [Addr.add] using hc1) hown hmax).mono ?_
    rintro e w' ⟨g,he,hgl,hg,⟨ents2,clock2,hb2,hF2,_,hD2⟩,hbel⟩
    have hW0:=R.below.size
    have Rm:=R.more hbel
    simp only [DataW.map.injEq] at hD2
    have hperm:=ents_perm hF2 hF hD2.symm
    have hz:((es'.zip ents.toList).map fun p=>(p.2.key,p.2.val))=ents.toList.map fun e=>(e.key,e.val):=by
     have:((es'.zip ents.toList).map Prod.snd)=ents.toList:=List.map_snd_zip (by rw [hp3.1];exact Nat.le_refl _)
     rw [←this,List.map_map]
     simp [Function.comp,this]
    obtain ⟨z',hz1,hz2⟩:=perm_lift hperm.symm _ hz
    have hmr:MR ι W0.heap.size (z'.map Prod.fst) ents2.toList:=by
     have hl:=congrArg List.length hz2
     simp only [List.length_map] at hl
     refine ⟨by simp [hl],fun j k u e a b=>?_⟩
     have hj:j<z'.length:=by
      have:=(List.getElem?_eq_some_iff.1 a).1
      simpa using this
     have hj2:j<ents2.toList.length:=(List.getElem?_eq_some_iff.1 b).1
     have hzj:=congrArg (fun l=>l[j]?) hz2
     simp only [List.getElem?_map,List.getElem?_eq_getElem hj,List.getElem?_eq_getElem hj2,Option.map_some,Option.some.injEq,Prod.mk.injEq] at hzj
     rw [List.getElem?_eq_getElem hj2] at b
     cases b
     simp only [List.getElem?_map,List.getElem?_eq_getElem hj,Option.map_some,Option.some.injEq] at a
     have hm:z'[j]∈es'.zip ents.toList:=hz1.mem_iff.1 (List.getElem_mem hj)
     obtain ⟨q,hq,eq⟩:=List.mem_iff_getElem.1 hm
     simp only [List.length_zip] at hq
     rw [List.getElem_zip] at eq
     obtain ⟨g1,g2⟩:=hp3.2 q es'[q].1 es'[q].2 (ents.toList[q]'(by omega)) (List.getElem?_eq_getElem (by omega)) (List.getElem?_eq_getElem (by omega))
     rw [←eq] at a hzj
     simp only at a hzj
     rw [a] at g1 g2
     simp only at g1 g2
     rw [←hzj.1,←hzj.2]
     exact ⟨g1,g2⟩
    have hE2:EntsOK ι W0.heap.size es ents2 clock2:=by
     refine ⟨⟨fun b hb=>?_,hF2.stamped.2.1⟩,z'.map Prod.fst,?_,.inr hKA,hmr⟩
     ·obtain ⟨e,he,rfl⟩:=List.mem_map.1 hb
      exact hF2.stamped.1 e he
     ·refine (hz1.map _).trans ?_
      rw [List.map_fst_zip (by rw [hp3.1];exact Nat.le_refl _)]
      exact hp1
    have hun:∀ c,W.heap.size≤c→(∀ j v i',ι j v=some i'→i'.c≠c)∧∀ o,¬ ι.keep c o:=fun c hc=>⟨fun j v i' h e=>by have:=(R.dom _ _ _ h).2.2;omega,fun o ho=>by have:=R.kept_lt ho;omega⟩
    obtain ⟨k1,k2,k3⟩:=Rm.linkMap hb2 hE2 (by omega) (hun _ (Nat.le_refl _)).1 (hun _ (Nat.le_refl _)).2
    obtain ⟨κ,m1,_,m3,m4⟩:=k2.linkSt (cells:=[.int .i64 nx,.map (some σ.n)]) (el:=197) hg (.cons (.int _ _) (.cons k3 .nil)) rfl (by omega) (fun j v i' h e=>by
     rcases link_cases h with ⟨_,_,rfl⟩|h
     ·simp only at e
      omega
     ·exact (hun g (by omega)).1 j v i' h e) (fun o ho=>(hun g (by omega)).2 o ho)
    exact ⟨_,κ,he,Inj.le_trans k1 m1,m4,m3⟩
   ·cases h
  ·cases h
 ·cases h
end Go.Proofs.YtaebddgepicjpaaGreatDoor
namespace Go.Proofs.YtaebddgepicjpaaGreatDoor
open Go.RowKit Go.Pg Go.Maps Go.WideShapes
open Go.WideElems (Fit rg rd rd_mk rg_of rd_key rd_val)
theorem map_read {W0 W:World} {ι:Inj} {σ:AHeap} {r:Nat} {es:List (Value × Value)} {i:Info} (R:Rel ι W0 σ W) (hes:σ.getMap r=some es) (hty:tyEnts es=true) (hlen:es.length≤100000) (hi:ι r 0=some i):
  ∃ n D0,W.ownsMap Tryz.prog 3 heldR i.c n D0∧Go.Maps.size D0≤maxLen∧(∃ ents clock,W.heap[i.c]?=some (.map ents clock))∧∀ m:Int,Go.Maps.has D0 (.int .i64 m)=true↔∃ p∈es,p.1=.int .i64 m:=by
 obtain ⟨hE1,hKA⟩:=tyEnts_inv hty
 obtain ⟨i',hi',ents,clock,hheap,hEO⟩:=R.map r es _ _ (getMap_inv hes) hi
 rw [hi] at hi'
 cases hi'
 obtain ⟨es',hp1,_,hp3⟩:=hEO.order
 have hsz:=hEO.size
 have hread:∀ e∈ents.toList,∃ n:Int,e.key=.int .i64 n∧ -9223372036854775808≤n∧n≤9223372036854775807∧heldR e.val=some (.held e.val,[])∧∃ p∈es,p.1=.int .i64 n:=fun e he=>by
  obtain ⟨j,hj,rfl⟩:=List.mem_iff_getElem.1 he
  have hj':j<es'.length:=by rw [hp3.1];exact hj
  obtain ⟨q1,q2⟩:=hp3.2 j es'[j].1 es'[j].2 _ (List.getElem?_eq_getElem hj') (List.getElem?_eq_getElem hj)
  have hm:=hp1.mem_iff.1 (List.getElem_mem hj')
  obtain ⟨⟨n,f1,f2,f3⟩,f4⟩:=hE1 _ hm
  obtain ⟨k,s,m,p,l,c,e⟩:=isTy_VR f4 q2
  exact ⟨n,by rw [q1,f1],f2,f3,by rw [e];rfl,_,hm,f1⟩
 have hstamp:Go.MapKept.Stamped ents clock:=by
  refine ⟨fun e he=>hEO.born.1 _ (List.mem_map_of_mem he),hEO.born.2,?_⟩
  have:ents.toList.map (·.key)=es'.map (·.1):=by
   apply List.ext_getElem
   ·simp [hp3.1]
   ·intro j h1 h2
    simp only [List.length_map] at h1 h2
    simp only [List.getElem_map]
    exact (hp3.2 j es'[j].1 es'[j].2 _ (List.getElem?_eq_getElem h2) (List.getElem?_eq_getElem h1)).1
  rw [this]
  obtain ⟨kd,_,hnd⟩:=hKA
  exact (hp1.map _).nodup_iff.2 hnd
 have hF:Fit Tryz.prog 3 heldR ents clock:=⟨by unfold maxLen;omega,hstamp,fun e he=>by
  obtain ⟨n,g1,g2,g3,g4,_⟩:=hread e he
  exact ⟨_,rg_ent g1 g2 g3 g4⟩⟩
 refine ⟨ents.size,_,⟨ents,clock,hheap,hF,Nat.le_refl _,rfl⟩,?_,⟨ents,clock,hheap⟩,fun m=>⟨fun h=>?_,fun h=>?_⟩⟩
 ·rw [Go.Maps.size_eq,(sorted_perm _).length_eq,List.length_map]
  simp only [Array.length_toList]
  unfold maxLen
  omega
 ·obtain ⟨p,hp,hpk⟩:=List.any_eq_true.1 h
  obtain ⟨e,he,rfl⟩:=List.mem_map.1 (mem_sorted.1 hp)
  obtain ⟨n,g1,g2,g3,g4,q⟩:=hread e he
  have hk:=WideAt.sameKey_eq hpk
  rw [rg_of (rg_ent g1 g2 g3 g4)] at hk
  simp only [Lit.int.injEq,true_and] at hk
  rw [←hk]
  exact q
 ·obtain ⟨p,hp,hpk⟩:=h
  obtain ⟨j,hj,rfl⟩:=List.mem_iff_getElem.1 (hp1.mem_iff.2 hp)
  have hj':j<ents.toList.length:=by rw [←hp3.1];exact hj
  obtain ⟨q1,_⟩:=hp3.2 j es'[j].1 es'[j].2 _ (List.getElem?_eq_getElem hj) (List.getElem?_eq_getElem hj')
  have he:=List.getElem_mem hj'
  obtain ⟨n,g1,g2,g3,g4,_⟩:=hread _ he
  rw [g1,hpk] at q1
  cases q1
  refine List.any_eq_true.2 ⟨rg Tryz.prog 3 heldR (ents.toList[j]),mem_sorted.2 (List.mem_map.2 ⟨_,he,rfl⟩),?_⟩
  rw [rg_of (rg_ent g1 g2 g3 g4)]
  exact WideAt.sameKey_self (law3.key (keyOf3 g2 g3))
end Go.Proofs.YtaebddgepicjpaaGreatDoor
namespace Go.Proofs.YtaebddgepicjpaaGreatDoor
open Go.RowKit Go.Pg Go.Maps Go.WideShapes
open Go.WideElems (Fit rg rd rd_mk rg_of rd_key rd_val)
abbrev tyV (c:Int × ByteArray × Int × Option Addr × Nat × Nat):Value:=.agg #[.int .i64 c.1,.string c.2.1,.int .i64 c.2.2.1,.slice c.2.2.2.1 c.2.2.2.2.1 c.2.2.2.2.2]
abbrev tyO (c:Int × ByteArray × Int × Option Addr × Nat × Nat):Obj:=.cells #[.int .i64 c.1,.string c.2.1,.int .i64 c.2.2.1,.slice c.2.2.2.1 c.2.2.2.2.1 c.2.2.2.2.2] 31
def Loc (w:World) (A:Nat) (c:Int × ByteArray × Int × Option Addr × Nat × Nat):Prop:=
 w.cell? ⟨A,0,none⟩=some (.int .i64 c.1)∧w.cell? ⟨A,1,none⟩=some (.string c.2.1)∧w.cell? ⟨A,2,none⟩=some (.int .i64 c.2.2.1)∧w.cell? ⟨A,3,none⟩=some (.slice c.2.2.2.1 c.2.2.2.2.1 c.2.2.2.2.2)
theorem Loc.of {w:World} {A:Nat} {c:Int × ByteArray × Int × Option Addr × Nat × Nat} (h:w.heap[A]?=some (tyO c)):Loc w A c:=by
 refine ⟨?_,?_,?_,?_⟩<;>simp [World.cell?,h]
theorem ranges_same {w w':World} {b r n:Nat} {D:DataW Value} {left:Lit→Bool} {cnt:Nat} (h:w.ranges Tryz.prog 3 heldR b r n D left cnt) (h1:w'.heap[b]?=w.heap[b]?) (h2:w'.heap[r]?=w.heap[r]?):w'.ranges Tryz.prog 3 heldR b r n D left cnt:=by
 obtain ⟨es,clock,since,seen,c0,hb,F,hs,hD,hr,rest⟩:=h
 exact ⟨es,clock,since,seen,c0,h1.trans hb,F,hs,hD,h2.trans hr,rest⟩
set_option maxRecDepth 100000 in
theorem unify_any (SB SO:Nat) (a1:Int) (a2:ByteArray) (a3:Int) (a4:Option Addr) (a5 a6:Nat) (b1:Int) (b2:ByteArray) (b3:Int) (b4:Option Addr) (b5 b6:Nat) (w:World) (Q:Ending→World→Prop)
  (ga gb:Bool) (er:Int) (J0:World→Prop) (J1 J2:Nat→World→Prop)
  (h0:J0 ((w.alloc (tyO (a1,a2,a3,a4,a5,a6))).alloc (tyO (b1,b2,b3,b4,b5,b6))))
  (hA:∀ w,J0 w→Calls Tryz.prog 90 #[tyV (a1,a2,a3,a4,a5,a6)] w fun e w'=>e=.returned (.bool ga)∧J0 w')
  (hB:∀ w,J0 w→Calls Tryz.prog 90 #[tyV (b1,b2,b3,b4,b5,b6)] w fun e w'=>e=.returned (.bool gb)∧J0 w')
  (c0:∀ w',J0 w'→Loc w' w.heap.size (a1,a2,a3,a4,a5,a6)∧Loc w' (w.heap.size+1) (b1,b2,b3,b4,b5,b6))
  (hE:(ga&&gb)=false→∀ w,J0 w→Q (.returned (.int .i64 1)) w)
  (hC:ga=true→gb=true→∀ w,J0 w→Calls Tryz.prog 289 #[.pointer (some ⟨SB,SO,none⟩)] w fun e w'=>∃ g,e=.returned (.pointer (some ⟨g,0,none⟩))∧J1 g w')
  (c1:∀ g w',J1 g w'→Loc w' w.heap.size (a1,a2,a3,a4,a5,a6)∧Loc w' (w.heap.size+1) (b1,b2,b3,b4,b5,b6))
  (hO:∀ g w,J1 g w→Calls Tryz.prog 290 #[.pointer (some ⟨g,0,none⟩),tyV (a1,a2,a3,a4,a5,a6),tyV (b1,b2,b3,b4,b5,b6)] w fun e w'=>e=.returned (.int .i64 er)∧J2 g w')
  (hE2:er≠0→∀ g w,J2 g w→Q (.returned (.int .i64 er)) w)
  (dom small:Int→Bool)
  (c2:er=0→∀ g w,J2 g w→∃ M n D0,w.cell? ⟨g,1,none⟩=some (.map (some M))∧w.ownsMap Tryz.prog 3 heldR M n D0∧Go.Maps.size D0≤maxLen∧∀ m:Int,Go.Maps.has D0 (.int .i64 m)=true↔dom m=true)
  (J3:Nat→Nat→Nat→World→Prop)
  (hR:er=0→∀ g M w w0,J2 g w→w.cell? ⟨g,1,none⟩=some (.map (some M))→w.grownBy w0 none→w0.heap.size=w.heap.size+1→J3 g M w.heap.size w0)
  (hN:∀ g M I w w1,J3 g M I w→w.grownBy w1 (some I)→w1.heap.size=w.heap.size→J3 g M I w1)
  (hS:∀ g M I w m,J3 g M I w→dom m=true→Calls Tryz.prog 291 #[.pointer (some ⟨g,0,none⟩),tyV (7,⟨#[]⟩,m,none,0,0)] w fun e w'=>e=.returned (.bool (small m))∧J3 g M I w'∧w'.heap[M]?=w.heap[M]?∧w'.heap[I]?=w.heap[I]?)
  (hE3:∀ g M I w m,J3 g M I w→dom m=true→small m=false→Q (.returned (.int .i64 2)) w)
  (hF:∀ g M I w,J3 g M I w→(∀ m,dom m=true→small m=true)→∃ y,w.cell? ⟨SB,SO+1,none⟩=some y∧w.frozen? ⟨SB,SO+1,none⟩=false∧w.cell? ⟨g,1,none⟩=some (.map (some M))∧Q (.returned (.int .i64 0)) (w.setCell ⟨SB,SO+1,none⟩ (.map (some M)))):
  Calls Tryz.prog 240 #[.pointer (some ⟨SB,SO,none⟩),tyV (a1,a2,a3,a4,a5,a6),tyV (b1,b2,b3,b4,b5,b6)] w Q:=by
 have H0:Hid (J0 ((w.alloc (tyO (a1,a2,a3,a4,a5,a6))).alloc (tyO (b1,b2,b3,b4,b5,b6)))):=h0
 clear h0
 go_enter Tryz.func240,Tryz.ntmps240
 go_wp2_with fail
 refine (hA _ H0.out).mono ?_
 rintro e w1 ⟨rfl,h1⟩
 obtain ⟨⟨k0,k1,k2,k3⟩,⟨l0,l1,l2,l3⟩⟩:=c0 w1 h1
 simp only at k0 k1 k2 k3 l0 l1 l2 l3
 have H1:Hid (J0 w1):=h1
 clear h1
 cases ga with
 |false=>
  go_wp2_with fail
  exact hE (by simp) _ H1.out
 |true=>
  go_wp2_with fail
  refine (hB _ H1.out).mono ?_
  rintro e w2 ⟨rfl,h2⟩
  clear k0 k1 k2 k3 l0 l1 l2 l3
  obtain ⟨⟨k0,k1,k2,k3⟩,⟨l0,l1,l2,l3⟩⟩:=c0 w2 h2
  simp only at k0 k1 k2 k3 l0 l1 l2 l3
  have H2:Hid (J0 w2):=h2
  clear h2
  cases gb with
  |false=>
   go_wp2_with fail
   exact hE (by simp) _ H2.out
  |true=>
   go_wp2_with fail
   refine (hC (by simp) (by simp) _ H2.out).mono ?_
   rintro e w3 ⟨g,rfl,h3⟩
   clear k0 k1 k2 k3 l0 l1 l2 l3
   obtain ⟨⟨k0,k1,k2,k3⟩,⟨l0,l1,l2,l3⟩⟩:=c1 g w3 h3
   simp only at k0 k1 k2 k3 l0 l1 l2 l3
   have H3:Hid (J1 g w3):=h3
   clear h3
   go_wp2_with fail
   refine (hO g _ H3.out).mono ?_
   rintro e w4 ⟨rfl,h4⟩
   clear k0 k1 k2 k3 l0 l1 l2 l3
   have H4:Hid (J2 g w4):=h4
   clear h4
   by_cases her:er=0
   case neg=>
    go_wp2_with fail
    exact hE2 her g _ H4.out
   case pos=>
    subst her
    obtain ⟨M,n,D0,hM,hown,hmax,hdom⟩:=c2 rfl g w4 H4.out
    go_wp2_with (first
     |(at_range;refine wpList_range_own _ rfl _ 195 rfl 3 31 law3 Tryz.underlying195 heldR M n _ rfl hown ?_;intro w0 hrg0 hg0 hs0)
     |go_in)
    have H5:Hid (J3 g M w4.heap.size w0):=hR (by simp) g M w4 w0 H4.out hM hg0 hs0
    clear hM hown hmax hg0 hs0
    have HD:Hid (∀ m:Int,Go.Maps.has D0 (.int .i64 m)=true↔dom m=true):=hdom
    clear hdom
    go_frame
    go_loopw [9] (fun _ wr=>∃ (left:Lit→Bool) (cnt:Nat),wr.ranges Tryz.prog 3 heldR M w4.heap.size n D0 left cnt∧Hid (J3 g M w4.heap.size wr)∧Hid (∀ kl,left kl=true→Go.Maps.has D0 kl=true)∧Hid (∀ m:Int,dom m=true→left (.int .i64 m)=true∨small m=true)) (fun _ wr=>wr.rangeLeft M w4.heap.size)
    case atStart=>
     exact ⟨_,_,hrg0,H5,fun kl h=>h,fun m h=>.inl ((HD.out m).2 h)⟩
    case round=>
     obtain ⟨left,cnt,hrg,HJ,HL,HM⟩:=hrel
     go_wp2_with (first
      |(at_next;refine wpList_next_ranges _ rfl _ rfl 3 law3 heldR (Value.int .i64) mkT (fun key kl h=>by obtain ⟨x,e,_⟩:=Maps.keyOf_int_inv Tryz.underlying3 h;exact ⟨x,e⟩) (fun v y h=>held_inv h) M w4.heap.size n _ _ _ rfl hrg ?_ ?_)
      |go_in)
     ·intro hcz hl0
      have HX:Hid (∀ m,dom m=true→small m=true):=fun m h=>(HM.out m h).resolve_left (by rw [hl0];simp)
      obtain ⟨y,f1,f2,f3,f4⟩:=hF g M _ _ HJ.out HX.out
      have F4:Hid (Q (.returned (.int .i64 0)) (wr.setCell ⟨SB,SO+1,none⟩ (.map (some M)))):=f4
      clear f4
      go_wp2_with fail
      exact F4.out
     ·intro x c1 c2 c3 d1 d2 d3 kl yd yp w1 cnt1 hkx hlx hRc hat hrg1 hlt hg1 hs1 hen
      obtain ⟨x',hx',hkl,_⟩:=Go.Maps.keyOf_int_inv Tryz.underlying3 hkx
      cases hx'
      subst hkl
      have hdx:dom x=true:=(HD.out x).1 (HL.out _ hlx)
      have H6:Hid (J3 g M w4.heap.size w1):=hN g M _ _ _ HJ.out hg1 hs1
      clear hRc hat hg1 hs1
      go_wp2_with fail
      refine (hS g M _ _ x H6.out hdx).mono ?_
      rintro e w5 ⟨rfl,h7,hm1,hm2⟩
      have hrg2:=ranges_same hrg1 hm1 hm2
      have H7:Hid (J3 g M w4.heap.size w5):=h7
      clear h7 hm1 hm2
      cases hsx:small x with
      |false=>
       go_wp2_with fail
       exact hE3 g M _ _ x H7.out hdx hsx
      |true=>
       go_wp2_with fail
       refine ⟨⟨_,cnt1,hrg2,H7,fun kl h=>HL.out kl (by simp only [Bool.and_eq_true] at h;exact h.1),fun m hm=>?_⟩,?_⟩
       ·by_cases hmx:m=x
        ·exact .inr (by rw [hmx];exact hsx)
        ·rcases HM.out m hm with h|h
         ·refine .inl ?_
          simp only [h,Bool.true_and]
          cases hsk:(Lit.int .i64 m).sameKey (.int .i64 x) with
          |false=>rfl
          |true=>
           have:=WideAt.sameKey_eq hsk
           cases this
           exact absurd rfl hmx
         ·exact .inr h
       ·rw [hrg2.left_eq,hrg.left_eq]
        exact hlt
end Go.Proofs.YtaebddgepicjpaaGreatDoor
namespace Go.Pg
open Go.RowKit
section
variable {ι:Inj} {W0 W W':World} {σ:AHeap}
theorem Rel.other (R:Rel ι W0 σ W) (hb:Below W0.heap.size W W') (hkeep:∀ j v i,ι j v=some i→W'.heap[i.c]?=W.heap[i.c]?) (hkk:∀ c o,ι.keep c o→W'.heap[c]?=W.heap[c]?):Rel ι W0 σ W':=by
 refine { below:=R.below.trans hb,old:=R.old,dom:=fun j v i h=>?_,inj:=R.inj,samelo:=R.samelo,blk:=?_,vers:=R.vers,map:=?_,iter:=?_,dead:=R.dead,fresh:=R.fresh,kept:=fun c o h=>⟨by rw [hkk c o h];exact (R.kept c o h).1,(R.kept c o h).2⟩ }
 ·have:=R.dom j v i h
  exact ⟨this.1,this.2.1,Nat.lt_of_lt_of_le this.2.2 hb.size⟩
 ·intro j B v0 i0 hB hi0
  have OK:=R.blk j B v0 i0 hB hi0
  refine { last:=OK.last,ne:=OK.ne,dirty:=OK.dirty,one:=OK.one,ver:=fun v hi hh=>?_ }
  obtain ⟨i,f1,f2,f3,f4⟩:=OK.ver v hi hh
  refine ⟨i,f1,f2,f3,fun hd=>?_⟩
  obtain ⟨g1,g2,g3,g4,g5⟩:=f4 hd
  have hk:=hkeep j v i f1
  refine ⟨g1,g2,g3,fun o hoo=>⟨by rw [cell_of_heap hk];exact (g4 o hoo).1,by rw [frozen_of_heap hk];exact (g4 o hoo).2⟩,fun o h1 h2=>?_⟩
  obtain ⟨x,y,r1,r2,r3⟩:=g5 o h1 h2
  exact ⟨x,y,r1,by rw [cell_of_heap hk];exact r2,r3⟩
 ·intro j es v0 i0 hes hi0
  obtain ⟨i,f1,ents,clock,f2,f3⟩:=R.map j es v0 i0 hes hi0
  exact ⟨i,f1,ents,clock,by rw [hkeep j 0 i f1];exact f2,f3⟩
 ·intro j s p v0 i0 hs hi0
  obtain ⟨i,f1,f2,f3⟩:=R.iter j s p v0 i0 hs hi0
  exact ⟨i,f1,f2,by rw [hkeep j 0 i f1];exact f3⟩
def Ranging (W0:World) (κ0:Inj) (σ:AHeap) (b r g M I:Nat) (w:World):Prop:=
 ∃ (κ:Inj) (i i2:Info) (oM:Obj),κ0.le κ∧Rel κ W0 σ w∧κ b 0=some i∧i.c=g∧i.lo=0∧κ r 0=some i2∧i2.c=M∧κ.keep M oM∧M<I∧W0.heap.size≤I∧I<w.heap.size∧(∀ j v i,κ j v=some i→i.c≠I)∧(∀ o,¬ κ.keep I o)∧∀ o,¬ κ0.keep M o
theorem Ranging.next {κ0:Inj} {b r g M I:Nat} (h:Ranging W0 κ0 σ b r g M I W) (hg:W.grownBy W' (some I)) (hs:W'.heap.size=W.heap.size):Ranging W0 κ0 σ b r g M I W':=by
 obtain ⟨κ,i,i2,oM,h1,R,h3,h4,h5,h6,h7,h8,h9,h10,h11,h12,h13,h14⟩:=h
 refine ⟨κ,i,i2,oM,h1,R.other ⟨hg.os,hg.tape,hg.output,hg.size,fun k hk=>hg.block k (by omega) (fun e=>by have:=Option.some.inj e;omega)⟩ (fun j v i hi=>hg.block _ (R.dom _ _ _ hi).2.2 fun e=>h12 _ _ _ hi (Option.some.inj e)) (fun c o ho=>hg.block c (R.kept_lt ho) fun e=>h13 o ((Option.some.inj e)▸ho)),h3,h4,h5,h6,h7,h8,h9,h10,by omega,h12,h13,h14⟩
end
end Go.Pg
namespace Go.Pg
section
variable {P:AT→Prop}
theorem headM_pres:∀ {k:Nat} {S:SubL} {t h:AT},(∀ p∈S,P p.2)→P t→headM k S t=some h→P h
 |0,_,_,_,_,_,h=>by cases h
 |k+1,S,t,h,hS,ht,e=>by
  unfold headM at e
  split at e
  ·split at e
   ·cases e
    exact ht
   ·rename_i x hx
    exact headM_pres hS (hS _ (lookS_mem hx)) e
  ·cases e
   exact ht
theorem bindM_pres {k:Nat} {S:SubL} {v:Int} {t:AT} {e:Int} {S':SubL} (hS:∀ p∈S,P p.2) (ht:P t) (h:bindM k S v t=some (e,S')):∀ p∈S',P p.2:=by
 unfold bindM at h
 split at h
 ·cases h
 ·cases h
  exact hS
 ·cases h
  exact fun p hp=>(setS_mem hp).elim (fun e=>by subst e;exact ht) (hS p)
theorem pairsM_pres {f:SubL→AT→AT→Option (Int × SubL)} (hf:∀ S x y e S',(∀ p∈S,P p.2)→P x→P y→f S x y=some (e,S')→∀ p∈S',P p.2):
  ∀ (l m:List AT) (S:SubL) (e:Int) (S':SubL),(∀ p∈S,P p.2)→(∀ u∈l,P u)→(∀ u∈m,P u)→pairsM f S l m=some (e,S')→∀ p∈S',P p.2
 |[],m,S,e,S',hS,_,_,h=>by
  unfold pairsM at h
  cases h
  exact hS
 |_::_,[],S,e,S',hS,_,_,h=>by
  unfold pairsM at h
  cases h
 |a::l,b::m,S,e,S',hS,hl,hm,h=>by
  unfold pairsM at h
  split at h
  ·cases h
  ·rename_i e1 S1 h1
   have k1:=hf S a b e1 S1 hS (hl a (by simp)) (hm b (by simp)) h1
   split at h
   ·exact pairsM_pres hf l m S1 e S' k1 (fun u hu=>hl u (by simp [hu])) (fun u hu=>hm u (by simp [hu])) h
   ·cases h
    exact k1
theorem oneM_pres (hP:∀ t,P t→∀ u∈t.args,P u) (hv:∀ n,P (varT n)):∀ (k:Nat) (S:SubL) (x y:AT) (e:Int) (S':SubL),(∀ p∈S,P p.2)→P x→P y→oneM k S x y=some (e,S')→∀ p∈S',P p.2
 |0,_,_,_,_,_,_,_,_,h=>by cases h
 |k+1,S,x,y,e,S',hS,hx,hy,h=>by
  unfold oneM at h
  split at h
  ·cases h
  ·cases h
   exact hS
  ·split at h
   ·cases h
   ·cases h
    exact hS
   ·split at h
    ·rename_i X Y hX hY
     have hX:=headM_pres hS hx hX
     have hY:=headM_pres hS hy hY
     split at h
     ·split at h
      ·split at h
       ·cases h
        exact hS
       ·cases h
        exact fun p hp=>(setS_mem hp).elim (fun e=>by subst e;exact hv _) (hS p)
      ·exact bindM_pres hS hY h
     ·split at h
      ·exact bindM_pres hS hX h
      ·split at h
       ·split at h
        ·exact pairsM_pres (fun S x y e S' a b c d=>oneM_pres hP hv k S x y e S' a b c d) _ _ S e S' hS (hP X hX) (hP Y hY) h
        ·cases h
         exact hS
       ·cases h
        exact hS
    ·cases h
end
end Go.Pg
namespace Go.Pg
section
variable {ι:Inj} {W0 W:World} {σ:AHeap}
def Hung (ι:Inj) (B:Nat) (σ:AHeap) (t:AT):Prop:=(∃ k,readT σ k t.c=some t)∧∃ v0,VR ι B (.agg t.c.toArray) v0
theorem agg_cell {B:Nat} {cs:Array Value} {v0:Value} (h:VR ι B (.agg cs) v0) {j:Nat} {v:Value} (hj:cs[j]?=some v):∃ v',VR ι B v v':=by
 cases h with
 |agg hx hc=>
  rename_i m
  have hlt:j<m.size:=by have:=(Array.getElem?_eq_some_iff.1 hj).1;omega
  exact ⟨_,hc j v _ hj (Array.getElem?_eq_getElem hlt)⟩
theorem slice_at {B:Nat} {x:Addr} {n c:Nat} {v0:Value} (h:VR ι B (.slice (some x) (n+1) c) v0):∃ x',AR ι B x x':=by
 cases h with
 |sliceOld _ _ h1 h2=>exact ⟨_,.old h1 h2⟩
 |sliceNew h1 h2 _ _=>exact ⟨_,.new h1 h2⟩
theorem Hung.arg (R:Rel ι W0 σ W) {t u:AT} (h:Hung ι W0.heap.size σ t) (hu:u∈t.args):Hung ι W0.heap.size σ u:=by
 obtain ⟨⟨k,hk⟩,v0,hv⟩:=h
 cases k with
 |zero=>cases hk
 |succ k=>
  unfold readT at hk
  split at hk
  ·rename_i kd s n p len cap hcs
   replace hk:=bif_opt hk
   obtain ⟨_,hk⟩:=hk
   split at hk
   ·cases hk
    cases hu
   ·rename_i m
    split at hk
    ·rename_i x
     replace hk:=bif_opt hk
     obtain ⟨_,hk⟩:=hk
     split at hk
     ·rename_i l hr
      obtain ⟨h1,h2⟩:=readL_ok hr
      rw [hcs] at hv
      obtain ⟨v3,hv3⟩:=agg_cell hv (j:=3) rfl
      obtain ⟨x',hx'⟩:=slice_at hv3
      cases hk
      obtain ⟨j,hj,rfl⟩:=List.mem_iff_getElem.1 hu
      obtain ⟨cs,q1,q2⟩:=h2 j hj
      obtain ⟨_,vs',hvl,_,_⟩:=rdN_sound R (hx'.add _) q1
      obtain ⟨e1,_⟩:=readT_ok q2
      refine ⟨⟨k,by rw [show AT.c (Tr.args (Tr.mk _ l))[j]=cs from e1];exact q2⟩,.agg vs'.toArray,?_⟩
      rw [show AT.c (Tr.args (Tr.mk _ l))[j]=cs from e1]
      exact .agg (by simpa using hvl.1) fun i v v' a b=>hvl.2 i v v' (by simpa using a) (by simpa using b)
     ·cases hk
    ·cases hk
  ·cases hk
end
end Go.Pg
namespace Go.Proofs.YtaebddgepicjpaaGreatDoor
open Go.RowKit Go.Pg Go.Maps Go.WideShapes
def noOv:Ov:=fun _=>none
theorem noOv_T:OvT noOv:=fun _ _ _ _=>rfl
section
variable {W0 W:World} {ι:Inj} {σ:AHeap}
theorem local2 (R:Rel ι W0 σ W) (oa ob:Obj):Rel (keeping ι fun c o=>ι.keep c o∨(c=W.heap.size∧o=oa)∨(c=W.heap.size+1∧o=ob)) W0 σ ((W.alloc oa).alloc ob):=by
 have hb:Below W.heap.size W ((W.alloc oa).alloc ob):=((Below.refl _ _).alloc (Nat.le_refl _) _).alloc (by simp) _
 have R1:=R.more hb
 refine R1.keepK _ fun c o h=>?_
 rcases h with h|⟨rfl,rfl⟩|⟨rfl,rfl⟩
 ·exact R1.kept c o h
 ·refine ⟨?_,fun j v i hi e=>by have:=(R.dom j v i hi).2.2;omega⟩
  rw [(Go.MapKept.heap_alloc (W.alloc o) _).2 _ (by simp)]
  exact (Go.MapKept.heap_alloc W _).1
 ·refine ⟨?_,fun j v i hi e=>by have:=(R.dom j v i hi).2.2;omega⟩
  have:=(Go.MapKept.heap_alloc (W.alloc oa) o).1
  simpa using this
theorem local2_le (oa ob:Obj):ι.le (keeping ι fun c o=>ι.keep c o∨(c=W.heap.size∧o=oa)∨(c=W.heap.size+1∧o=ob)):=⟨keeping_lem,fun _ h=>h,fun _ _ h=>.inl h⟩
theorem wpf_call (hn:NoNum Tryz.prog) (hm:Tryz.prog.follows .mixedOrders=true) (hG:Tryz.prog.globals.size≤W0.heap.size) {f:FuncId} {args:List Value} {args':Array Value} {Q:Value→AHeap→Prop}
  (h:WpF PROG noOv f args σ Q) (R:Rel ι W0 σ W) (hA:VRL ι W0.heap.size args args'.toList):
  Calls Tryz.prog f args' W fun e w'=>∃ v σ1 v' κ,Q v σ1∧e=.returned v'∧ι.le κ∧VR κ W0.heap.size v v'∧Rel κ W0 σ1 w':=by
 obtain ⟨v,σ1,hE,hQ⟩:=h
 refine (call_sound hn hm hG OvOK.none hE R hA).mono ?_
 rintro e w' ⟨v',κ,h1,h2,h3,h4⟩
 exact ⟨v,σ1,v',κ,hQ,h1,h2,h3,h4⟩
theorem ro_call (hn:NoNum Tryz.prog) (hm:Tryz.prog.follows .mixedOrders=true) (hG:Tryz.prog.globals.size≤W0.heap.size) {f:FuncId} {args:List Value} {args':Array Value} {b:Bool}
  (h:WpF PROG noOv f args σ fun v σ'=>v=.bool b∧Frm σ σ' NoB) (R:Rel ι W0 σ W) (hA:VRL ι W0.heap.size args args'.toList):
  Calls Tryz.prog f args' W fun e w'=>e=.returned (.bool b)∧Rel ι W0 σ w'∧∀ c o,ι.keep c o→w'.heap[c]?=some o:=by
 refine (wpf_call hn hm hG h R hA).mono ?_
 rintro e w' ⟨v,σ1,v',κ,⟨rfl,hF⟩,rfl,h2,h3,h4⟩
 cases h3
 exact ⟨rfl,R.forget h2 h4 hF,fun c o h=>(h4.kept c o (h2.2.2 c o h)).1⟩
theorem ranging_call (hn:NoNum Tryz.prog) (hm:Tryz.prog.follows .mixedOrders=true) (hG:Tryz.prog.globals.size≤W0.heap.size) {κ0:Inj} {b r g M I:Nat} {f:FuncId} {args:List Value} {args':Array Value} {u:Bool}
  (h:Ranging W0 κ0 σ b r g M I W) (hw:WpF PROG noOv f args σ fun v σ'=>v=.bool u∧Frm σ σ' NoB) (hA:∀ κ (i:Info),κ b 0=some i→i.c=g→i.lo=0→VRL κ W0.heap.size args args'.toList):
  Calls Tryz.prog f args' W fun e w'=>e=.returned (.bool u)∧Ranging W0 κ0 σ b r g M I w'∧w'.heap[M]?=W.heap[M]?∧w'.heap[I]?=W.heap[I]?:=by
 obtain ⟨κ,i,i2,oM,h1,R,h3,h4,h5,h6,h7,h8,h9,h10,h11,h12,h13,h14⟩:=h
 obtain ⟨oI,hoI⟩:∃ o,W.heap[I]?=some o:=⟨_,Array.getElem?_eq_getElem h11⟩
 have R':Rel (keeping κ fun c o=>κ.keep c o∨(c=I∧o=oI)) W0 σ W:=R.keepK _ fun c o h=>by
  rcases h with h|⟨rfl,rfl⟩
  ·exact R.kept c o h
  ·exact ⟨hoI,fun j v i hi e=>absurd e (h12 j v i hi)⟩
 refine (ro_call hn hm hG hw R' (hA _ i h3 h4 h5)).mono ?_
 rintro e w' ⟨he,R2,hk⟩
 have hM:w'.heap[M]?=some oM:=hk M oM (.inl h8)
 have hI:w'.heap[I]?=some oI:=hk I oI (.inr ⟨rfl,rfl⟩)
 have R3:Rel κ W0 σ w':=R2.keepK κ.keep fun c o h=>R2.kept c o (.inl h)
 exact ⟨he,⟨κ,i,i2,oM,h1,R3,h3,h4,h5,h6,h7,h8,h9,h10,(Array.getElem?_eq_some_iff.1 hI).1,h12,h13,h14⟩,by rw [hM,(R.kept _ _ h8).1],by rw [hI,hoI]⟩
def At (W0:World) (κ0:Inj) (σ:AHeap) (b g:Nat) (w:World):Prop:=∃ (κ:Inj) (i:Info),κ0.le κ∧Rel κ W0 σ w∧κ b 0=some i∧i.c=g∧i.lo=0
theorem ty_inv {k:Nat} {cs:Array Value} {t:AT} {v':Value} (h:readT σ k cs.toList=some t) (hv:VR ι W0.heap.size (.agg cs) v'):AFull σ t∧Value.agg cs=Value.agg t.c.toArray∧∃ a1 a2 a3 a4 a5 a6,v'=tyV (a1,a2,a3,a4,a5,a6):=by
 obtain ⟨h1,h2⟩:=readT_ok h
 refine ⟨h2,by rw [h1],?_⟩
 have hi:isTy (.agg cs)=true:=by
  obtain ⟨p,cap,hc⟩:=h2.cells
  rw [h1] at hc
  unfold isTy
  simp only [hc,tcells]
 obtain ⟨a1,a2,a3,a4,a5,a6,e⟩:=isTy_VR hi hv
 exact ⟨a1,a2,a3,a4,a5,a6,e⟩
theorem ptr_new {κ:Inj} {b:Nat} {v':Value} (h:VR κ W0.heap.size (.pointer (some ⟨b,0,some 0⟩)) v'):∃ i:Info,v'=.pointer (some ⟨i.c,0,none⟩)∧κ b 0=some i∧i.lo=0:=by
 obtain ⟨a',rfl,ha⟩:=ptr_inv h
 cases ha with
 |old h1 h2=>cases h2
 |new h1 h2=>
  have h0:=Nat.le_zero.1 h2
  exact ⟨_,by rw [h0],h1,h0⟩
theorem vr_new {κ:Inj} {b:Nat} {i:Info} (h:κ b 0=some i) (h0:i.lo=0):VR κ W0.heap.size (.pointer (some ⟨b,0,some 0⟩)) (.pointer (some ⟨i.c,0,none⟩)):=by
 have:=VR.ptr (B:=W0.heap.size) (AR.new (off:=0) (v:=0) h (by omega))
 rw [h0] at this
 exact this
theorem At.cell {κ:Inj} {b r g:Nat} {i:Info} {nx:Int} {w:World} (R:Rel κ W0 σ w) (hs:St σ b [.int .i64 nx,.map (some r)]) (hi:κ b 0=some i) (hc:i.c=g) (h0:i.lo=0):∃ i2:Info,κ r 0=some i2∧w.cell? ⟨g,1,none⟩=some (.map (some i2.c)):=by
 have ha:AR κ W0.heap.size ⟨b,0,some 0⟩ ⟨i.c,0,none⟩:=by
  have:=AR.new (B:=W0.heap.size) (off:=0) (v:=0) hi (by omega)
  rw [h0] at this
  exact this
 have hrd:σ.rdN ⟨b,0,some 0⟩ 2=some [.int .i64 nx,.map (some r)]:=by
  have:=hs.ldN (off:=0) (k:=2) (by simp)
  unfold ldN at this
  split at this
  ·rename_i vs hvs
   simp only [Option.some.injEq,Prod.mk.injEq,Value.agg.injEq,and_true] at this
   rw [hvs]
   have h2:=congrArg Array.toList this
   simpa using h2
  ·cases this
 obtain ⟨_,vs',hvl,_,hcl⟩:=rdN_sound R ha hrd
 obtain ⟨y0,y1,rfl⟩:∃ y0 y1,vs'=[y0,y1]:=by
  have:=hvl.1
  match vs',this with
  |[y0,y1],_=>exact ⟨y0,y1,rfl⟩
 obtain ⟨i2,rfl,hi2⟩:=(show VR κ W0.heap.size (.map (some r)) y1 from hvl.2 1 _ _ rfl rfl).map_inv
 have hc1:=hcl 1 _ rfl
 subst hc
 exact ⟨i2,hi2,by simpa [Addr.add] using hc1⟩
theorem ranging_start {κ0:Inj} {b r g M:Nat} {nx:Int} {es:List (Value × Value)} {w w0:World} (h:At W0 κ0 σ b g w) (hs:St σ b [.int .i64 nx,.map (some r)]) (hm:σ.get r=some (.map es)) (hM:w.cell? ⟨g,1,none⟩=some (.map (some M))) (hg:w.grownBy w0 none) (hsz:w0.heap.size=w.heap.size+1):
  Ranging W0 κ0 (σ.put r (.rom es)) b r g M w.heap.size w0:=by
 obtain ⟨κ,i,k1,k2,k3,k4,k5⟩:=h
 obtain ⟨i2,q1,q2⟩:=At.cell k2 hs k3 k4 k5
 rw [hM] at q2
 simp only [Option.some.injEq,Value.map.injEq] at q2
 subst q2
 obtain ⟨i2',q3,ents,clock,q4,_⟩:=k2.map r es _ _ (.inl hm) q1
 rw [q1] at q3
 cases q3
 have R1:=k2.toRom hm
 have hd:=k2.dom _ _ _ q1
 have R2:Rel (keeping κ fun c o=>κ.keep c o∨(c=i2.c∧o=.map ents clock)) W0 (σ.put r (.rom es)) w:=R1.keepK _ fun c o h=>by
  rcases h with h|⟨rfl,rfl⟩
  ·exact R1.kept c o h
  ·refine ⟨q4,fun j v i' hi' e=>?_⟩
   have:=k2.inj _ _ _ _ _ _ hi' q1 e
   subst this
   exact ⟨es,get_put_same _ _ _⟩
 have R3:=R2.more (W':=w0) ⟨hg.os,hg.tape,hg.output,hg.size,fun k hk=>hg.block k hk (by simp)⟩
 refine ⟨keeping κ fun c o=>κ.keep c o∨(c=i2.c∧o=.map ents clock),i,i2,.map ents clock,⟨k1.1,k1.2.1,fun c o h=>Or.inl (k1.2.2 c o h)⟩,R3,k3,k4,k5,q1,rfl,Or.inr ⟨rfl,rfl⟩,hd.2.2,k2.below.size,by omega,fun j v i' hi' e=>by have:=(k2.dom _ _ _ hi').2.2;omega,fun o ho=>?_,fun o ho=>?_⟩
 ·have:=R2.kept_lt ho
  omega
 ·obtain ⟨es',he⟩:=(k2.kept _ _ (k1.2.2 _ _ ho)).2 _ _ _ q1 rfl
  rw [hm] at he
  cases he
theorem wr_cell {a:Addr} {SB SO:Nat} {v v':Value} {σ':AHeap} (R:Rel ι W0 σ W) (ha:AR ι W0.heap.size a ⟨SB,SO,none⟩) (h:σ.wrN a [v]=some σ') (hr:VR ι W0.heap.size v v'):
  (∃ y,W.cell? ⟨SB,SO,none⟩=some y)∧W.frozen? ⟨SB,SO,none⟩=false∧Rel ι W0 σ' (W.setCell ⟨SB,SO,none⟩ v'):=by
 unfold AHeap.wrN at h
 generalize he:(⟨SB,SO,none⟩:Addr)=a' at ha
 cases ha with
 |old h1 h2=>rw [h2] at h;cases h
 | @new b off v1 i h1 h2=>
  simp only [Addr.mk.injEq,and_true] at he
  obtain ⟨rfl,rfl⟩:=he
  simp only at h
  split at h
  ·rename_i B hB
   cases hc:(Nat.beq (v1 / 64+1) B.his.length&&Nat.ble (off+[v].length) B.cells.length&&[v].all one) with
   |false=>rw [hc] at h;cases h
   |true=>
    rw [hc] at h
    simp only [cond_true,Option.some.injEq] at h
    subst h
    simp only [Bool.and_eq_true,Nat.ble_eq,Nat.beq_eq] at hc
    obtain ⟨e1,e2,e3⟩:=setCells_rel (vs':=[v']) R hB h1 hc.1.1 h2 hc.1.2 hc.2 (.cons hr .nil)
    have e1:=e1 0 (by simp)
    have e2:=e2 0 (by simp)
    exact ⟨Option.isSome_iff_exists.1 (by simpa using e1),by simpa using e2,e3⟩
  ·cases h
theorem readS_read {σ:AHeap} {k:Nat}:∀ {es:List (Value × Value)} {S:SubL},readS σ k es=some S→∀ p∈S,readT σ k p.2.c=some p.2
 |[],S,h,p,hp=>by
  cases h
  cases hp
 |(a,b)::r,S,h,p,hp=>by
  unfold readS at h
  split at h
  ·split at h
   ·rename_i cs
    split at h
    ·rename_i t ht
     split at h
     ·rename_i S' hS
      cases h
      obtain ⟨e1,e2⟩:=readT_ok ht
      rcases List.mem_cons.1 hp with rfl|hp
      ·simp only [e1]
       exact ht
      ·exact readS_read hS p hp
     ·cases h
    ·cases h
   ·cases h
  ·cases h
theorem varT_hung (n:Int):Hung ι W0.heap.size σ (varT n):=by
 refine ⟨⟨1,rfl⟩,.agg #[.int .i64 7,.string ⟨#[]⟩,.int .i64 n,.slice none 0 0],?_⟩
 exact .agg rfl fun j v v' a b=>by
  match j,a,b with
  |0,a,b=>cases a;cases b;exact .int _ _
  |1,a,b=>cases a;cases b;exact .string _
  |2,a,b=>cases a;cases b;exact .int _ _
  |3,a,b=>cases a;cases b;exact .sliceNil _ _
theorem ents_back {κ κ0:Inj} {B:Nat} {S:SubL} {ents:Array MapEntry} {clock:Nat} (hl:κ0.lem κ) (hP:∀ p∈S,∃ v0,VR κ0 B (.agg p.2.c.toArray) v0) (h:EntsOK κ B (esOf S) ents clock):EntsOK κ0 B (esOf S) ents clock:=by
 obtain ⟨h1,es',h2,h3,h4⟩:=h
 refine ⟨h1,es',h2,h3,h4.1,fun j k v e a b=>?_⟩
 obtain ⟨q1,q2⟩:=h4.2 j k v e a b
 refine ⟨q1,?_⟩
 obtain ⟨p,hp,hpe⟩:=List.mem_map.1 (h2.mem_iff.1 (List.mem_of_getElem? a))
 simp only [Prod.mk.injEq] at hpe
 obtain ⟨v0,hv0⟩:=hP p hp
 rw [hpe.2] at hv0
 exact hv0.back hl q2
theorem unify_ov (hn:NoNum Tryz.prog) (hm:Tryz.prog.follows .mixedOrders=true) (hG:Tryz.prog.globals.size≤W0.heap.size):
  ∀ args σ v σ',unifyG args σ=some (v,σ')→∀ (ι:Inj) (W:World) (args':Array Value),Rel ι W0 σ W→VRL ι W0.heap.size args args'.toList→
  (callFunc 240 args').run Tryz.prog W=.ok (.enter 240 args') W∧Calls Tryz.prog 240 args' W fun e w'=>∃ v' κ,e=.returned v'∧ι.le κ∧VR κ W0.heap.size v v'∧Rel κ W0 σ' w':=by
 intro args σ v σ' h ι W args' R hA
 refine ⟨enter_run hn Tryz.func240 (by rfl) args' W,?_⟩
 unfold unifyG at h
 split at h
 case h_2=>cases h
 rename_i a ca cb
 split at h
 case h_2=>cases h
 rename_i x hx
 split at h
 case h_2=>cases h
 rename_i y hy
 obtain ⟨l⟩:=args'
 simp only at hA
 obtain ⟨p',va',vb',rfl⟩:∃ p q r,l=[p,q,r]:=by
  have:=hA.1
  match l,this with
  |[p,q,r],_=>exact ⟨p,q,r,rfl⟩
 obtain ⟨a',rfl,ha⟩:=ptr_inv (hA.2 0 _ _ rfl rfl)
 have hva:VR ι W0.heap.size (.agg ca) va':=hA.2 1 _ _ rfl rfl
 have hvb:VR ι W0.heap.size (.agg cb) vb':=hA.2 2 _ _ rfl rfl
 obtain ⟨hxf,hxc,a1,a2,a3,a4,a5,a6,rfl⟩:=ty_inv hx hva
 obtain ⟨hyf,hyc,b1,b2,b3,b4,b5,b6,rfl⟩:=ty_inv hy hvb
 have hsp:=ar_spot ha
 obtain ⟨SB,SO,sp⟩:=a'
 simp only at hsp
 subst hsp
 have R2:=local2 R (tyO (a1,a2,a3,a4,a5,a6)) (tyO (b1,b2,b3,b4,b5,b6))
 have hle0:=local2_le (W:=W) (ι:=ι) (tyO (a1,a2,a3,a4,a5,a6)) (tyO (b1,b2,b3,b4,b5,b6))
 generalize hk0:(keeping ι fun c o=>ι.keep c o∨(c=W.heap.size∧o=tyO (a1,a2,a3,a4,a5,a6))∨(c=W.heap.size+1∧o=tyO (b1,b2,b3,b4,b5,b6)))=κ0 at R2 hle0
 have kA:κ0.keep W.heap.size (tyO (a1,a2,a3,a4,a5,a6)):=by rw [←hk0];exact .inr (.inl ⟨rfl,rfl⟩)
 have kB:κ0.keep (W.heap.size+1) (tyO (b1,b2,b3,b4,b5,b6)):=by rw [←hk0];exact .inr (.inr ⟨rfl,rfl⟩)
 have hva0:=hva.monoM hle0.1
 have hvb0:=hvb.monoM hle0.1
 have hga:∀ w,Rel κ0 W0 σ w→Calls Tryz.prog 90 #[tyV (a1,a2,a3,a4,a5,a6)] w fun e w'=>e=.returned (.bool (goodM x))∧Rel κ0 W0 σ w':=fun w Rw=>by
  have hw:=wp_Good noOv_T hxf
  rw [←hxc] at hw
  refine (ro_call hn hm hG hw Rw (.cons hva0 .nil)).mono ?_
  rintro e w' ⟨h1,h2,_⟩
  exact ⟨h1,h2⟩
 have hgb:∀ w,Rel κ0 W0 σ w→Calls Tryz.prog 90 #[tyV (b1,b2,b3,b4,b5,b6)] w fun e w'=>e=.returned (.bool (goodM y))∧Rel κ0 W0 σ w':=fun w Rw=>by
  have hw:=wp_Good noOv_T hyf
  rw [←hyc] at hw
  refine (ro_call hn hm hG hw Rw (.cons hvb0 .nil)).mono ?_
  rintro e w' ⟨h1,h2,_⟩
  exact ⟨h1,h2⟩
 have c0:∀ w',Rel κ0 W0 σ w'→Loc w' W.heap.size (a1,a2,a3,a4,a5,a6)∧Loc w' (W.heap.size+1) (b1,b2,b3,b4,b5,b6):=fun w' Rw=>⟨Loc.of (Rw.kept _ _ kA).1,Loc.of (Rw.kept _ _ kB).1⟩
 cases hgd:(goodM x&&goodM y) with
 |false=>
  rw [hgd] at h
  simp only [cond_false,Option.some.injEq,Prod.mk.injEq] at h
  obtain ⟨rfl,rfl⟩:=h
  refine unify_any SB SO a1 a2 a3 a4 a5 a6 b1 b2 b3 b4 b5 b6 W _ (goodM x) (goodM y) 0 (Rel κ0 W0 σ) (fun _ _=>False) (fun _ _=>False) R2 hga hgb c0 (fun _ w Rw=>⟨_,κ0,rfl,hle0,.int _ _,Rw⟩)
   (fun h1 h2=>by rw [h1,h2] at hgd;cases hgd) (fun _ _ h=>h.elim) (fun _ _ h=>h.elim) (fun _ _ _ h=>h.elim) (fun _=>false) (fun _=>true) (fun _ _ _ h=>h.elim) (fun _ _ _ _=>False) (fun _ _ _ _ _ h=>h.elim) (fun _ _ _ _ _ h=>h.elim) (fun _ _ _ _ _ h=>h.elim) (fun _ _ _ _ _ h=>h.elim) (fun _ _ _ _ h=>h.elim)
 |true=>
 rw [hgd] at h
 simp only [cond_true] at h
 split at h
 case h_2=>cases h
 rename_i nx r hrd
 split at h
 case h_2=>cases h
 rename_i es hes
 replace h:=bif_opt h
 obtain ⟨hck,h⟩:=h
 split at h
 case h_2=>cases h
 rename_i S hS
 obtain ⟨heS,hfS⟩:=readS_ok hS
 split at h
 case h_2=>cases h
 rename_i e S' hone
 have hcop:copiedG [.pointer (some a)] σ=some (.pointer (some ⟨σ.n+1,0,some 0⟩),(σ.push (.map es)).newBlk [.int .i64 nx,.map (some σ.n)] 0):=by
  unfold copiedG
  simp only [hrd,hes,hck,cond_true]
 generalize hsc:(σ.push (.map es)).newBlk [.int .i64 nx,.map (some σ.n)] 0=σc at hcop
 have hF0:Frm σ σc NoB:=by
  rw [←hsc]
  refine Frm.seq (σ':=σ.push (.map es)) ⟨Nat.le_succ _,rfl,fun j hj _=>get_push_lt _ _ hj,fun f j hj=>?_⟩ (Frm.new _ _ _ _)
  have hj':σ.n+1≤j:=hj
  rw [AHeap.get_push,if_neg (by omega)]
  exact f j (by omega)
 have hSW:SubW σc (σ.n+1) σ.n nx S:=by
  refine SubW.of ?_ ?_ ?_ fun p hp=>(hfS p hp).frm hF0
  ·rw [←hsc]
   exact St.new (σ.push (.map es)) _
  ·rw [←hsc]
   simp [AHeap.newBlk,AHeap.push]
   omega
  ·rw [←hsc,newBlk_get _ _ _ (by simp),get_push_same,heS]
 obtain ⟨v4,σ4,hEv,rfl,hF4,hSW4⟩:=wp_one noOv_T UF σc S x y e S' hSW (hxf.frm hF0) (hyf.frm hF0) hone
 have hF04:Frm σ σ4 NoB:=hF0.fresh hF4 fun j hj h=>by omega
 have hC:∀ w,Rel κ0 W0 σ w→Calls Tryz.prog 289 #[.pointer (some ⟨SB,SO,none⟩)] w fun e w'=>∃ g,e=.returned (.pointer (some ⟨g,0,none⟩))∧At W0 κ0 σc (σ.n+1) g w':=fun w Rw=>by
  refine (copied_ov hn _ _ _ _ hcop κ0 w _ Rw (.cons (VR.monoM hle0.1 (.ptr ha)) .nil)).2.mono ?_
  rintro e w' ⟨v',κ,rfl,h2,h3,h4⟩
  obtain ⟨i,rfl,h5,h6⟩:=ptr_new h3
  exact ⟨i.c,rfl,κ,i,h2,h4,h5,rfl,h6⟩
 have hO:∀ g w,At W0 κ0 σc (σ.n+1) g w→Calls Tryz.prog 290 #[.pointer (some ⟨g,0,none⟩),tyV (a1,a2,a3,a4,a5,a6),tyV (b1,b2,b3,b4,b5,b6)] w fun e' w'=>e'=.returned (.int .i64 e)∧At W0 κ0 σ4 (σ.n+1) g w':=by
  rintro g w ⟨κ,i,k1,k2,k3,rfl,k5⟩
  rw [←hxc,←hyc] at hEv
  refine (call_sound hn hm hG OvOK.none hEv k2 (.cons (vr_new k3 k5) (.cons (hva0.monoM k1.1) (.cons (hvb0.monoM k1.1) .nil)))).mono ?_
  rintro e' w' ⟨v',κ',rfl,h2,h3,h4⟩
  cases h3
  exact ⟨rfl,κ',i,Inj.le_trans k1 h2,h4,h2.1 _ _ _ k3,rfl,k5⟩
 have c1:∀ g w',At W0 κ0 σc (σ.n+1) g w'→Loc w' W.heap.size (a1,a2,a3,a4,a5,a6)∧Loc w' (W.heap.size+1) (b1,b2,b3,b4,b5,b6):=by
  rintro g w' ⟨κ,i,k1,k2,_⟩
  exact ⟨Loc.of (k2.kept _ _ (k1.2.2 _ _ kA)).1,Loc.of (k2.kept _ _ (k1.2.2 _ _ kB)).1⟩
 have back:∀ g w',At W0 κ0 σ4 (σ.n+1) g w'→Rel κ0 W0 σ w':=by
  rintro g w' ⟨κ,i,k1,k2,_⟩
  exact R2.forget k1 k2 hF04
 by_cases he:e=0
 case neg=>
  rw [show decide (e=0)=false by simpa using he] at h
  simp only [cond_false,Option.some.injEq,Prod.mk.injEq] at h
  obtain ⟨rfl,rfl⟩:=h
  refine unify_any SB SO a1 a2 a3 a4 a5 a6 b1 b2 b3 b4 b5 b6 W _ (goodM x) (goodM y) e (Rel κ0 W0 σ) (At W0 κ0 σc (σ.n+1)) (At W0 κ0 σ4 (σ.n+1)) R2 hga hgb c0 (fun h=>by rw [hgd] at h;cases h)
   (fun _ _=>hC) c1 hO (fun _ g w hw=>⟨_,κ0,rfl,hle0,.int _ _,back g w hw⟩) (fun _=>false) (fun _=>true) (fun h=>absurd h he) (fun _ _ _ _=>False) (fun h=>absurd h he) (fun _ _ _ _ _ h=>h.elim) (fun _ _ _ _ _ h=>h.elim) (fun _ _ _ _ _ h=>h.elim) (fun _ _ _ _ h=>h.elim)
 case pos=>
 subst he
 simp only [decide_true,cond_true] at h
 replace h:=bif_opt h
 obtain ⟨hck',h⟩:=h
 simp only [Bool.and_eq_true,Nat.ble_eq] at hck'
 have hlen':(esOf S').length≤100000:=by simpa [esOf] using hck'.2
 have hmap4:σ4.getMap σ.n=some (esOf S'):=hSW4.sub.map
 have c2:∀ g w,At W0 κ0 σ4 (σ.n+1) g w→∃ M n D0,w.cell? ⟨g,1,none⟩=some (.map (some M))∧w.ownsMap Tryz.prog 3 heldR M n D0∧Go.Maps.size D0≤maxLen∧∀ m:Int,Go.Maps.has D0 (.int .i64 m)=true↔S'.any (fun p=>p.1==m)=true:=by
  rintro g w ⟨κ,i,k1,k2,k3,k4,k5⟩
  obtain ⟨i2,q1,q2⟩:=At.cell k2 hSW4.st k3 k4 k5
  obtain ⟨n,D0,h1,h2,_,h4⟩:=map_read k2 hmap4 hck'.1 hlen' q1
  refine ⟨i2.c,n,D0,q2,h1,h2,fun m=>(h4 m).trans ?_⟩
  rw [List.any_eq_true]
  constructor
  ·rintro ⟨p,hp,e⟩
   obtain ⟨q,hq,rfl⟩:=List.mem_map.1 hp
   simp only [Value.int.injEq,true_and] at e
   exact ⟨q,hq,by simpa using e⟩
  ·rintro ⟨q,hq,e⟩
   exact ⟨_,List.mem_map.2 ⟨q,hq,rfl⟩,by simpa using e⟩
 have hF4r:Frm σ (σ4.put σ.n (.rom (esOf S'))) NoB:=hF04.fresh (Frm.put σ4 σ.n _ hSW4.lt) fun j hj h=>by omega
 have backR:∀ g M I w,Ranging W0 κ0 (σ4.put σ.n (.rom (esOf S'))) (σ.n+1) σ.n g M I w→Rel κ0 W0 σ w:=by
  rintro g M I w ⟨κ,i,i2,oM,h1,R3,_⟩
  exact R2.forget h1 R3 hF4r
 have hFr:Frm σ4 (σ4.put σ.n (.rom (esOf S'))) (· =σ.n):=Frm.put σ4 σ.n _ hSW4.lt
 have hSr:SubIn (σ4.put σ.n (.rom (esOf S'))) (σ.n+1) σ.n nx S':=⟨hFr.st hSW4.st (by omega),hSW4.lt,by simp [AHeap.getMap,get_put_same],fun p hp=>(hSW4.full p hp).stepM hFr hSW4.isMap⟩
 have hSm:∀ g M I w m u,Ranging W0 κ0 (σ4.put σ.n (.rom (esOf S'))) (σ.n+1) σ.n g M I w→smallM UF S' (varT m)=some u→Calls Tryz.prog 291 #[.pointer (some ⟨g,0,none⟩),tyV (7,⟨#[]⟩,m,none,0,0)] w fun e w'=>e=.returned (.bool u)∧Ranging W0 κ0 (σ4.put σ.n (.rom (esOf S'))) (σ.n+1) σ.n g M I w'∧w'.heap[M]?=w.heap[M]?∧w'.heap[I]?=w.heap[I]?:=fun g M I w m u hR hu=>by
  refine ranging_call hn hm hG hR (wp_tsmall noOv_T hSr (varT_full _ m) hu) fun κ i k1 k2 k3=>?_
  subst k2
  refine .cons (vr_new k1 k3) (.cons ?_ .nil)
  exact .agg rfl fun j v v' a b=>by
   match j,a,b with
   |0,a,b=>cases a;cases b;exact .int _ _
   |1,a,b=>cases a;cases b;exact .string _
   |2,a,b=>cases a;cases b;exact .int _ _
   |3,a,b=>cases a;cases b;exact .sliceNil _ _
 have hS3:∀ w1:Option Bool,allSmall UF S' S'=w1→w1≠none→∀ g M I w m,Ranging W0 κ0 (σ4.put σ.n (.rom (esOf S'))) (σ.n+1) σ.n g M I w→(S'.any fun p=>p.1==m)=true→
   Calls Tryz.prog 291 #[.pointer (some ⟨g,0,none⟩),tyV (7,⟨#[]⟩,m,none,0,0)] w fun e w'=>e=.returned (.bool (smallM UF S' (varT m)==some true))∧Ranging W0 κ0 (σ4.put σ.n (.rom (esOf S'))) (σ.n+1) σ.n g M I w'∧w'.heap[M]?=w.heap[M]?∧w'.heap[I]?=w.heap[I]?:=by
  intro w1 h1 h2 g M I w m hR hdom
  obtain ⟨p,hp,e⟩:=List.any_eq_true.1 hdom
  replace e:p.1=m:=by simpa using e
  subst e
  obtain ⟨w2,rfl⟩:=Option.ne_none_iff_exists'.1 h2
  obtain ⟨u,hu⟩:=allSmall_some h1 p hp
  have:=hSm g M I w p.1 u hR hu
  rw [hu]
  cases u<;>exact this
 cases hall:allSmall UF S' S' with
 |none=>rw [hall] at h;cases h
 |some all=>
 rw [hall] at h
 cases all with
 |false=>
  simp only [Option.some.injEq,Prod.mk.injEq] at h
  obtain ⟨rfl,rfl⟩:=h
  refine unify_any SB SO a1 a2 a3 a4 a5 a6 b1 b2 b3 b4 b5 b6 W _ (goodM x) (goodM y) 0 (Rel κ0 W0 σ) (At W0 κ0 σc (σ.n+1)) (At W0 κ0 σ4 (σ.n+1)) R2 hga hgb c0 (fun h=>by rw [hgd] at h;cases h)
   (fun _ _=>hC) c1 hO (fun h=>absurd rfl h) (fun m=>S'.any fun p=>p.1==m) (fun m=>smallM UF S' (varT m)==some true) (fun _=>c2) (fun g M I w=>Ranging W0 κ0 (σ4.put σ.n (.rom (esOf S'))) (σ.n+1) σ.n g M I w)
   (fun _ g M w w0 hw hM hg hs=>ranging_start hw hSW4.st hSW4.map hM hg hs) (fun g M I w w1 hw hg hs=>hw.next hg hs) (hS3 _ hall nofun)
   (fun g M I w m hw _ _=>⟨_,κ0,rfl,hle0,.int _ _,backR g M I w hw⟩) (fun g M I w hw hsm=>?_)
  obtain ⟨p,hp,hp2⟩:=allSmall_false hall
  have:=hsm p.1 (List.any_eq_true.2 ⟨p,hp,by simp⟩)
  rw [hp2] at this
  cases this
 |true=>
  simp only at h
  split at h
  case h_2=>cases h
  rename_i σ' hst
  simp only [Option.some.injEq,Prod.mk.injEq] at h
  obtain ⟨rfl,rfl⟩:=h
  refine unify_any SB SO a1 a2 a3 a4 a5 a6 b1 b2 b3 b4 b5 b6 W _ (goodM x) (goodM y) 0 (Rel κ0 W0 σ) (At W0 κ0 σc (σ.n+1)) (At W0 κ0 σ4 (σ.n+1)) R2 hga hgb c0 (fun h=>by rw [hgd] at h;cases h)
   (fun _ _=>hC) c1 hO (fun h=>absurd rfl h) (fun m=>S'.any fun p=>p.1==m) (fun m=>smallM UF S' (varT m)==some true) (fun _=>c2) (fun g M I w=>Ranging W0 κ0 (σ4.put σ.n (.rom (esOf S'))) (σ.n+1) σ.n g M I w)
   (fun _ g M w w0 hw hM hg hs=>ranging_start hw hSW4.st hSW4.map hM hg hs) (fun g M I w w1 hw hg hs=>hw.next hg hs) (hS3 _ hall nofun)
   (fun g M I w m _ hd hs=>?_) (fun g M I w hw _=>?_)
  ·obtain ⟨p,hp,e⟩:=List.any_eq_true.1 hd
   replace e:p.1=m:=by simpa using e
   have:=allSmall_true hall p hp
   rw [e] at this
   rw [this] at hs
   cases hs
  ·have R0:=backR g M I w hw
   obtain ⟨κ,i,i2,oM,h1,R3,h3,h4,h5,h6,h7,h8,h9,h10,h11,h12,h13,h14⟩:=hw
   obtain ⟨i2',q1,q2⟩:=At.cell R3 hSr.st h3 h4 h5
   rw [h6] at q1
   cases q1
   rw [h7] at q2
   have hP:∀ p∈S',Hung κ0 W0.heap.size σ p.2:=by
    refine oneM_pres (fun t ht u hu=>ht.arg R2 hu) (fun n=>varT_hung n) UF S x y 0 S' (fun p hp=>⟨⟨UF,readS_read hS p hp⟩,?_⟩) ⟨⟨UF,by rw [(readT_ok hx).1];exact hx⟩,_,hxc▸hva0⟩ ⟨⟨UF,by rw [(readT_ok hy).1];exact hy⟩,_,hyc▸hvb0⟩ hone
    obtain ⟨_,vs',hvl,_,_⟩:=rdN_sound R2 (ha.mono hle0.1) hrd
    obtain ⟨y0,y1,rfl⟩:∃ y0 y1,vs'=[y0,y1]:=by
     have:=hvl.1
     match vs',this with
     |[y0,y1],_=>exact ⟨y0,y1,rfl⟩
    obtain ⟨i3,_,hi3⟩:=(show VR κ0 W0.heap.size (.map (some r)) y1 from hvl.2 1 _ _ rfl rfl).map_inv
    obtain ⟨i',_,ents,clock,_,hEO⟩:=R2.map r es _ _ (getMap_inv hes) hi3
    obtain ⟨es',hp1,_,hp3⟩:=hEO.order
    have hm:(Value.int .i64 p.1,Value.agg p.2.c.toArray)∈es:=heS▸List.mem_map.2 ⟨p,hp,rfl⟩
    obtain ⟨j,hj,e⟩:=List.mem_iff_getElem.1 (hp1.mem_iff.2 hm)
    exact ⟨_,(hp3.2 j _ _ _ (by rw [List.getElem?_eq_getElem hj,e]) (List.getElem?_eq_getElem (by rw [←hp3.1];exact hj))).2⟩
   obtain ⟨i2',q3,ents,clock,q4,q5⟩:=R3.map σ.n (esOf S') _ _ (.inr (get_put_same _ _ _)) h6
   rw [h6] at q3
   cases q3
   rw [h7] at q4
   have hE:=ents_back h1.1 (fun p hp=>(hP p hp).2) q5
   have hno:∀ j v i',κ0 j v=some i'→i'.c≠M:=fun j v i' hi' e=>by
    have:=R3.inj _ _ _ _ _ _ (h1.1 _ _ _ hi') h6 (by rw [e,h7])
    subst this
    exact absurd hi' (by rw [R2.no_new];nofun)
   have hMW:W0.heap.size≤M:=by
    have:=(R3.dom _ _ _ h6).2.1
    omega
   obtain ⟨m1,m2,m3⟩:=R0.linkMap q4 hE hMW hno h14
   unfold stC at hst
   split at hst
   case h_2=>cases hst
   rename_i σ'' hwr
   simp only [Option.some.injEq,Prod.mk.injEq] at hst
   obtain ⟨_,rfl⟩:=hst
   have ha1:=((ha.mono hle0.1).mono m1.1).add 1
   obtain ⟨⟨y1,w1⟩,w2,w3⟩:=wr_cell m2 ha1 hwr m3
   exact ⟨y1,w1,w2,q2,_,_,rfl,Inj.le_trans hle0 m1,.int _ _,w3⟩
end
end Go.Proofs.YtaebddgepicjpaaGreatDoor
