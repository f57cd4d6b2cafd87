/- The card of the law 'TyUnifies': for every input its call returns true and leaves what it was given as it was; no further condition. -/
import Derived.Test.YtoilldfibaeokaaDoorTie
import Derived.Test.YtoilldfibaeokaaDoorCards
import Derived.WalkKit
import Derived.ProofKit
import Derived.OpenShut
import Derived.Deep.DeepHandedRow
import Derived.Shelf.Unicode.PredsPay
import Derived.PinnedBridge
import Derived.Lay
import Derived.LaidOnce
import Derived.SevenTiedAt
import Derived.Test.YtoilldfibaeokaaDoorDoc
import Derived.Test.YtoilldfibaeokaaDoorShelf
import Derived.Test.YtoilldfibaeokaaDoorCopO
import Derived.Test.YtoilldfibaeokaaDoorUniO
namespace Go.Proofs
open Go.RowKit Go.Shelf Go.Lib
namespace YtoilldfibaeokaaDoor.tyUnifies
open Go.ChangeShapes Go.WideShapes Go.ChangeAt
set_option linter.unusedVariables false
theorem own : ownKnob Tryd.prog.godebug = none := by kernel_rfl
theorem noNum : Go.Pg.NoNum Tryd.prog := by unfold Go.Pg.NoNum; kernel_rfl
theorem mixed : Tryd.prog.follows .mixedOrders = true := by kernel_rfl
theorem lastGlobal : (Tryd.prog.globals.size == 0 || (((begin Tryd.prog (fun _ _ => 0) default).world.heap[Tryd.prog.globals.size - 1]?).bind Obj.row?).isSome) = true := by kernel_rfl

theorem facts (W : World) (hG : Tryd.prog.globals.size ≤ W.heap.size) (hL : laidMet Tryd.prog Rows.tyUnifiesRow.laid W) : Go.Pg.Ground Tryd.prog W Go.Pg.ovL (Go.Pg.tabOld Go.Pg.tabsD) := by
  have t0 : TabIs Tryd.prog W ((Rows.tyUnifiesRow.laid.map (·.1)).getD 0 "") .u8 (Go.Pg.numsD Rows.laid_math_bits_deBruijn32tab) := Go.Pg.tabIs_of_reads (g := 1) (t := 95) (e := 5) (n := 32) (by kernel_rfl) (by kernel_rfl) (by kernel_rfl) (by kernel_rfl) (by kernel_rfl) (by kernel_rfl) (by kernel_rfl) (Lib.laidMet.reads hL (.head _))
  have t1 : TabIs Tryd.prog W ((Rows.tyUnifiesRow.laid.map (·.1)).getD 1 "") .u8 (Go.Pg.numsD Rows.laid_math_bits_deBruijn64tab) := Go.Pg.tabIs_of_reads (g := 2) (t := 96) (e := 5) (n := 64) (by kernel_rfl) (by kernel_rfl) (by kernel_rfl) (by kernel_rfl) (by kernel_rfl) (by kernel_rfl) (by kernel_rfl) (Lib.laidMet.reads hL (.tail _ (.head _)))
  have t2 : TabIs Tryd.prog W ((Rows.tyUnifiesRow.laid.map (·.1)).getD 2 "") .u64 (Go.Pg.numsD Rows.laid_internal_strconv_uint64pow10) := Go.Pg.tabIs_of_reads (g := 0) (t := 88) (e := 80) (n := 20) (by kernel_rfl) (by kernel_rfl) (by kernel_rfl) (by kernel_rfl) (by kernel_rfl) (by kernel_rfl) (by kernel_rfl) (Lib.laidMet.reads hL (.tail _ (.tail _ (.head _))))
  have g0 : Go.Pg.Ground Tryd.prog W (fun _ => none) (Go.Pg.tabOld Go.Pg.tabsD) := Go.Pg.Ground.tabs (by
    intro x hx
    simp only [List.mem_cons, List.mem_nil_iff, or_false] at hx
    rcases hx with rfl | rfl | rfl
    · exact Go.Pg.tab_cells t0 (by kernel_rfl) (Nat.lt_of_lt_of_le (show 1 < Tryd.prog.globals.size by decide +kernel) hG)
    · exact Go.Pg.tab_cells t1 (by kernel_rfl) (Nat.lt_of_lt_of_le (show 2 < Tryd.prog.globals.size by decide +kernel) hG)
    · exact Go.Pg.tab_cells t2 (by kernel_rfl) (Nat.lt_of_lt_of_le (show 0 < Tryd.prog.globals.size by decide +kernel) hG))
  have tF : TabIs Tryd.prog W "internal/strconv.uint64pow10" .u64 pow10Tab := (show Go.Pg.numsD Rows.laid_internal_strconv_uint64pow10 = pow10Tab by kernel_rfl) ▸ t2
  have gI := Go.Pg.Ground.cons noNum (Go.Pg.itoa_ok (g := 0) Tryd.laysItoa ⟨_, _, Tryd.func55, rfl⟩ (by kernel_rfl) tF) g0
  have gX33 : Go.Pg.Ground Tryd.prog W (fun k => bif Nat.beq k 33 then some Go.Pg.copiedG else _) _ := fun W1 hb1 => ⟨Go.Pg.OvOK.cons (YtoilldfibaeokaaDoor.copied_ov noNum) (gI W1 hb1).1, (gI W1 hb1).2⟩
  have gX12 : Go.Pg.Ground Tryd.prog W (fun k => bif Nat.beq k 12 then some Go.Pg.unifyG else _) _ := fun W1 hb1 => ⟨Go.Pg.OvOK.cons (YtoilldfibaeokaaDoor.unify_ov noNum mixed (Nat.le_trans hG hb1.size)) (gX33 W1 hb1).1, (gX33 W1 hb1).2⟩
  exact gX12

theorem walk (W : World) (hG : Tryd.prog.globals.size ≤ W.heap.size) (hL : laidMet Tryd.prog Rows.tyUnifiesRow.laid W) (p0 : Option Addr) (c0 : Nat) (l0 : List (Go.Pg.Sh.D (Go.Pg.tySh 7))) (v0 : Value) (vr0 : Go.Pg.VR Go.Pg.noInj W.heap.size (.slice p0 l0.length c0) v0) (rd0 : Go.Pg.RdR (Go.Pg.oldS W) 4 (Go.Pg.tySh 7) p0 l0) (ok0 : (Go.Pg.Sh.row 4 (Go.Pg.tySh 7)).ok l0) (x1 : Go.Pg.Sh.D (Go.Pg.tySh 7)) (vs1 : List Value) (v1 : Value) (vr1 : Go.Pg.VR Go.Pg.noInj W.heap.size (.agg vs1.toArray) v1) (av1 : Go.Pg.AV (Go.Pg.oldS W) (Go.Pg.tySh 7) x1 vs1) (ok1 : Go.Pg.Sh.ok (Go.Pg.tySh 7) x1) :
    Calls Tryd.prog 3 #[v0, v1] W fun e w' => e = .returned (.bool true) ∧ Below W.heap.size W w' :=
  by
  have hF := (facts W hG hL) W (Below.refl _ _)
  have heq := Go.Pg.unO_eq (l := Go.Pg.tabsD) hF.2
  exact Go.Pg.law_calls' (old := Go.Pg.unO Go.Pg.tabsD (Go.Pg.oldS W)) (args := [.slice p0 l0.length c0, .agg vs1.toArray]) noNum mixed hG hF.1 (by rw [heq]; exact Go.Pg.oldS_ok) (.cons vr0 (.cons vr1 .nil)) (Go.Pg.tyUnifies_law p0 c0 l0 x1 vs1 (Go.Pg.oldS W) (by rw [heq]; exact rd0) ok0 (by rw [heq]; exact av1) ok1)
theorem laidOut : laidOutB Tryd.prog = true := by kernel_rfl

set_option maxRecDepth 100000 in
theorem contract (H : Type) (enc : TypeId × Value → H) (W : World) (base : Nat) (args : Array Value) (ds gs : List (DataW H)) (before : List MemPlace)
    (hval : ∀ (j : Nat) t v, Tryd.f3.params[j]? = some t → args[j]? = some v → Value.okWide Tryd.prog W .any base t v)
    (hW : DataW.Whole enc Tryd.prog Tryd.f3.params.toList Rows.tyUnifiesSpec.vars false W args.toList ds gs before) (hS : W.ShapedOpen Tryd.prog) (hL : laidMetH Tryd.prog Rows.tyUnifiesRow.laid W) :
    Calls Tryd.prog 3 args W fun e W' => ∃ v, e = .returned v ∧ Rows.tyUnifiesSpec.post enc Tryd.prog Tryd.f3 false true false false W args v W' := by
  have hG := Go.Pg.globals_le hS lastGlobal
  rw [MakeChecks.laidMetH_plain _ _ _ (by kernel_rfl)] at hL
  have hW' := hW
  have hlt : ∀ x ∈ before, x.block < W.heap.size := fun x hx => hW'.lt x hx
  obtain ⟨p, q, hA0, hV, rfl, hfz, hnd⟩ := hW
  have hA : DataW.TrodAll enc Tryd.prog W 0 (fun _ => true) true Tryd.f3.params.toList args.toList ds p := hA0
  have hall : ∀ t ∈ Tryd.f3.params.toList, Tryd.prog.readableRec t = true ∧ t < Tryd.prog.types.size := by
    have h : (Tryd.f3.params.toList.all fun t => Tryd.prog.readableRec t && decide (t < Tryd.prog.types.size)) = true := by kernel_rfl
    intro t ht
    have := List.all_eq_true.1 h t ht
    simpa using this
  rw [Tryd.params3] at hA hval
  obtain ⟨v0, vs0, d0, ds0, p0, q0, hargs, rfl, rfl, h0, r0⟩ := trodAll_cons hA
  obtain ⟨v1, vs1, d1, ds1, p1, q1, rfl, rfl, rfl, h1, r1⟩ := trodAll_cons r0
  obtain ⟨rfl, rfl, rfl⟩ := trodAll_nil r1
  obtain rfl : args = #[v0, v1] := by cases args; simp_all
  obtain ⟨rfl, rfl⟩ := trodVars_none hV
  obtain ⟨sp0, sc0, sl0, svr0, srd0, sok0⟩ := Go.Pg.arg_row (c := 4) (s := (Go.Pg.tySh 7)) (by kernel_rfl) (hval 0 22 v0 rfl rfl) h0
  obtain ⟨sx1, svs1, svr1, sav1, sok1⟩ := Go.Pg.arg_struct (s := (Go.Pg.tySh 7)) Tryd.underlying24 (by kernel_rfl) (by kernel_rfl) (hval 1 24 v1 rfl rfl) h1
  simp only [List.append_nil] at hW' hlt
  refine (walk W hG hL sp0 sc0 sl0 v0 svr0 srd0 sok0 sx1 svs1 v1 svr1 sav1 sok1).mono fun e W' ⟨he, hg⟩ => ?_
  subst he
  exact ⟨_, rfl, Go.Pg.post_of_below (pv := []) hW' (fun _ _ _ => (trodAll_cons_mk (shut_bool Tryd.underlying4 _) trodAll_mk0)) (fun sp hsp => Go.Pg.trodAll_stays laidOut hall hA0 hg (fun x hx => hlt x (by first | (simp at hx; done) | simpa using hx)) sp (fun x hx => hsp x (by first | (simp at hx; done) | simpa using hx))) (fun _ _ => rfl) (by simp)
    hg (ok_one (by kernel_rfl) rfl (okWide_bool_mk Tryd.underlying4 _))⟩


set_option maxRecDepth 100000 in
theorem lifted (os : Os) (started : os.Started) (H : Type) (enc : TypeId × Value → H) (F : Stop.Interp) :
    ReturnsInHanded {} Tryd.checked os 3 .any ((OpenSpec.ofChange Rows.tyUnifiesSpec).preRow enc Tryd.prog Tryd.f3 Rows.tyUnifiesRow.domain false Rows.tyUnifiesRow.laid) (((OpenSpec.ofChange Rows.tyUnifiesSpec).at F).post enc Tryd.prog Tryd.f3 false true false false) := by
  refine returnsInHanded_of_row (C := Tryd.checked) (s := OpenSpec.ofChange Rows.tyUnifiesSpec) own started (by kernel_rfl) Tryd.func3
    (Go.Pg.witness_row_shaped (C := Tryd.checked) (World.laidAll Tryd.prog os Rows.tyUnifiesRow.laid) #[.slice none 0 0, .agg #[.int .i64 0, .string ByteArray.empty, .int .i64 0, .slice none 0 0]] (World.laidAll_os _ _ _) (World.shaped_of_ZipB (by kernel_rfl) (by kernel_rfl)) (by kernel_rfl)
      (OpenSpec.preRow_of_cond 8 (x := ([.nil, .agg [.lit (.int .i64 0), .lit (.string []), .lit (.int .i64 0), .nil]], [], [])) (by kernel_rfl) (by kernel_rfl) (fun k hk => by cases hk) (by kernel_rfl)
        (by rw [MakeChecks.laidMetH_plain _ _ _ (by kernel_rfl)]; exact laidMet_laidAll _ (by kernel_rfl) (by kernel_rfl)))) ?_
  intro W base args ds gs before hval hW _ _ _ hL hS _
  exact contract H enc W base args ds gs before hval hW hS hL

theorem row_holds : Rows.TyUnifiesSaid :=
  OpenClaim.holds_of_cond 3 Tryd.f3 rfl rfl rfl rfl rfl rfl rfl ⟨rfl, rfl, rfl, rfl, rfl⟩ rfl rfl rfl rfl rfl (by kernel_rfl) Tryd.func3 (by kernel_rfl)
    (of_decide_eq_true (by kernel_rfl)) (by unfold Func.isWrapper; first | (rw [if_pos (by decide +kernel)]; kernel_rfl) | (rw [if_neg (by decide +kernel)]; exact ⟨rfl, rfl⟩))
    (fun os started H enc _ F => by rw [OpenClaim.pre_eq_preRow]; exact lifted os started H enc F)

theorem proved : Rows.TyUnifiesCardSaid :=
  Claim7.holds_tied_plain_at .later [] [.data, .data, .data] true (true, "63b6aace0797897fc86ee22a4300184a7d6da3a80818b5a5992ad756860e2965") false row_holds (fun _ h => by cases h) (by kernel_rfl) (fun _ h => by cases h) tyUnifies_row_tie rfl ⟨rfl, rfl⟩ (by kernel_rfl) rfl
    (fun f fn hf hfn => by
      obtain rfl : f = 3 := Option.some.inj ((show Tryd.prog.funcNamed Rows.tyUnifiesRow.func = some 3 by kernel_rfl).symm.trans hf) |>.symm
      obtain rfl : fn = Tryd.f3 := (Option.some.inj (Tryd.func3.symm.trans hfn)).symm
      exact ⟨by kernel_rfl, fun j t ht => by
        rw [Tryd.params3] at ht
        have hm : t ∈ ([22, 24] : List TypeId) := by simpa using Array.mem_of_getElem? ht
        have hall : (([22, 24] : List TypeId).all fun u => !Tryd.prog.wantsStandIn u) = true := by kernel_rfl
        exact (show Tryd.prog.wantsStandIn t = false by simpa using List.all_eq_true.1 hall t hm)⟩)
    (by kernel_rfl)
#print axioms proved
end YtoilldfibaeokaaDoor.tyUnifies
end Go.Proofs
