/- The card of the law 'LexBlanks': for every input its call returns true and leaves what it was given as it was; no further condition. -/
import Derived.Test.YtgbgkagodmhbhaaDoorTie
import Derived.Test.YtgbgkagodmhbhaaDoorCards
import Derived.WalkKit
import Derived.ProofKit
import Derived.OpenShut
import Derived.Deep.DeepHandedRow
import Derived.Shelf.Unicode.PredsPay
import Derived.PinnedBridge
import Derived.Lay
import Derived.LaidOnce
import Derived.SevenTiedAt
import Derived.Test.YtgbgkagodmhbhaaDoorLexBlanks
import Derived.Test.YtgbgkagodmhbhaaDoorShelf
namespace Go.Proofs
open Go.RowKit Go.Shelf Go.Lib
namespace YtgbgkagodmhbhaaDoor.lexBlanks
open Go.ChangeShapes Go.WideShapes Go.ChangeAt
set_option linter.unusedVariables false
theorem own : ownKnob Tryd.prog.godebug = none := by kernel_rfl
theorem noNum : Go.Pg.NoNum Tryd.prog := by unfold Go.Pg.NoNum; kernel_rfl
theorem mixed : Tryd.prog.follows .mixedOrders = true := by kernel_rfl
theorem lastGlobal : (Tryd.prog.globals.size == 0 || (((begin Tryd.prog (fun _ _ => 0) default).world.heap[Tryd.prog.globals.size - 1]?).bind Obj.row?).isSome) = true := by kernel_rfl

theorem xL : RExtra Tryd.prog Tryd.laysLetter_ren := ⟨by kernel_rfl, by kernel_rfl, by kernel_rfl, by kernel_rfl, by kernel_rfl, by kernel_rfl, by kernel_rfl, by kernel_rfl⟩
theorem xU : RExtra Tryd.prog Tryd.laysUpper_ren := ⟨by kernel_rfl, by kernel_rfl, by kernel_rfl, by kernel_rfl, by kernel_rfl, by kernel_rfl, by kernel_rfl, by kernel_rfl⟩
theorem xD : U8Extra Tryd.prog Tryd.laysDecode_ren := ⟨by kernel_rfl, by kernel_rfl, by kernel_rfl, by kernel_rfl, by kernel_rfl, by kernel_rfl, by kernel_rfl⟩
theorem facts (W : World) (hG : Tryd.prog.globals.size ≤ W.heap.size) (hL : laidMet Tryd.prog Rows.lexBlanksRow.laid W) : Go.Pg.Ground Tryd.prog W Go.Pg.ovD (Go.Pg.tabOld Go.Pg.tabsD) := by
  have t0 : TabIs Tryd.prog W "unicode.properties" .u8 (Go.Pg.numsD Rows.laid_unicode_properties) := Go.Pg.tabIs_of_reads (g := 0) (t := 80) (e := 5) (n := 256) (by kernel_rfl) (by kernel_rfl) (by kernel_rfl) (by kernel_rfl) (by kernel_rfl) (by kernel_rfl) (by kernel_rfl) (Lib.laidMet.reads hL (.tail _ (.head _)))
  have tp : TabIs Tryd.prog W "unicode.properties" .u8 propertiesTab := (show Go.Pg.numsD Rows.laid_unicode_properties = propertiesTab by kernel_rfl) ▸ t0
  have vL : RVar (Tryd.laysLetter_ren.g 8) letterT W := rvar_of_reads { Tryd.laysLetter with } xL (by kernel_rfl) (by kernel_rfl) ((show Rows.laid_unicode_Letter = rtabData letterT from Pinned.letter_eq) ▸ Lib.laidMet.reads hL (.tail _ (.tail _ (.head _))))
  have vU : RVar (Tryd.laysUpper_ren.g 9) upperT W := rvar_of_reads { Tryd.laysUpper with } xU (by kernel_rfl) (by kernel_rfl) ((show Rows.laid_unicode_Upper = rtabData upperT from Pinned.upper_eq) ▸ Lib.laidMet.reads hL (.tail _ (.tail _ (.tail _ (.head _)))))
  have g0 : Go.Pg.Ground Tryd.prog W (fun _ => none) (Go.Pg.tabOld Go.Pg.tabsD) := Go.Pg.Ground.tabs (by
    intro x hx
    simp only [List.mem_cons, List.mem_nil_iff, or_false] at hx
    rcases hx with rfl
    · exact Go.Pg.tab_cells t0 (by kernel_rfl) (Nat.lt_of_lt_of_le (show 0 < Tryd.prog.globals.size by decide +kernel) hG))
  have gU := Go.Pg.Ground.cons noNum (Go.Pg.upper_ok Tryd.laysUpper ⟨_, _, Tryd.func51, rfl⟩ (by kernel_rfl) tp vU) g0
  have gL := Go.Pg.Ground.cons noNum (Go.Pg.letter_ok Tryd.laysLetter ⟨_, _, Tryd.func54, rfl⟩ (by kernel_rfl) tp vL) gU
  have tD : Utf8Tabs (Tryd.laysDecode_ren.g 3) (Tryd.laysDecode_ren.g 4) W := utf8Tabs_of_reads { Tryd.laysDecode with } xD ((show Rows.laid_unicode_utf8_first = firstData by kernel_rfl) ▸ Lib.laidMet.reads hL (.tail _ (.tail _ (.tail _ (.tail _ (.head _)))))) ((show Rows.laid_unicode_utf8_acceptRanges = acceptData by kernel_rfl) ▸ Lib.laidMet.reads hL (.head _))
  have gD := Go.Pg.Ground.cons noNum (Go.Pg.decode_ok Tryd.laysDecode ⟨_, _, Tryd.func37, rfl⟩ tD) gL
  exact gD

theorem walk (W : World) (hG : Tryd.prog.globals.size ≤ W.heap.size) (hL : laidMet Tryd.prog Rows.lexBlanksRow.laid W) (s0 : ByteArray) (hs0 : s0.size ≤ maxLen) (a1 : Int) (w1 : (Lit.int .i64 a1).wf = true) :
    Calls Tryd.prog 5 #[.string s0, .int .i64 a1] W fun e w' => e = .returned (.bool true) ∧ Below W.heap.size W w' :=
  Go.Pg.law_calls (args := [.string s0, .int .i64 a1]) noNum mixed hG ((facts W hG hL) W (Below.refl _ _)).1 ((facts W hG hL) W (Below.refl _ _)).2 (.cons (.string _) (.cons (.int _ _) .nil)) (Go.Pg.lexBlanks_true s0 hs0 a1 w1)
theorem laidOut : laidOutB Tryd.prog = true := by kernel_rfl

set_option maxRecDepth 100000 in
theorem contract (H : Type) (enc : TypeId × Value → H) (W : World) (base : Nat) (args : Array Value) (ds gs : List (DataW H)) (before : List MemPlace)
    (hval : ∀ (j : Nat) t v, Tryd.f5.params[j]? = some t → args[j]? = some v → Value.okWide Tryd.prog W .any base t v)
    (hW : DataW.Whole enc Tryd.prog Tryd.f5.params.toList Rows.lexBlanksSpec.vars false W args.toList ds gs before) (hS : W.ShapedOpen Tryd.prog) (hL : laidMetH Tryd.prog Rows.lexBlanksRow.laid W) :
    Calls Tryd.prog 5 args W fun e W' => ∃ v, e = .returned v ∧ Rows.lexBlanksSpec.post enc Tryd.prog Tryd.f5 false true false false W args v W' := by
  have hG := Go.Pg.globals_le hS lastGlobal
  rw [MakeChecks.laidMetH_plain _ _ _ (by kernel_rfl)] at hL
  have hW' := hW
  have hlt : ∀ x ∈ before, x.block < W.heap.size := fun x hx => hW'.lt x hx
  obtain ⟨p, q, hA0, hV, rfl, hfz, hnd⟩ := hW
  have hA : DataW.TrodAll enc Tryd.prog W 0 (fun _ => true) true Tryd.f5.params.toList args.toList ds p := hA0
  have hall : ∀ t ∈ Tryd.f5.params.toList, Tryd.prog.readableRec t = true ∧ t < Tryd.prog.types.size := by
    have h : (Tryd.f5.params.toList.all fun t => Tryd.prog.readableRec t && decide (t < Tryd.prog.types.size)) = true := by kernel_rfl
    intro t ht
    have := List.all_eq_true.1 h t ht
    simpa using this
  rw [Tryd.params5] at hA hval
  obtain ⟨v0, vs0, d0, ds0, p0, q0, hargs, rfl, rfl, h0, r0⟩ := trodAll_cons hA
  obtain ⟨v1, vs1, d1, ds1, p1, q1, rfl, rfl, rfl, h1, r1⟩ := trodAll_cons r0
  obtain ⟨rfl, rfl, rfl⟩ := trodAll_nil r1
  obtain rfl : args = #[v0, v1] := by cases args; simp_all
  obtain ⟨rfl, rfl⟩ := trodVars_none hV
  obtain ⟨s0, rfl, hs0, _⟩ := Go.Pg.arg_string Tryd.underlying9 (hval 0 9 v0 rfl rfl) h0
  obtain ⟨a1, rfl, rfl, rfl, w1⟩ := open_int Tryd.underlying3 (hval 1 3 v1 rfl rfl) h1
  simp only [List.append_nil] at hW' hlt
  refine (walk W hG hL s0 hs0 a1 w1).mono fun e W' ⟨he, hg⟩ => ?_
  subst he
  exact ⟨_, rfl, Go.Pg.post_of_below (pv := []) hW' (fun _ _ _ => (trodAll_cons_mk (shut_bool Tryd.underlying4 _) trodAll_mk0)) (fun sp hsp => Go.Pg.trodAll_stays laidOut hall hA0 hg (fun x hx => hlt x (by simpa using hx)) sp (fun x hx => hsp x (by simpa using hx))) (fun _ _ => rfl) (by simp)
    hg (ok_one (by kernel_rfl) rfl (okWide_bool_mk Tryd.underlying4 _))⟩


set_option maxRecDepth 100000 in
theorem lifted (os : Os) (started : os.Started) (H : Type) (enc : TypeId × Value → H) (F : Stop.Interp) :
    ReturnsInHanded {} Tryd.checked os 5 .any ((OpenSpec.ofChange Rows.lexBlanksSpec).preRow enc Tryd.prog Tryd.f5 Rows.lexBlanksRow.domain false Rows.lexBlanksRow.laid) (((OpenSpec.ofChange Rows.lexBlanksSpec).at F).post enc Tryd.prog Tryd.f5 false true false false) := by
  refine returnsInHanded_of_row (C := Tryd.checked) (s := OpenSpec.ofChange Rows.lexBlanksSpec) own started (by kernel_rfl) Tryd.func5
    (Go.Pg.witness_row_shaped (C := Tryd.checked) (World.laidAll Tryd.prog os Rows.lexBlanksRow.laid) #[.string ByteArray.empty, .int .i64 0] (World.laidAll_os _ _ _) (World.shaped_of_ZipB (by kernel_rfl) (by kernel_rfl)) (by kernel_rfl)
      (OpenSpec.preRow_of_cond 8 (x := ([.lit (.string []), .lit (.int .i64 0)], [], [])) (by kernel_rfl) (by kernel_rfl) (fun k hk => by cases hk) (by kernel_rfl)
        (by rw [MakeChecks.laidMetH_plain _ _ _ (by kernel_rfl)]; exact laidMet_laidAll _ (by kernel_rfl) (by kernel_rfl)))) ?_
  intro W base args ds gs before hval hW _ _ _ hL hS _
  exact contract H enc W base args ds gs before hval hW hS hL

theorem row_holds : Rows.LexBlanksSaid :=
  OpenClaim.holds_of_cond 5 Tryd.f5 rfl rfl rfl rfl rfl rfl rfl ⟨rfl, rfl, rfl, rfl, rfl⟩ rfl rfl rfl rfl rfl (by kernel_rfl) Tryd.func5 (by kernel_rfl)
    (of_decide_eq_true (by kernel_rfl)) (by unfold Func.isWrapper; first | (rw [if_pos (by decide +kernel)]; kernel_rfl) | (rw [if_neg (by decide +kernel)]; exact ⟨rfl, rfl⟩))
    (fun os started H enc _ F => by rw [OpenClaim.pre_eq_preRow]; exact lifted os started H enc F)

theorem proved : Rows.LexBlanksCardSaid :=
  Claim7.holds_tied_plain_at .later [] [.data, .data, .pinned, .pinned, .pinned] true (true, "565201cf6c9503f7ef885f79252bc134dc4bee315cf7643de5c26727a30185b2") false row_holds (fun _ h => by cases h) (by kernel_rfl) (fun _ h => by cases h) lexBlanks_row_tie rfl ⟨rfl, rfl⟩ (by kernel_rfl) rfl
    (fun f fn hf hfn => by
      obtain rfl : f = 5 := Option.some.inj ((show Tryd.prog.funcNamed Rows.lexBlanksRow.func = some 5 by kernel_rfl).symm.trans hf) |>.symm
      obtain rfl : fn = Tryd.f5 := (Option.some.inj (Tryd.func5.symm.trans hfn)).symm
      exact ⟨by kernel_rfl, fun j t ht => by
        rw [Tryd.params5] at ht
        have hm : t ∈ ([9, 3] : List TypeId) := by simpa using Array.mem_of_getElem? ht
        have hall : (([9, 3] : List TypeId).all fun u => !Tryd.prog.wantsStandIn u) = true := by kernel_rfl
        exact (show Tryd.prog.wantsStandIn t = false by simpa using List.all_eq_true.1 hall t hm)⟩)
    (by kernel_rfl)
#print axioms proved
end YtgbgkagodmhbhaaDoor.lexBlanks
end Go.Proofs
