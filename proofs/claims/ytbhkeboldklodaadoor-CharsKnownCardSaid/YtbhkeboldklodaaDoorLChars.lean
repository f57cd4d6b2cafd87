/- The card of the law 'CharsKnown' (no argument): its call returns true; no further condition. -/
import Derived.Test.YtbhkeboldklodaaDoorTie
import Derived.Test.YtbhkeboldklodaaDoorCards
import Derived.WalkKit
import Derived.ProofKit
import Derived.OpenShut
import Derived.Deep.DeepHandedRow
import Derived.Shelf.Unicode.PredsPay
import Derived.PinnedBridge
import Derived.Lay
import Derived.LaidOnce
import Derived.SevenTiedAt
import Derived.Test.YtbhkeboldklodaaDoorRChars
import Derived.Test.YtbhkeboldklodaaDoorShelf
namespace Go.Proofs
open Go.RowKit Go.Shelf Go.Lib
namespace YtbhkeboldklodaaDoor.charsKnown
open Go.ChangeShapes Go.WideShapes Go.ChangeAt
set_option linter.unusedVariables false
theorem own : ownKnob Tryd.prog.godebug = none := by kernel_rfl
theorem noNum : Go.Pg.NoNum Tryd.prog := by unfold Go.Pg.NoNum; kernel_rfl
theorem mixed : Tryd.prog.follows .mixedOrders = true := by kernel_rfl
theorem lastGlobal : (Tryd.prog.globals.size == 0 || (((begin Tryd.prog (fun _ _ => 0) default).world.heap[Tryd.prog.globals.size - 1]?).bind Obj.row?).isSome) = true := by kernel_rfl

theorem xL : RExtra Tryd.prog Tryd.laysLetter_ren := ⟨by kernel_rfl, by kernel_rfl, by kernel_rfl, by kernel_rfl, by kernel_rfl, by kernel_rfl, by kernel_rfl, by kernel_rfl⟩
theorem xU : RExtra Tryd.prog Tryd.laysUpper_ren := ⟨by kernel_rfl, by kernel_rfl, by kernel_rfl, by kernel_rfl, by kernel_rfl, by kernel_rfl, by kernel_rfl, by kernel_rfl⟩
theorem facts (W : World) (hG : Tryd.prog.globals.size ≤ W.heap.size) (hL : laidMet Tryd.prog Rows.charsKnownRow.laid W) :
    Go.Pg.OvOK Tryd.prog W Go.Pg.ovD ∧ ∀ b o v, Go.Pg.tabOld Go.Pg.tabsD ⟨b, o, none⟩ = some v → b < W.heap.size ∧ W.cell? ⟨b, o, none⟩ = some v ∧ ∀ κ : Go.Pg.Inj, Go.Pg.VR κ W.heap.size v v := by
  have t0 : TabIs Tryd.prog W "unicode.properties" .u8 (Go.Pg.numsD Rows.laid_unicode_properties) := Go.Pg.tabIs_of_reads (g := 0) (t := 82) (e := 5) (n := 256) (by kernel_rfl) (by kernel_rfl) (by kernel_rfl) (by kernel_rfl) (by kernel_rfl) (by kernel_rfl) (by kernel_rfl) (Lib.laidMet.reads hL (.tail _ (.head _)))
  have tp : TabIs Tryd.prog W "unicode.properties" .u8 propertiesTab := (show Go.Pg.numsD Rows.laid_unicode_properties = propertiesTab by kernel_rfl) ▸ t0
  have vL : RVar (Tryd.laysLetter_ren.g 8) letterT W := rvar_of_reads { Tryd.laysLetter with } xL (by kernel_rfl) (by kernel_rfl) ((show Rows.laid_unicode_Letter = rtabData letterT from Pinned.letter_eq) ▸ Lib.laidMet.reads hL (.tail _ (.tail _ (.head _))))
  have vU : RVar (Tryd.laysUpper_ren.g 9) upperT W := rvar_of_reads { Tryd.laysUpper with } xU (by kernel_rfl) (by kernel_rfl) ((show Rows.laid_unicode_Upper = rtabData upperT from Pinned.upper_eq) ▸ Lib.laidMet.reads hL (.tail _ (.tail _ (.tail _ (.head _)))))
  refine ⟨(Go.Pg.OvOK.cons (Go.Pg.PureOK.ov noNum (Go.Pg.letter_ok Tryd.laysLetter ⟨_, _, Tryd.func33, rfl⟩ (by kernel_rfl) tp vL)) (Go.Pg.OvOK.cons (Go.Pg.PureOK.ov noNum (Go.Pg.upper_ok Tryd.laysUpper ⟨_, _, Tryd.func34, rfl⟩ (by kernel_rfl) tp vU)) Go.Pg.OvOK.none)), Go.Pg.tabOld_ok ?_⟩
  intro x hx
  simp only [List.mem_cons, List.mem_nil_iff, or_false] at hx
  rcases hx with rfl
  · exact Go.Pg.tab_cells t0 (by kernel_rfl) (Nat.lt_of_lt_of_le (show 0 < Tryd.prog.globals.size by decide +kernel) hG)

theorem walk (W : World) (hG : Tryd.prog.globals.size ≤ W.heap.size) (hL : laidMet Tryd.prog Rows.charsKnownRow.laid W) :
    Calls Tryd.prog 3 #[] W fun e w' => e = .returned (.bool true) ∧ Below W.heap.size W w' :=
  Go.Pg.law_calls (args := []) noNum mixed hG (facts W hG hL).1 (facts W hG hL).2 .nil Go.Pg.charsKnown_true

set_option maxRecDepth 100000 in
theorem contract (H : Type) (enc : TypeId × Value → H) (W : World) (base : Nat) (args : Array Value) (ds gs : List (DataW H)) (before : List MemPlace)
    (hval : ∀ (j : Nat) t v, Tryd.f3.params[j]? = some t → args[j]? = some v → Value.okWide Tryd.prog W .any base t v)
    (hW : DataW.Whole enc Tryd.prog Tryd.f3.params.toList Rows.charsKnownSpec.vars false W args.toList ds gs before) (hS : W.ShapedOpen Tryd.prog) (hL : laidMetH Tryd.prog Rows.charsKnownRow.laid W) :
    Calls Tryd.prog 3 args W fun e W' => ∃ v, e = .returned v ∧ Rows.charsKnownSpec.post enc Tryd.prog Tryd.f3 false true false false W args v W' := by
  have hG := Go.Pg.globals_le hS lastGlobal
  rw [MakeChecks.laidMetH_plain _ _ _ (by kernel_rfl)] at hL
  have hW' := hW
  obtain ⟨p, q, hA0, hV, rfl, hfz, hnd⟩ := hW
  have hA : DataW.TrodAll enc Tryd.prog W 0 (fun _ => true) true Tryd.f3.params.toList args.toList ds p := hA0
  rw [Tryd.params3] at hA hval
  obtain ⟨hargs, rfl, rfl⟩ := trodAll_nil hA
  obtain rfl : args = #[] := by cases args; simp_all
  obtain ⟨rfl, rfl⟩ := trodVars_none hV
  clear hA0
  simp only [List.append_nil] at hW'
  refine (walk W hG hL).mono fun e W' ⟨he, hg⟩ => ?_
  subst he
  exact ⟨_, rfl, Go.Pg.post_of_below (pa := []) (pv := []) hW' (fun _ _ _ => (trodAll_cons_mk (shut_bool Tryd.underlying4 _) trodAll_mk0)) (fun sp _ => trodAll_mk0) (fun _ _ => rfl) rfl
    hg (ok_one (by kernel_rfl) rfl (okWide_bool_mk Tryd.underlying4 _))⟩

set_option maxRecDepth 100000 in
theorem lifted (os : Os) (started : os.Started) (H : Type) (enc : TypeId × Value → H) (F : Stop.Interp) :
    ReturnsInHanded {} Tryd.checked os 3 .any ((OpenSpec.ofChange Rows.charsKnownSpec).preRow enc Tryd.prog Tryd.f3 Rows.charsKnownRow.domain false Rows.charsKnownRow.laid) (((OpenSpec.ofChange Rows.charsKnownSpec).at F).post enc Tryd.prog Tryd.f3 false true false false) := by
  refine returnsInHanded_of_row (C := Tryd.checked) (s := OpenSpec.ofChange Rows.charsKnownSpec) own started (by kernel_rfl) Tryd.func3
    (Go.Pg.witness_row_shaped (C := Tryd.checked) (World.laidAll Tryd.prog os Rows.charsKnownRow.laid) #[] (World.laidAll_os _ _ _) (World.shaped_of_ZipB (by kernel_rfl) (by kernel_rfl)) (by kernel_rfl)
      (OpenSpec.preRow_of_cond 8 (x := ([], [], [])) (by kernel_rfl) (by kernel_rfl) (fun k hk => by cases hk) (by kernel_rfl)
        (by rw [MakeChecks.laidMetH_plain _ _ _ (by kernel_rfl)]; exact laidMet_laidAll _ (by kernel_rfl) (by kernel_rfl)))) ?_
  intro W base args ds gs before hval hW _ _ _ hL hS _
  exact contract H enc W base args ds gs before hval hW hS hL

theorem row_holds : Rows.CharsKnownSaid :=
  OpenClaim.holds_of_cond 3 Tryd.f3 rfl rfl rfl rfl rfl rfl rfl ⟨rfl, rfl, rfl, rfl, rfl⟩ rfl rfl rfl rfl rfl (by kernel_rfl) Tryd.func3 (by kernel_rfl)
    (of_decide_eq_true (by kernel_rfl)) (by unfold Func.isWrapper; first | (rw [if_pos (by decide +kernel)]; kernel_rfl) | (rw [if_neg (by decide +kernel)]; exact ⟨rfl, rfl⟩))
    (fun os started H enc _ F => by rw [OpenClaim.pre_eq_preRow]; exact lifted os started H enc F)

theorem proved : Rows.CharsKnownCardSaid :=
  Claim7.holds_tied_plain_at .later [] [.data, .data, .pinned, .pinned, .pinned] true (true, "b7bdcc88622df1b6957a478cd7f706f99f776bcb4d926f44a6b8d5a4f47ea66c") false row_holds (fun _ h => by cases h) (by kernel_rfl) (fun _ h => by cases h) charsKnown_row_tie rfl ⟨rfl, rfl⟩ (by kernel_rfl) rfl
    (fun f fn hf hfn => by
      obtain rfl : f = 3 := Option.some.inj ((show Tryd.prog.funcNamed Rows.charsKnownRow.func = some 3 by kernel_rfl).symm.trans hf) |>.symm
      obtain rfl : fn = Tryd.f3 := (Option.some.inj (Tryd.func3.symm.trans hfn)).symm
      exact ⟨by kernel_rfl, fun j t ht => by
        rw [Tryd.params3] at ht
        simp at ht⟩)
    (by kernel_rfl)
#print axioms proved
end YtbhkeboldklodaaDoor.charsKnown
end Go.Proofs
