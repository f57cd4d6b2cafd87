/- A part of the card of the law: its facts and its walk. -/
import Derived.Test.YtaebddgepicjpaaGreatDoorTie
import Derived.Test.YtaebddgepicjpaaGreatDoorCards
import Derived.WalkKit
import Derived.ProofKit
import Derived.OpenShut
import Derived.Deep.DeepHandedRow
import Derived.Shelf.Unicode.PredsPay
import Derived.PinnedBridge
import Derived.Lay
import Derived.LaidOnce
import Derived.SevenTiedAt
import Derived.Test.YtaebddgepicjpaaGreatDoorP20
namespace Go.Proofs
open Go.RowKit Go.Shelf Go.Lib
namespace YtaebddgepicjpaaGreatDoor.topStarve
open Go.ChangeShapes Go.WideShapes Go.ChangeAt
set_option linter.unusedVariables false
theorem own : ownKnob Tryz.prog.godebug = none := by kernel_rfl
theorem noNum : Go.Pg.NoNum Tryz.prog := by unfold Go.Pg.NoNum; kernel_rfl
theorem mixed : Tryz.prog.follows .mixedOrders = true := by kernel_rfl
theorem lastGlobal : (Tryz.prog.globals.size == 0 || (((begin Tryz.prog (fun _ _ => 0) default).world.heap[Tryz.prog.globals.size - 1]?).bind Obj.row?).isSome) = true := by kernel_rfl

theorem xL : RExtra Tryz.prog Tryz.laysLetter_ren := ⟨by kernel_rfl, by kernel_rfl, by kernel_rfl, by kernel_rfl, by kernel_rfl, by kernel_rfl, by kernel_rfl, by kernel_rfl⟩
theorem xU : RExtra Tryz.prog Tryz.laysUpper_ren := ⟨by kernel_rfl, by kernel_rfl, by kernel_rfl, by kernel_rfl, by kernel_rfl, by kernel_rfl, by kernel_rfl, by kernel_rfl⟩
theorem facts (W : World) (hG : Tryz.prog.globals.size ≤ W.heap.size) (hL : laidMet Tryz.prog Rows.topStarveRow.laid W) : Go.Pg.Ground Tryz.prog W Go.Pg.ovE (Go.Pg.tabOld Go.Pg.tabsD) := by
  have t0 : TabIs Tryz.prog W ((Rows.topStarveRow.laid.map (·.1)).getD 0 "") .u8 (Go.Pg.numsD Rows.laid_math_bits_deBruijn32tab) := Go.Pg.tabIs_of_reads (g := 6) (t := 481) (e := 5) (n := 32) (by kernel_rfl) (by kernel_rfl) (by kernel_rfl) (by kernel_rfl) (by kernel_rfl) (by kernel_rfl) (by kernel_rfl) (Lib.laidMet.reads hL (.head _))
  have t1 : TabIs Tryz.prog W ((Rows.topStarveRow.laid.map (·.1)).getD 1 "") .u8 (Go.Pg.numsD Rows.laid_math_bits_deBruijn64tab) := Go.Pg.tabIs_of_reads (g := 7) (t := 482) (e := 5) (n := 64) (by kernel_rfl) (by kernel_rfl) (by kernel_rfl) (by kernel_rfl) (by kernel_rfl) (by kernel_rfl) (by kernel_rfl) (Lib.laidMet.reads hL (.tail _ (.head _)))
  have t2 : TabIs Tryz.prog W ((Rows.topStarveRow.laid.map (·.1)).getD 2 "") .u64 (Go.Pg.numsD Rows.laid_internal_strconv_uint64pow10) := Go.Pg.tabIs_of_reads (g := 5) (t := 466) (e := 88) (n := 20) (by kernel_rfl) (by kernel_rfl) (by kernel_rfl) (by kernel_rfl) (by kernel_rfl) (by kernel_rfl) (by kernel_rfl) (Lib.laidMet.reads hL (.tail _ (.tail _ (.head _))))
  have t3 : TabIs Tryz.prog W "unicode.properties" .u8 (Go.Pg.numsD Rows.laid_unicode_properties) := Go.Pg.tabIs_of_reads (g := 0) (t := 408) (e := 5) (n := 256) (by kernel_rfl) (by kernel_rfl) (by kernel_rfl) (by kernel_rfl) (by kernel_rfl) (by kernel_rfl) (by kernel_rfl) (Lib.laidMet.reads hL (.tail _ (.tail _ (.tail _ (.tail _ (.head _))))))
  have tp : TabIs Tryz.prog W "unicode.properties" .u8 propertiesTab := (show Go.Pg.numsD Rows.laid_unicode_properties = propertiesTab by kernel_rfl) ▸ t3
  have vL : RVar (Tryz.laysLetter_ren.g 8) letterT W := rvar_of_reads { Tryz.laysLetter with } xL (by kernel_rfl) (by kernel_rfl) ((show Rows.laid_unicode_Letter = rtabData letterT from Pinned.letter_eq) ▸ Lib.laidMet.reads hL (.tail _ (.tail _ (.tail _ (.tail _ (.tail _ (.head _)))))))
  have vU : RVar (Tryz.laysUpper_ren.g 9) upperT W := rvar_of_reads { Tryz.laysUpper with } xU (by kernel_rfl) (by kernel_rfl) ((show Rows.laid_unicode_Upper = rtabData upperT from Pinned.upper_eq) ▸ Lib.laidMet.reads hL (.tail _ (.tail _ (.tail _ (.tail _ (.tail _ (.tail _ (.head _))))))))
  have g0 : Go.Pg.Ground Tryz.prog W (fun _ => none) (Go.Pg.tabOld Go.Pg.tabsD) := Go.Pg.Ground.tabs (by
    intro x hx
    simp only [List.mem_cons, List.mem_nil_iff, or_false] at hx
    rcases hx with rfl | rfl | rfl | rfl
    · exact Go.Pg.tab_cells t0 (by kernel_rfl) (Nat.lt_of_lt_of_le (show 6 < Tryz.prog.globals.size by decide +kernel) hG)
    · exact Go.Pg.tab_cells t1 (by kernel_rfl) (Nat.lt_of_lt_of_le (show 7 < Tryz.prog.globals.size by decide +kernel) hG)
    · exact Go.Pg.tab_cells t2 (by kernel_rfl) (Nat.lt_of_lt_of_le (show 5 < Tryz.prog.globals.size by decide +kernel) hG)
    · exact Go.Pg.tab_cells t3 (by kernel_rfl) (Nat.lt_of_lt_of_le (show 0 < Tryz.prog.globals.size by decide +kernel) hG))
  have gU := Go.Pg.Ground.cons noNum (Go.Pg.upper_ok Tryz.laysUpper ⟨_, _, Tryz.func287, rfl⟩ (by kernel_rfl) tp vU) g0
  have gL := Go.Pg.Ground.cons noNum (Go.Pg.letter_ok Tryz.laysLetter ⟨_, _, Tryz.func225, rfl⟩ (by kernel_rfl) tp vL) gU
  have gX302 : Go.Pg.Ground Tryz.prog W (fun k => bif Nat.beq k 302 then some Go.Pg.copyG else _) _ := fun W1 hb1 => ⟨Go.Pg.OvOK.cons (YtaebddgepicjpaaGreatDoor.copy_ov noNum) (gL W1 hb1).1, (gL W1 hb1).2⟩
  have gX257 : Go.Pg.Ground Tryz.prog W (fun k => bif Nat.beq k 257 then some Go.Pg.sortedK else _) _ := fun W1 hb1 => ⟨Go.Pg.OvOK.cons (YtaebddgepicjpaaGreatDoor.sorted_ov noNum) (gX302 W1 hb1).1, (gX302 W1 hb1).2⟩
  have gX289 : Go.Pg.Ground Tryz.prog W (fun k => bif Nat.beq k 289 then some Go.Pg.copiedG else _) _ := fun W1 hb1 => ⟨Go.Pg.OvOK.cons (YtaebddgepicjpaaGreatDoor.copied_ov noNum) (gX257 W1 hb1).1, (gX257 W1 hb1).2⟩
  have gX240 : Go.Pg.Ground Tryz.prog W (fun k => bif Nat.beq k 240 then some Go.Pg.unifyG else _) _ := fun W1 hb1 => ⟨Go.Pg.OvOK.cons (YtaebddgepicjpaaGreatDoor.unify_ov noNum mixed (Nat.le_trans hG hb1.size)) (gX289 W1 hb1).1, (gX289 W1 hb1).2⟩
  exact Go.Pg.Ground.cons noNum (Go.Pg.PureOK.tab noNum mixed hG gX240 Go.Pg.TAB_ok ⟨_, _, Tryz.func158, rfl⟩ 100000 Go.Pg.chkL (by kernel_rfl) Go.Pg.chk_all) gX240

theorem walk (W : World) (hG : Tryz.prog.globals.size ≤ W.heap.size) (hL : laidMet Tryz.prog Rows.topStarveRow.laid W) (p0 : Option Addr) (c0 : Nat) (l0 : List (Go.Pg.Sh.D (Go.Pg.Sh.int .i64))) (v0 : Value) (vr0 : Go.Pg.VR Go.Pg.noInj W.heap.size (.slice p0 l0.length c0) v0) (rd0 : Go.Pg.RdR (Go.Pg.oldS W) 1 (Go.Pg.Sh.int .i64) p0 l0) (ok0 : (Go.Pg.Sh.row 1 (Go.Pg.Sh.int .i64)).ok l0) :
    Calls Tryz.prog 3 #[v0] W fun e w' => e = .returned (.bool true) ∧ Below W.heap.size W w' :=
  by
  have hF := (facts W hG hL) W (Below.refl _ _)
  have heq := Go.Pg.unO_eq (l := Go.Pg.tabsD) hF.2
  exact Go.Pg.law_calls' (old := Go.Pg.unO Go.Pg.tabsD (Go.Pg.oldS W)) (args := [.slice p0 l0.length c0]) noNum mixed hG hF.1 (by rw [heq]; exact Go.Pg.oldS_ok) (.cons vr0 .nil) (Go.Pg.topStarve_law p0 c0 l0 (Go.Pg.oldS W) (by rw [heq]; exact rd0) ok0 (Go.Pg.vr_spot vr0))

end YtaebddgepicjpaaGreatDoor.topStarve
end Go.Proofs
