/- The card of the law 'SourceAgain': for every input its call returns true and leaves what it was given as it was; no further condition. -/
import Derived.Test.YtkbefekajgfldaaGreatDoorTie
import Derived.Test.YtkbefekajgfldaaGreatDoorCards
import Derived.WalkKit
import Derived.ProofKit
import Derived.OpenShut
import Derived.Deep.DeepHandedRow
import Derived.Shelf.Unicode.PredsPay
import Derived.PinnedBridge
import Derived.Lay
import Derived.LaidOnce
import Derived.SevenTiedAt
import Derived.Test.YtkbefekajgfldaaGreatDoorU8
namespace Go.Proofs
open Go.RowKit Go.Shelf Go.Lib
namespace YtkbefekajgfldaaGreatDoor.sourceAgain
open Go.ChangeShapes Go.WideShapes Go.ChangeAt
set_option linter.unusedVariables false
theorem own : ownKnob Tryz.prog.godebug = none := by kernel_rfl
theorem noNum : Go.Pg.uH Tryz.prog := by unfold Go.Pg.uH; kernel_rfl
theorem mixed : Tryz.prog.follows .mixedOrders = true := by kernel_rfl
theorem lastGlobal : (Tryz.prog.globals.size == 0 || (((begin Tryz.prog (fun _ _ => 0) default).world.heap[Tryz.prog.globals.size - 1]?).bind Obj.row?).isSome) = true := by kernel_rfl

theorem xL : RExtra Tryz.prog Tryz.laysLetter_ren := ⟨by kernel_rfl, by kernel_rfl, by kernel_rfl, by kernel_rfl, by kernel_rfl, by kernel_rfl, by kernel_rfl, by kernel_rfl⟩
theorem xU : RExtra Tryz.prog Tryz.laysUpper_ren := ⟨by kernel_rfl, by kernel_rfl, by kernel_rfl, by kernel_rfl, by kernel_rfl, by kernel_rfl, by kernel_rfl, by kernel_rfl⟩
theorem xD : U8Extra Tryz.prog Tryz.laysDecode_ren := ⟨by kernel_rfl, by kernel_rfl, by kernel_rfl, by kernel_rfl, by kernel_rfl, by kernel_rfl, by kernel_rfl⟩
theorem facts (W : World) (hG : Tryz.prog.globals.size ≤ W.heap.size) (hL : laidMet Tryz.prog Rows.sourceAgainRow.laid W) : Go.Pg.Ground Tryz.prog W Go.Pg.ovD (Go.Pg.mD Go.Pg.uz) := by
  have t0 : TabIs Tryz.prog W "unicode.properties" .u8 (Go.Pg.numsD Rows.laid_unicode_properties) := Go.Pg.xd (g := 0) (t := 183) (e := 5) (n := 256) (by kernel_rfl) (by kernel_rfl) (by kernel_rfl) (by kernel_rfl) (by kernel_rfl) (by kernel_rfl) (by kernel_rfl) (Lib.laidMet.reads hL (.tail _ (.head _)))
  have tp : TabIs Tryz.prog W "unicode.properties" .u8 propertiesTab := (show Go.Pg.numsD Rows.laid_unicode_properties = propertiesTab by kernel_rfl) ▸ t0
  have vL : RVar (Tryz.laysLetter_ren.g 8) letterT W := rvar_of_reads { Tryz.laysLetter with } xL (by kernel_rfl) (by kernel_rfl) ((show Rows.laid_unicode_Letter = rtabData letterT from Pinned.letter_eq) ▸ Lib.laidMet.reads hL (.tail _ (.tail _ (.head _))))
  have vU : RVar (Tryz.laysUpper_ren.g 9) upperT W := rvar_of_reads { Tryz.laysUpper with } xU (by kernel_rfl) (by kernel_rfl) ((show Rows.laid_unicode_Upper = rtabData upperT from Pinned.upper_eq) ▸ Lib.laidMet.reads hL (.tail _ (.tail _ (.tail _ (.head _)))))
  have g0 : Go.Pg.Ground Tryz.prog W (fun _ => none) (Go.Pg.mD Go.Pg.uz) := Go.Pg.Ground.tabs (by
    intro x hx
    simp only [List.mem_cons, List.mem_nil_iff, or_false] at hx
    rcases hx with rfl
    · exact Go.Pg.tab_cells t0 (by kernel_rfl) (Nat.lt_of_lt_of_le (show 0 < Tryz.prog.globals.size by decide +kernel) hG))
  have gU := Go.Pg.Ground.cons noNum (Go.Pg.upper_ok Tryz.laysUpper ⟨_, _, Tryz.func94, rfl⟩ (by kernel_rfl) tp vU) g0
  have gL := Go.Pg.Ground.cons noNum (Go.Pg.letter_ok Tryz.laysLetter ⟨_, _, Tryz.func92, rfl⟩ (by kernel_rfl) tp vL) gU
  have tD : Utf8Tabs (Tryz.laysDecode_ren.g 3) (Tryz.laysDecode_ren.g 4) W := utf8Tabs_of_reads { Tryz.laysDecode with } xD ((show Rows.laid_unicode_utf8_first = firstData by kernel_rfl) ▸ Lib.laidMet.reads hL (.tail _ (.tail _ (.tail _ (.tail _ (.head _)))))) ((show Rows.laid_unicode_utf8_acceptRanges = acceptData by kernel_rfl) ▸ Lib.laidMet.reads hL (.head _))
  have gD := Go.Pg.Ground.cons noNum (Go.Pg.decode_ok Tryz.laysDecode ⟨_, _, Tryz.func131, rfl⟩ tD) gL
  exact gD

theorem walk (W : World) (hG : Tryz.prog.globals.size ≤ W.heap.size) (hL : laidMet Tryz.prog Rows.sourceAgainRow.laid W) (s0 : ByteArray) (hs0 : s0.size ≤ maxLen) (p1 : Option Addr) (c1 : Nat) (l1 : List (Go.Pg.Sh.D (Go.Pg.Sh.int .i64))) (v1 : Value) (vr1 : Go.Pg.VR Go.Pg.ql W.heap.size (.slice p1 l1.length c1) v1) (rd1 : Go.Pg.RdR (Go.Pg.nY W) 1 (Go.Pg.Sh.int .i64) p1 l1) (ok1 : (Go.Pg.Sh.row 1 (Go.Pg.Sh.int .i64)).ok l1) (a2 : Int) (w2 : (Lit.int .i64 a2).wf = true) :
    Calls Tryz.prog 6 #[.string s0, v1, .int .i64 a2] W fun e w' => e = .returned (.bool true) ∧ Below W.heap.size W w' :=
  by
  have hF := (facts W hG hL) W (Below.refl _ _)
  have heq := Go.Pg.unO_eq (l := Go.Pg.uz) hF.2
  exact Go.Pg.law_calls' (old := Go.Pg.unO Go.Pg.uz (Go.Pg.nY W)) (args := [.string s0, .slice p1 l1.length c1, .int .i64 a2]) noNum mixed hG hF.1 (by rw [heq]; exact Go.Pg.oldS_ok) (.cons (.string _) (.cons vr1 (.cons (.int _ _) .nil))) (Go.Pg.xS s0 hs0 p1 c1 l1 a2 w2 (Go.Pg.nY W) (by rw [heq]; exact rd1) ok1 (Go.Pg.vr_spot vr1))
theorem laidOut : laidOutB Tryz.prog = true := by kernel_rfl

set_option maxRecDepth 100000 in
theorem contract (H : Type) (enc : TypeId × Value → H) (W : World) (base : Nat) (args : Array Value) (ds gs : List (DataW H)) (before : List MemPlace)
    (hval : ∀ (j : Nat) t v, Tryz.f6.params[j]? = some t → args[j]? = some v → Value.okWide Tryz.prog W .any base t v)
    (hW : DataW.Whole enc Tryz.prog Tryz.f6.params.toList Rows.sourceAgainSpec.vars false W args.toList ds gs before) (hS : W.ShapedOpen Tryz.prog) (hL : laidMetH Tryz.prog Rows.sourceAgainRow.laid W) :
    Calls Tryz.prog 6 args W fun e W' => ∃ v, e = .returned v ∧ Rows.sourceAgainSpec.post enc Tryz.prog Tryz.f6 false true false false W args v W' := by
  have hG := Go.Pg.globals_le hS lastGlobal
  rw [MakeChecks.laidMetH_plain _ _ _ (by kernel_rfl)] at hL
  have hW' := hW
  have hlt : ∀ x ∈ before, x.block < W.heap.size := fun x hx => hW'.lt x hx
  obtain ⟨p, q, hA0, hV, rfl, hfz, hnd⟩ := hW
  have hA : DataW.TrodAll enc Tryz.prog W 0 (fun _ => true) true Tryz.f6.params.toList args.toList ds p := hA0
  have hall : ∀ t ∈ Tryz.f6.params.toList, Tryz.prog.readableRec t = true ∧ t < Tryz.prog.types.size := by
    have h : (Tryz.f6.params.toList.all fun t => Tryz.prog.readableRec t && decide (t < Tryz.prog.types.size)) = true := by kernel_rfl
    intro t ht
    have := List.all_eq_true.1 h t ht
    simpa using this
  rw [Tryz.params6] at hA hval
  obtain ⟨v0, vs0, d0, ds0, p0, q0, hargs, rfl, rfl, h0, r0⟩ := trodAll_cons hA
  obtain ⟨v1, vs1, d1, ds1, p1, q1, rfl, rfl, rfl, h1, r1⟩ := trodAll_cons r0
  obtain ⟨v2, vs2, d2, ds2, p2, q2, rfl, rfl, rfl, h2, r2⟩ := trodAll_cons r1
  obtain ⟨rfl, rfl, rfl⟩ := trodAll_nil r2
  obtain rfl : args = #[v0, v1, v2] := by cases args; simp_all
  obtain ⟨rfl, rfl⟩ := trodVars_none hV
  obtain ⟨s0, rfl, hs0, _⟩ := Go.Pg.arg_string Tryz.underlying9 (hval 0 9 v0 rfl rfl) h0
  obtain ⟨sp1, sc1, sl1, svr1, srd1, sok1⟩ := Go.Pg.arg_row (c := 1) (s := (Go.Pg.Sh.int .i64)) (by kernel_rfl) (hval 1 22 v1 rfl rfl) h1
  obtain ⟨a2, rfl, rfl, rfl, w2⟩ := open_int Tryz.underlying2 (hval 2 2 v2 rfl rfl) h2
  simp only [List.append_nil] at hW' hlt
  refine (walk W hG hL s0 hs0 sp1 sc1 sl1 v1 svr1 srd1 sok1 a2 w2).mono fun e W' ⟨he, hg⟩ => ?_
  subst he
  exact ⟨_, rfl, Go.Pg.zm (pv := []) hW' (fun _ _ _ => (trodAll_cons_mk (shut_bool Tryz.underlying4 _) trodAll_mk0)) (fun sp hsp => Go.Pg.rP laidOut hall hA0 hg (fun x hx => hlt x (by simpa using hx)) sp (fun x hx => hsp x (by simpa using hx))) (fun _ _ => rfl) (by simp)
    hg (ok_one (by kernel_rfl) rfl (okWide_bool_mk Tryz.underlying4 _))⟩


set_option maxRecDepth 100000 in
theorem lifted (os : Os) (started : os.Started) (H : Type) (enc : TypeId × Value → H) (F : Stop.Interp) :
    ReturnsInHanded {} Tryz.checked os 6 .any ((OpenSpec.ofChange Rows.sourceAgainSpec).preRow enc Tryz.prog Tryz.f6 Rows.sourceAgainRow.domain false Rows.sourceAgainRow.laid) (((OpenSpec.ofChange Rows.sourceAgainSpec).at F).post enc Tryz.prog Tryz.f6 false true false false) := by
  refine returnsInHanded_of_row (C := Tryz.checked) (s := OpenSpec.ofChange Rows.sourceAgainSpec) own started (by kernel_rfl) Tryz.func6
    (Go.Pg.sV (C := Tryz.checked) (World.laidAll Tryz.prog os Rows.sourceAgainRow.laid) #[.string ByteArray.empty, .slice none 0 0, .int .i64 0] (World.laidAll_os _ _ _) (World.shaped_of_ZipB (by kernel_rfl) (by kernel_rfl)) (by kernel_rfl)
      (OpenSpec.preRow_of_cond 8 (x := ([.lit (.string []), .nil, .lit (.int .i64 0)], [], [])) (by kernel_rfl) (by kernel_rfl) (fun k hk => by cases hk) (by kernel_rfl)
        (by rw [MakeChecks.laidMetH_plain _ _ _ (by kernel_rfl)]; exact laidMet_laidAll _ (by kernel_rfl) (by kernel_rfl)))) ?_
  intro W base args ds gs before hval hW _ _ _ hL hS _
  exact contract H enc W base args ds gs before hval hW hS hL

theorem row_holds : Rows.SourceAgainSaid :=
  OpenClaim.holds_of_cond 6 Tryz.f6 rfl rfl rfl rfl rfl rfl rfl ⟨rfl, rfl, rfl, rfl, rfl⟩ rfl rfl rfl rfl rfl (by kernel_rfl) Tryz.func6 (by kernel_rfl)
    (of_decide_eq_true (by kernel_rfl)) (by unfold Func.isWrapper; first | (rw [if_pos (by decide +kernel)]; kernel_rfl) | (rw [if_neg (by decide +kernel)]; exact ⟨rfl, rfl⟩))
    (fun os started H enc _ F => by rw [OpenClaim.pre_eq_preRow]; exact lifted os started H enc F)

theorem proved : Rows.SourceAgainCardSaid :=
  Claim7.holds_tied_plain_at .later [] [.data, .data, .pinned, .pinned, .pinned] true (true, "c237c75fac097ca490b5955a9db80de1a6744cc98750253ab0adc08e24e00d75") false row_holds (fun _ h => by cases h) (by kernel_rfl) (fun _ h => by cases h) sourceAgain_row_tie rfl ⟨rfl, rfl⟩ (by kernel_rfl) rfl
    (fun f fn hf hfn => by
      obtain rfl : f = 6 := Option.some.inj ((show Tryz.prog.funcNamed Rows.sourceAgainRow.func = some 6 by kernel_rfl).symm.trans hf) |>.symm
      obtain rfl : fn = Tryz.f6 := (Option.some.inj (Tryz.func6.symm.trans hfn)).symm
      exact ⟨by kernel_rfl, fun j t ht => by
        rw [Tryz.params6] at ht
        have hm : t ∈ ([9, 22, 2] : List TypeId) := by simpa using Array.mem_of_getElem? ht
        have hall : (([9, 22, 2] : List TypeId).all fun u => !Tryz.prog.wantsStandIn u) = true := by kernel_rfl
        exact (show Tryz.prog.wantsStandIn t = false by simpa using List.all_eq_true.1 hall t hm)⟩)
    (by kernel_rfl)
#print axioms proved
end YtkbefekajgfldaaGreatDoor.sourceAgain
end Go.Proofs
