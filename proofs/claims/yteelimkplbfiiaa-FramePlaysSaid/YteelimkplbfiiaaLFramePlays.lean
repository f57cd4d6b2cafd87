/- The statement 'FramePlays' (first form: every argument): for every input the law's call returns true and leaves what it was given as it was; no further condition. -/
import Derived.Test.YteelimkplbfiiaaRows
import Derived.WalkKit
import Derived.ProofKit
import Derived.OpenShut
import Derived.Deep.DeepHandedRow
import Derived.LaidLaws
import Derived.Test.YteelimkplbfiiaaFrameLaw
import Derived.Test.YteelimkplbfiiaaCallsO
namespace Go.Proofs.Yteelimkplbfiiaa.framePlays
open Go.ChangeShapes Go.WideShapes Go.ChangeAt Go.RowKit
set_option linter.unusedVariables false

theorem own : ownKnob Try.prog.godebug = none := by kernel_rfl
theorem noNum : Go.Pg.NoNum Try.prog := by unfold Go.Pg.NoNum; kernel_rfl
theorem mixed : Try.prog.follows .mixedOrders = true := by kernel_rfl
theorem laidOut : laidOutB Try.prog = true := by kernel_rfl
theorem lastGlobal : (Try.prog.globals.size == 0 || (((begin Try.prog (fun _ _ => 0) default).world.heap[Try.prog.globals.size - 1]?).bind Obj.row?).isSome) = true := by kernel_rfl

theorem walk (W : World) (hG : Try.prog.globals.size ≤ W.heap.size) (a0 : Int) (w0 : (Lit.int .i64 a0).wf = true) (p1 : Option Addr) (c1 : Nat) (l1 : List (Go.Pg.Sh.D Go.Pg.shAct)) (v1 : Value) (vr1 : Go.Pg.VR Go.Pg.noInj W.heap.size (.slice p1 l1.length c1) v1) (rd1 : Go.Pg.RdR (Go.Pg.oldS W) 6 Go.Pg.shAct p1 l1) (ok1 : (Go.Pg.Sh.row 6 Go.Pg.shAct).ok l1) (a2 : Int) (w2 : (Lit.int .i64 a2).wf = true) :
    Calls Try.prog 6 #[.int .i64 a0, v1, .int .i64 a2] W fun e w' => e = .returned (.bool true) ∧ Below W.heap.size W w' :=
  Go.Pg.law_calls' (old := Go.Pg.oldS W) (args := [.int .i64 a0, .slice p1 l1.length c1, .int .i64 a2]) noNum mixed hG (Go.Pg.OvOK.cons (calls_ov noNum) Go.Pg.OvOK.none) Go.Pg.oldS_ok
    (.cons (.int _ _) (.cons vr1 (.cons (.int _ _) .nil))) (Go.Pg.framePlays_law a0 w0 p1 c1 l1 a2 w2 (Go.Pg.oldS W) rd1 ok1 Go.Pg.oldS_Q)

set_option maxRecDepth 100000 in
theorem contract (H : Type) (enc : TypeId × Value → H) (W : World) (base : Nat) (args : Array Value) (ds gs : List (DataW H)) (before : List MemPlace)
    (hval : ∀ (j : Nat) t v, Try.f6.params[j]? = some t → args[j]? = some v → Value.okWide Try.prog W .any base t v)
    (hW : DataW.Whole enc Try.prog Try.f6.params.toList Rows.framePlaysSpec.vars false W args.toList ds gs before) (hS : W.ShapedOpen Try.prog) :
    Calls Try.prog 6 args W fun e W' => ∃ v, e = .returned v ∧ Rows.framePlaysSpec.post enc Try.prog Try.f6 false true false false W args v W' := by
  have hG := Go.Pg.globals_le hS lastGlobal
  have hW' := hW
  have hlt : ∀ x ∈ before, x.block < W.heap.size := fun x hx => hW'.lt x hx
  obtain ⟨p, q, hA0, hV, rfl, hfz, hnd⟩ := hW
  have hA : DataW.TrodAll enc Try.prog W 0 (fun _ => true) true Try.f6.params.toList args.toList ds p := hA0
  have hall : ∀ t ∈ Try.f6.params.toList, Try.prog.readableRec t = true ∧ t < Try.prog.types.size := by
    have h : (Try.f6.params.toList.all fun t => Try.prog.readableRec t && decide (t < Try.prog.types.size)) = true := by kernel_rfl
    intro t ht
    have := List.all_eq_true.1 h t ht
    simpa using this
  rw [Try.params6] at hA hval
  obtain ⟨v0, vs0, d0, ds0, p0, q0, hargs, rfl, rfl, h0, r0⟩ := trodAll_cons hA
  obtain ⟨v1, vs1, d1, ds1, p1, q1, rfl, rfl, rfl, h1, r1⟩ := trodAll_cons r0
  obtain ⟨v2, vs2, d2, ds2, p2, q2, rfl, rfl, rfl, h2, r2⟩ := trodAll_cons r1
  obtain ⟨rfl, rfl, rfl⟩ := trodAll_nil r2
  obtain rfl : args = #[v0, v1, v2] := by cases args; simp_all
  obtain ⟨rfl, rfl⟩ := trodVars_none hV
  obtain ⟨a0, rfl, rfl, rfl, w0⟩ := open_int Try.underlying3 (hval 0 3 v0 rfl rfl) h0
  obtain ⟨sp1, sc1, sl1, svr1, srd1, sok1⟩ := Go.Pg.arg_row (c := 6) (s := Go.Pg.shAct) (by kernel_rfl) (hval 1 43 v1 rfl rfl) h1
  obtain ⟨a2, rfl, rfl, rfl, w2⟩ := open_int Try.underlying3 (hval 2 3 v2 rfl rfl) h2
  simp only [List.append_nil] at hW' hlt
  refine (walk W hG a0 w0 sp1 sc1 sl1 v1 svr1 srd1 sok1 a2 w2).mono fun e W' ⟨he, hg⟩ => ?_
  subst he
  exact ⟨_, rfl, Go.Pg.post_of_below (pv := []) hW' (fun _ _ _ => (trodAll_cons_mk (shut_bool Try.underlying4 _) trodAll_mk0)) (fun sp hsp => Go.Pg.trodAll_stays laidOut hall hA0 hg (fun x hx => hlt x (by first | (simp at hx; done) | simpa using hx)) sp (fun x hx => hsp x (by first | (simp at hx; done) | simpa using hx))) (fun _ _ => rfl) (by simp)
    hg (ok_one (by kernel_rfl) rfl (okWide_bool_mk Try.underlying4 _))⟩

noncomputable def emptyWorld (os : Os) : World := World.holding Try.prog os ⟨#[], #[], []⟩
theorem laid_met (os : Os) : laidMet Try.prog Rows.framePlaysRow.laid ((emptyWorld os).forCall (fun _ _ => 0) ⟨#[], #[.int .i64 0, .slice none 0 0, .int .i64 0], []⟩).memory :=
  laidMet_of_run' 8 (by kernel_rfl) (by kernel_rfl)
theorem reads (os : Os) {H : Type} (enc : TypeId × Value → H) : ∃ places, DataW.whole enc Try.prog ((emptyWorld os).forCall (fun _ _ => 0) ⟨#[], #[.int .i64 0, .slice none 0 0, .int .i64 0], []⟩).memory Try.f6.params.toList Rows.framePlaysSpec.vars false (#[.int .i64 0, .slice none 0 0, .int .i64 0] : Array Value).toList 8 = some ([.lit (.int .i64 0), .nil, .lit (.int .i64 0)], [], places) :=
  ⟨[], by kernel_rfl⟩

set_option maxRecDepth 100000 in
theorem lifted (os : Os) (started : os.Started) (H : Type) (enc : TypeId × Value → H) (F : Stop.Interp) :
    ReturnsInHanded {} Try.checked os 6 .any ((OpenSpec.ofChange Rows.framePlaysSpec).preRow enc Try.prog Try.f6 Rows.framePlaysRow.domain false Rows.framePlaysRow.laid) (((OpenSpec.ofChange Rows.framePlaysSpec).at F).post enc Try.prog Try.f6 false true false false) := by
  obtain ⟨places, hx⟩ := reads os enc
  refine returnsInHanded_of_row (C := Try.checked) (s := (OpenSpec.ofChange Rows.framePlaysSpec)) own started (by kernel_rfl) Try.func6
    (witness_row_at (enc := enc) (C := Try.checked) false (emptyWorld os) #[.int .i64 0, .slice none 0 0, .int .i64 0] rfl (by kernel_rfl) (by kernel_rfl) (by kernel_rfl)
      (OpenSpec.preRow_of_cond 8 hx (by kernel_rfl) (fun k hk => by cases hk) (by kernel_rfl) (laid_met os))) ?_
  intro W base args ds gs before hval hW _ _ _ _ hS _
  exact contract H enc W base args ds gs before hval hW hS

theorem proved : Rows.FramePlaysSaid :=
  OpenClaim.holds_of_cond 6 Try.f6 rfl rfl rfl rfl rfl rfl rfl ⟨rfl, rfl, rfl, rfl, rfl⟩ rfl rfl rfl rfl rfl (by kernel_rfl) Try.func6 (by kernel_rfl)
    (of_decide_eq_true (by kernel_rfl)) (by unfold Func.isWrapper; first | (rw [if_pos (by decide +kernel)]; kernel_rfl) | (rw [if_neg (by decide +kernel)]; exact ⟨rfl, rfl⟩))
    (fun os started H enc _ F => by rw [OpenClaim.pre_eq_preRow]; exact lifted os started H enc F)
#print axioms proved
end Go.Proofs.Yteelimkplbfiiaa.framePlays
