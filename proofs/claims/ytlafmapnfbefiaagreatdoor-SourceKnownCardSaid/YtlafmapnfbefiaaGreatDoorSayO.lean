/- says, answered by what was computed, or else run. -/
import Derived.Test.YtlafmapnfbefiaaGreatDoorSayB
namespace Go.Pg
open Go.Proofs Go.RowKit
def sayL : List (List Value × Value) := [([.string (bs [108, 101, 116, 32, 114, 101, 99, 32, 102, 32, 120, 32, 61, 32, 105, 102, 32, 120, 32, 60, 32, 49, 32, 116, 104, 101, 110, 32, 48, 32, 101, 108, 115, 101, 32, 120, 32, 43, 32, 102, 32, 40, 120, 32, 45, 32, 49, 41, 32, 105, 110, 32, 102, 32, 49, 48]), .int .i64 1, .int .i64 55], .bool true), ([.string (bs [108, 101, 116, 32, 114, 32, 61, 32, 114, 101, 102, 32, 49, 32, 105, 110, 32, 40, 114, 32, 58, 61, 32, 33, 32, 114, 32, 43, 32, 49, 32, 59, 32, 33, 32, 114, 41]), .int .i64 1, .int .i64 2], .bool true), ([.string (bs [116, 121, 112, 101, 32, 108, 32, 61, 32, 78, 32, 124, 32, 67, 32, 111, 102, 32, 105, 110, 116, 44, 32, 108, 32, 105, 110, 32, 108, 101, 116, 32, 114, 101, 99, 32, 115, 32, 120, 32, 61, 32, 109, 97, 116, 99, 104, 32, 120, 32, 119, 105, 116, 104, 32, 78, 32, 45, 62, 32, 48, 32, 124, 32, 67, 32, 40, 97, 44, 32, 98, 41, 32, 45, 62, 32, 97, 32, 43, 32, 115, 32, 98, 32, 101, 110, 100, 32, 105, 110, 32, 115, 32, 40, 67, 32, 40, 49, 44, 32, 67, 32, 40, 50, 44, 32, 78, 41, 41, 41]), .int .i64 1, .int .i64 3], .bool true), ([.string (bs [40, 102, 117, 110, 32, 120, 32, 45, 62, 32, 102, 117, 110, 32, 121, 32, 45, 62, 32, 120, 32, 45, 32, 121, 41, 32, 53, 32, 51]), .int .i64 1, .int .i64 2], .bool true), ([.string (bs [49, 32, 50]), .int .i64 2, .int .i64 0], .bool true), ([.string (bs [108, 101, 116, 32, 120, 32, 61, 32, 49, 32, 105, 110, 32, 108, 101, 116, 32, 102, 32, 61, 32, 102, 117, 110, 32, 121, 32, 45, 62, 32, 120, 32, 105, 110, 32, 108, 101, 116, 32, 120, 32, 61, 32, 50, 32, 105, 110, 32, 102, 32, 48]), .int .i64 1, .int .i64 1], .bool true)]
theorem say_all : ∀ x ∈ sayL, valOf (execTab ovD TAB 100000 12 (x.1 ++ nils) (startH (tabOld tabsD))) = some x.2 := by
  intro x hx
  simp only [sayL, List.mem_cons, List.mem_nil_iff, or_false] at hx
  rcases hx with rfl | rfl | rfl | rfl | rfl | rfl
  · exact say0
  · exact say1
  · exact say2
  · exact say3
  · exact say4
  · exact say5
/-- What was computed. -/
def sayP : List Value → Option Value
  | [a, b, c, .slice none 0 0, .slice none 0 0] => tabG sayL [a, b, c]
  | _ => none
noncomputable def sayO : List Value → Act := fun args σ => match sayP args with
  | some v => some (v, σ)
  | none => execTab ovD TAB 100000 12 args σ
noncomputable abbrev ovE : Ov := fun k => bif Nat.beq k 12 then some sayO else ovD k

theorem sayP_ok {W : World} (hn : NoNum PROG) (hm : PROG.follows .mixedOrders = true) (hG : PROG.globals.size ≤ W.heap.size) (hgr : Ground PROG W ovD (tabOld tabsD)) (hf : ∃ fn c, PROG.funcs[12]? = some fn ∧ fn.body = some c) : PureOK PROG W 12 sayP where
  body := hf
  says args v hv := by
    unfold sayP at hv
    split at hv
    · rename_i a b c
      have hmem := tabG_mem hv
      have hp : (sayL.all fun x => x.1.all (plainV 0) && plainV 4 x.2) = true := by decide +kernel
      have hpl := List.all_eq_true.1 hp _ hmem
      simp only [Bool.and_eq_true, List.all_eq_true] at hpl
      have hpa : ∀ x ∈ [a, b, c, Value.slice none 0 0, Value.slice none 0 0], plainV 0 x = true := by
        intro x hx
        simp only [List.mem_cons, List.mem_nil_iff, or_false] at hx
        rcases hx with rfl | rfl | rfl | rfl | rfl
        · exact hpl.1 _ (by simp)
        · exact hpl.1 _ (by simp)
        · exact hpl.1 _ (by simp)
        · rfl
        · rfl
      refine ⟨hpa, fun κ B => plain_VR 4 _ hpl.2, fun W' hb => ?_⟩
      obtain ⟨g1, g2⟩ := hgr W' hb
      refine calls_plain hn hm (Nat.le_trans hG hb.size) g1 g2 hpa hpl.2 ?_
      have h1 := say_all _ hmem
      have e : [a, b, c] ++ nils = [a, b, c, Value.slice none 0 0, Value.slice none 0 0] := rfl
      rw [e] at h1
      cases hx : execTab ovD TAB 100000 12 [a, b, c, Value.slice none 0 0, Value.slice none 0 0] (startH (tabOld tabsD)) with
      | none => rw [hx] at h1; cases h1
      | some r =>
        obtain ⟨v', σ'⟩ := r
        rw [hx] at h1
        cases h1
        exact ⟨σ', EvF.tab TAB_ok 100000 hx⟩
    · cases hv

theorem sayO_ov {W : World} (hn : NoNum PROG) (hm : PROG.follows .mixedOrders = true) (hG : PROG.globals.size ≤ W.heap.size) (hov : OvOK PROG W ovD) (hp : PureOK PROG W 12 sayP) :
    ∀ args σ v σ', sayO args σ = some (v, σ') → ∀ (ι : Inj) (W' : World) (args' : Array Value), Rel ι W σ W' → VRL ι W.heap.size args args'.toList →
    (callFunc 12 args').run PROG W' = .ok (.enter 12 args') W' ∧ Calls PROG 12 args' W' fun e w' => ∃ v' κ, e = .returned v' ∧ ι.le κ ∧ VR κ W.heap.size v v' ∧ Rel κ W σ' w' := by
  intro args σ v σ' h ι W' args' R hA
  unfold sayO at h
  cases hs : sayP args with
  | some u =>
    rw [hs] at h
    have h2 : ovPure sayP args σ = some (v, σ') := by
      unfold ovPure
      rw [hs]
      exact h
    exact PureOK.ov hn hp args σ v σ' h2 ι W' args' R hA
  | none =>
    rw [hs] at h
    obtain ⟨m, hm2⟩ := execTab_fn (P := PROG) TAB_ok 100000 12 args σ _ h
    exact execFn_sound (fast := false) hn hm hG hov m 12 args σ v σ' (hm2 m (Nat.le_refl _)) ι W' args' R hA
end Go.Pg
