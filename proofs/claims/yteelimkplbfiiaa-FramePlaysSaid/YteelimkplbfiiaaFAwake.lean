/- Layer 17: awake. -/
import Derived.Test.YteelimkplbfiiaaFrame3
namespace Go.Pg
open Go.Proofs
theorem num_five : (orI .u64 (shlI .u64 (wu64 5) 1) 1) = 11 := by decide +kernel
theorem ev_num5 (σ : AHeap) : EvF PROG ov0 22 [.int .i64 5] σ (.int .u64 11) σ := by
  refine EvF.of (T22_eq _) rfl ?_
  rw [T22, wp_ret, num_five]
  exact ⟨rfl, rfl⟩

theorem wp_awake17 (σ : AHeap) {Q : Value → AHeap → Prop} (hQ : ∀ σ', Frm σ σ' NoB → Q (.bool true) σ') : WpF PROG ov0 7 [] σ Q := by
  refine WpF.of T7_eq rfl ?_
  rw [T7, wp_call]
  refine wp_newK (Y := fun i => i < σ.n) 100 (by omega) (fun i hi => hi) fun σ1 hF1 h1 => ?_
  simp only [asTuple_tuple, asCons_cons, asPtr_ptr, asInt_int, asNil_nil]
  rw [wp_bif, if_neg (by simp), wp_call]
  refine wp_pushK h1 7 8 2 (by simp [tot]) fun σ2 hF2 h2 => ?_
  simp only [asInt_int]
  rw [wp_call, WpF.eq (ev_num5 _), asInt_int, wp_call]
  refine wp_addK h2 (by simp [tot, fsz]) 11 fun σ3 hF3 h3 => ?_
  simp only [asInt_int]
  rw [wp_call]
  refine wp_popK h3 fun σ4 hF4 h4 => ?_
  simp only [asTuple_tuple, asCons_cons, asInt_int, asNil_nil]
  rw [wp_call, WpF.eq (ev_take_none h4)]
  simp only [asTuple_tuple, asCons_cons, asInt_int, asNil_nil]
  rw [wp_join, wp_bif, if_pos (by rfl), wp_call, WpF.eq (ev_depthK h4), asInt_int, wp_ret]
  simp only [T7k0, sw_same, asCons_cons, asBool_bool, asNil_nil]
  rw [wp_ret]
  have hF := (((hF1.fresh hF2 fun j hj h => h hj).fresh hF3 fun j hj h => h hj).fresh hF4 fun j hj h => h hj)
  exact ⟨_, rfl, hQ _ hF⟩
end Go.Pg
