/- Layer 5: what copied computes, as an act of the small semantics. -/
import Derived.Test.YtoilldfibaeokaaDoorPg3
namespace Go.Pg
/-- A type's cells. -/
def isTy : Value → Bool
  | .agg cs => match cs.toList with
    | [.int .i64 _, .string _, .int .i64 _, .slice _ _ _] => true
    | _ => false
  | _ => false
/-- Variables and what they stand for, each variable once. -/
def tyEnts : List (Value × Value) → Bool
  | [] => true
  | (k, v) :: r => (match k with
    | .int .i64 n => decide (-9223372036854775808 ≤ n) && decide (n ≤ 9223372036854775807) && isTy v && r.all (fun p => !keyIs .i64 n p)
    | _ => false) && tyEnts r
def copiedG : List Value → Act := fun args σ => match args with
  | [.pointer (some a)] => match σ.rdN a 2 with
    | some [.int .i64 nx, .map (some r)] => match σ.getMap r with
      | some es => bif tyEnts es && Nat.ble es.length 100000 then some (.pointer (some ⟨σ.n + 1, 0, some 0⟩), (σ.push (.map es)).newBlk [.int .i64 nx, .map (some σ.n)] 0) else none
      | none => none
    | _ => none
  | _ => none

theorem tyEnts_inv : ∀ {es : List (Value × Value)}, tyEnts es = true → (∀ p ∈ es, (∃ n : Int, p.1 = .int .i64 n ∧ -9223372036854775808 ≤ n ∧ n ≤ 9223372036854775807) ∧ isTy p.2 = true) ∧ KeysApart es
  | [], _ => ⟨(fun p h => by cases h), .i64, (fun p h => by cases h), by simp⟩
  | (k, v) :: r, h => by
    simp only [tyEnts, Bool.and_eq_true] at h
    obtain ⟨h1, h2⟩ := h
    split at h1
    · rename_i n
      simp only [Bool.and_eq_true, decide_eq_true_eq, List.all_eq_true, Bool.not_eq_true'] at h1
      obtain ⟨⟨⟨g1, g2⟩, g3⟩, g4⟩ := h1
      obtain ⟨f1, kd, f2, f3⟩ := tyEnts_inv h2
      have f2' : ∀ p ∈ r, ∃ n : Int, p.1 = .int .i64 n := fun p hp => by
        obtain ⟨⟨n, e, _⟩, _⟩ := f1 p hp
        exact ⟨n, e⟩
      refine ⟨fun p hp => ?_, .i64, fun p hp => ?_, ?_⟩
      · rcases List.mem_cons.1 hp with rfl | hp
        · exact ⟨⟨n, rfl, g1, g2⟩, g3⟩
        · exact f1 p hp
      · rcases List.mem_cons.1 hp with rfl | hp
        · exact ⟨n, rfl⟩
        · exact f2' p hp
      · simp only [List.map_cons, List.nodup_cons, List.mem_map, not_exists, not_and]
        refine ⟨fun p hp e => ?_, f3⟩
        have := g4 p hp
        unfold keyIs at this
        rw [e] at this
        simp at this
    · cases h1
end Go.Pg
