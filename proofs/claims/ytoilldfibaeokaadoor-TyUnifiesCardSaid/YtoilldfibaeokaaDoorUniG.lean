/- Layer 5: what Unify computes, as an act of the small semantics. -/
import Derived.Test.YtoilldfibaeokaaDoorTyE
import Derived.Test.YtoilldfibaeokaaDoorCopG
namespace Go.Pg
open Go.Proofs

def visB (σ : AHeap) (x : Addr) : Bool := x.spot.isNone || Nat.blt x.block σ.n
/-- A row of types, read. -/
def readL (f : List Value → Option AT) (σ : AHeap) (x : Addr) : Nat → Nat → Option (List AT)
  | 0, _ => some []
  | m + 1, i => match σ.rdN (aadd x (i * 4)) 4 with
    | some cs => match f cs with
      | some t => match readL f σ x m (i + 1) with
        | some l => some (t :: l)
        | none => none
      | none => none
    | none => none
/-- A type, read through and through. -/
def readT (σ : AHeap) : Nat → List Value → Option AT
  | 0, _ => none
  | k + 1, cs => match cs with
    | [.int .i64 kd, .string s, .int .i64 n, .slice p len cap] => bif Nat.ble len 1000 then (match len with
        | 0 => some (.mk (⟨kd, s, n⟩, [.int .i64 kd, .string s, .int .i64 n, .slice p 0 cap]) [])
        | m + 1 => match p with
          | some x => bif visB σ x then (match readL (readT σ k) σ x (m + 1) 0 with
            | some l => some (.mk (⟨kd, s, n⟩, [.int .i64 kd, .string s, .int .i64 n, .slice (some x) (m + 1) cap]) l)
            | none => none) else none
          | none => none) else none
    | _ => none
def readS (σ : AHeap) (k : Nat) : List (Value × Value) → Option SubL
  | [] => some []
  | (a, b) :: r => match a with
    | .int .i64 v => match b with
      | .agg cs => match readT σ k cs.toList with
        | some t => match readS σ k r with
          | some S => some ((v, t) :: S)
          | none => none
        | none => none
      | _ => none
    | _ => none
def allSmall (k : Nat) (S : SubL) : SubL → Option Bool
  | [] => some true
  | (v, _) :: r => match smallM k S (varT v) with
    | some a => match allSmall k S r with
      | some b => some (a && b)
      | none => none
    | none => none
abbrev UF : Nat := 10000000
def unifyG : List Value → Act := fun args σ => match args with
  | [.pointer (some a), .agg ca, .agg cb] => match readT σ UF ca.toList with
    | some x => match readT σ UF cb.toList with
      | some y => bif goodM x && goodM y then (match σ.rdN a 2 with
        | some [.int .i64 _, .map (some r)] => match σ.getMap r with
          | some es => bif tyEnts es && Nat.ble es.length 100000 then (match readS σ UF es with
            | some S => match oneM UF S x y with
              | some (e, S') => bif decide (e = 0) then (bif tyEnts (esOf S') && Nat.ble S'.length 100000 then (match allSmall UF S' S' with
                | some true => (match stC (aadd a 1) [.map (some σ.n)] (σ.push (.map (esOf S'))) with
                  | some (_, σ') => some (.int .i64 0, σ')
                  | none => none)
                | some false => some (.int .i64 2, σ)
                | none => none) else none) else some (.int .i64 e, σ)
              | none => none
            | none => none) else none
          | none => none
        | _ => none) else some (.int .i64 1, σ)
      | none => none
    | none => none
  | _ => none

theorem bif_opt {α : Type} {c : Bool} {x : Option α} {t : α} (h : (bif c then x else none) = some t) : c = true ∧ x = some t := by
  cases c
  · cases h
  · exact ⟨rfl, h⟩

section
variable {σ : AHeap}
theorem readL_ok {f : List Value → Option AT} {x : Addr} : ∀ {m i : Nat} {l : List AT}, readL f σ x m i = some l → l.length = m ∧ ∀ j (h : j < l.length), ∃ cs, σ.rdN (aadd x ((i + j) * 4)) 4 = some cs ∧ f cs = some l[j]
  | 0, _, l, h => by
    cases h
    exact ⟨rfl, fun j h => by simp at h⟩
  | m + 1, i, l, h => by
    unfold readL at h
    split at h
    · rename_i cs hcs
      split at h
      · rename_i t ht
        split at h
        · rename_i l' hl
          cases h
          obtain ⟨h1, h2⟩ := readL_ok hl
          refine ⟨by simp [h1], fun j hj => ?_⟩
          cases j with
          | zero => exact ⟨cs, by simpa using hcs, by simpa using ht⟩
          | succ j =>
            obtain ⟨cs', q1, q2⟩ := h2 j (by simpa using hj)
            exact ⟨cs', by rw [show i + (j + 1) = i + 1 + j by omega]; exact q1, by simpa using q2⟩
        · cases h
      · cases h
    · cases h

theorem visB_ok {x : Addr} (h : visB σ x = true) : Vis σ NoB x := by
  unfold visB at h
  rw [Bool.or_eq_true] at h
  rcases h with h | h
  · exact .inl (by simpa using h)
  · exact .inr ⟨by simpa using h, fun h => h⟩

theorem readT_ok : ∀ {k : Nat} {cs : List Value} {t : AT}, readT σ k cs = some t → t.c = cs ∧ AFull σ t
  | 0, _, _, h => by cases h
  | k + 1, cs, t, h => by
    unfold readT at h
    split at h
    · rename_i kd s n p len cap
      replace h := bif_opt h
      obtain ⟨hl, h⟩ := h
      replace hl : len ≤ 1000 := Nat.le_of_ble_eq_true hl
      split at h
      · cases h
        refine ⟨rfl, fun m => ?_⟩
        cases m with
        | zero => exact ⟨Nat.zero_le _, p, cap, rfl⟩
        | succ m => exact ⟨Nat.zero_le _, p, cap, rfl, fun i hi => by simp [Tr.args] at hi⟩
      · rename_i m
        split at h
        · rename_i x
          replace h := bif_opt h
          obtain ⟨hv, h⟩ := h
          split at h
          · rename_i l hr
            cases h
            obtain ⟨h1, h2⟩ := readL_ok hr
            have hlen : l.length ≤ 1000 := by omega
            refine ⟨rfl, fun j => ?_⟩
            cases j with
            | zero => exact ⟨hlen, some x, cap, by simp only [Tr.args, AT.c, Tr.a, tcells, h1]⟩
            | succ j =>
              refine ⟨hlen, some x, cap, by simp only [Tr.args, AT.c, Tr.a, tcells, h1], fun i hi => ?_⟩
              obtain ⟨cs', q1, q2⟩ := h2 i hi
              obtain ⟨e1, e2⟩ := readT_ok q2
              exact ⟨x, cs', rfl, visB_ok hv, by rw [Nat.zero_add] at q1; exact q1, e1.symm, e2 j⟩
          · cases h
        · cases h
    · cases h

theorem readS_ok {k : Nat} : ∀ {es : List (Value × Value)} {S : SubL}, readS σ k es = some S → esOf S = es ∧ ∀ p ∈ S, AFull σ p.2
  | [], S, h => by
    cases h
    exact ⟨rfl, fun p h => by cases h⟩
  | (a, b) :: r, S, h => by
    unfold readS at h
    split at h
    · split at h
      · rename_i cs
        split at h
        · rename_i t ht
          split at h
          · rename_i S' hS
            cases h
            obtain ⟨h1, h2⟩ := readS_ok hS
            obtain ⟨e1, e2⟩ := readT_ok ht
            refine ⟨?_, fun p hp => ?_⟩
            · simp only [esOf, List.map_cons] at h1 ⊢
              rw [h1, e1]
            · rcases List.mem_cons.1 hp with rfl | hp
              · exact e2
              · exact h2 p hp
          · cases h
        · cases h
      · cases h
    · cases h

theorem allSmall_true {k : Nat} {S : SubL} : ∀ {l : SubL}, allSmall k S l = some true → ∀ p ∈ l, smallM k S (varT p.1) = some true
  | [], _, p, hp => by cases hp
  | (v, t) :: r, h, p, hp => by
    unfold allSmall at h
    split at h
    · rename_i a ha
      split at h
      · rename_i b hb
        simp only [Option.some.injEq, Bool.and_eq_true] at h
        obtain ⟨rfl, rfl⟩ := h
        rcases List.mem_cons.1 hp with rfl | hp
        · exact ha
        · exact allSmall_true hb p hp
      · cases h
    · cases h
theorem allSmall_false {k : Nat} {S : SubL} : ∀ {l : SubL}, allSmall k S l = some false → ∃ p ∈ l, smallM k S (varT p.1) = some false
  | [], h => by cases h
  | (v, t) :: r, h => by
    unfold allSmall at h
    split at h
    · rename_i a ha
      split at h
      · rename_i b hb
        simp only [Option.some.injEq] at h
        cases a with
        | false => exact ⟨(v, t), by simp, ha⟩
        | true =>
          simp only [Bool.true_and] at h
          subst h
          obtain ⟨p, hp, e⟩ := allSmall_false hb
          exact ⟨p, by simp [hp], e⟩
      · cases h
    · cases h
theorem allSmall_some {k : Nat} {S : SubL} : ∀ {l : SubL} {w : Bool}, allSmall k S l = some w → ∀ p ∈ l, ∃ u, smallM k S (varT p.1) = some u
  | [], _, _, p, hp => by cases hp
  | (v, t) :: r, w, h, p, hp => by
    unfold allSmall at h
    split at h
    · rename_i a ha
      split at h
      · rename_i b hb
        rcases List.mem_cons.1 hp with rfl | hp
        · exact ⟨a, ha⟩
        · exact allSmall_some hb p hp
      · cases h
    · cases h
end
end Go.Pg
