/- Layer 5: types as trees with their cells; what variables stand for; the program's functions as plain ones. -/
import Derived.Test.YtoilldfibaeokaaDoorTre
namespace Go.Pg
open Go.Proofs

structure TA where
  kind : Int
  name : ByteArray
  var : Int
abbrev tcells (a : TA) (s : Value) : List Value := [.int .i64 a.kind, .string a.name, .int .i64 a.var, s]
/-- A type, each node with its cells. -/
abbrev AT := Tr (TA × List Value)
abbrev AT.c (t : AT) : List Value := t.a.2
abbrev AT.k (t : AT) : Int := t.a.1.kind
abbrev AT.v (t : AT) : Int := t.a.1.var
abbrev AT.nm (t : AT) : ByteArray := t.a.1.name

def AIn (σ : AHeap) : Nat → AT → Prop
  | 0, t => t.args.length ≤ 1000 ∧ ∃ p cap, t.c = tcells t.a.1 (.slice p t.args.length cap)
  | n + 1, t => t.args.length ≤ 1000 ∧ ∃ p cap, t.c = tcells t.a.1 (.slice p t.args.length cap) ∧ RowOf σ NoB 4 (fun cs (u : AT) => cs = u.c ∧ AIn σ n u) p t.args
/-- The type stands in the heap, through and through. -/
def AFull (σ : AHeap) (t : AT) : Prop := ∀ n, AIn σ n t

/-- Only maps are changed. -/
def Maps (σ : AHeap) (S : Nat → Prop) : Prop := ∀ j, S j → ∃ es, σ.get j = some (.map es)

section
variable {σ σ' : AHeap} {S : Nat → Prop}
theorem rdN_keepM {x : Addr} {n k : Nat} {cs : List Value} (f : Frm σ σ' S) (hS : Maps σ S) (hv : Vis σ NoB x) (h : σ.rdN (aadd x k) n = some cs) : σ'.rdN (aadd x k) n = some cs := by
  obtain ⟨b, o, s⟩ := x
  cases s with
  | none =>
    unfold AHeap.rdN aadd at h ⊢
    simp only [f.old]
    exact h
  | some s =>
    rcases hv with h' | ⟨h1, _⟩
    · cases h'
    simp only at h1
    have hns : ¬ S b := fun hs => by
      obtain ⟨es, he⟩ := hS b hs
      unfold AHeap.rdN aadd at h
      simp only [he] at h
      cases h
    exact (rdN_get (f.get b h1 hns)).trans h
theorem RowOf.stepM {β : Type} {c : Nat} {R R' : List Value → β → Prop} {p : Option Addr} {ts : List β} (f : Frm σ σ' S) (hS : Maps σ S) (hR : ∀ cs t, R cs t → R' cs t) (h : RowOf σ NoB c R p ts) : RowOf σ' NoB c R' p ts := by
  intro i hi
  obtain ⟨x, cs, h1, h2, h3, h4⟩ := h i hi
  exact ⟨x, cs, h1, h2.step f fun _ _ h => h, rdN_keepM f hS h2 h3, hR _ _ h4⟩
theorem AIn.stepM (f : Frm σ σ' S) (hS : Maps σ S) : ∀ {n : Nat} {t : AT}, AIn σ n t → AIn σ' n t
  | 0, _, h => h
  | _ + 1, _, ⟨hl, p, cap, h1, h2⟩ => ⟨hl, p, cap, h1, h2.stepM f hS fun _ _ h => ⟨h.1, AIn.stepM f hS h.2⟩⟩
theorem AFull.stepM (f : Frm σ σ' S) (hS : Maps σ S) {t : AT} (h : AFull σ t) : AFull σ' t := fun n => (h n).stepM f hS
theorem Maps.none : Maps σ NoB := fun _ h => h.elim
theorem AFull.frm (f : Frm σ σ' NoB) {t : AT} (h : AFull σ t) : AFull σ' t := h.stepM f Maps.none

theorem AFull.row {t : AT} (h : AFull σ t) : ∃ p cap, t.c = tcells t.a.1 (.slice p t.args.length cap) ∧ RowOf σ NoB 4 (fun cs (u : AT) => cs = u.c ∧ AFull σ u) p t.args := by
  obtain ⟨_, p, cap, h1, h2⟩ := h 1
  refine ⟨p, cap, h1, fun i hi => ?_⟩
  obtain ⟨x, cs, q1, q2, q3, q4, _⟩ := h2 i hi
  refine ⟨x, cs, q1, q2, q3, q4, fun n => ?_⟩
  obtain ⟨_, p', cap', h1', h2'⟩ := h (n + 1)
  obtain ⟨_, _, _, _, _, _, q⟩ := h2' i hi
  exact q
theorem AFull.cells {t : AT} (h : AFull σ t) : ∃ p cap, t.c = tcells t.a.1 (.slice p t.args.length cap) := (h 0).2
theorem AFull.len {t : AT} (h : AFull σ t) : t.args.length ≤ 1000 := (h 0).1
theorem AFull.arg {t u : AT} (h : AFull σ t) (hu : u ∈ t.args) : AFull σ u := by
  obtain ⟨p, cap, _, hr⟩ := h.row
  obtain ⟨i, hi, rfl⟩ := List.mem_iff_getElem.1 hu
  obtain ⟨_, _, _, _, _, _, q⟩ := hr i hi
  exact q
end

/-! ### the program's functions -/
abbrev SubL := List (Int × AT)
def lookS : SubL → Int → Option AT
  | [], _ => none
  | (k, t) :: r, v => if v = k then some t else lookS r v
def setS : SubL → Int → AT → SubL
  | [], v, x => [(v, x)]
  | (k, t) :: r, v, x => if v = k then (v, x) :: r else (k, t) :: setS r v x
abbrev esOf (S : SubL) : List (Value × Value) := S.map fun p => (.int .i64 p.1, .agg p.2.c.toArray)
def varT (n : Int) : AT := .mk (⟨7, bs [], n⟩, tcells ⟨7, bs [], n⟩ (.slice none 0 0)) []

def headM : Nat → SubL → AT → Option AT
  | 0, _, _ => none
  | k + 1, S, t => if t.k = 7 then (match lookS S t.v with
    | none => some t
    | some x => headM k S x) else some t
def sizeM : Nat → SubL → AT → Int → Option Int
  | 0, _, _, _ => none
  | k + 1, S, t, n => match headM k S t with
    | none => none
    | some h => (h.args.foldl (fun acc a => match acc with
      | none => none
      | some m => if m > 500 then some m else sizeM k S a m) (some (n + 1))).map (minV · 501)
def smallM (k : Nat) (S : SubL) (t : AT) : Option Bool := (sizeM k S t 0).map fun n => decide (n ≤ 500)
def withinM : Nat → SubL → Int → AT → List Int → Option (Bool × List Int)
  | 0, _, _, _, _ => none
  | k + 1, S, v, t, seen =>
    if t.k = 7 then
      if seen.any (· == t.v) then some (false, seen)
      else if t.v = v then some (true, seen ++ [t.v])
      else match lookS S t.v with
        | none => some (false, seen ++ [t.v])
        | some x => withinM k S v x (seen ++ [t.v])
    else t.args.foldl (fun acc a => match acc with
      | none => none
      | some (true, sn) => some (true, sn)
      | some (false, sn) => withinM k S v a sn) (some (false, seen))
def bindM (k : Nat) (S : SubL) (v : Int) (t : AT) : Option (Int × SubL) := match withinM k S v t [] with
  | none => none
  | some (true, _) => some (5, S)
  | some (false, _) => some (0, setS S v t)
/-- The arguments, one pair behind the other. -/
def pairsM (f : SubL → AT → AT → Option (Int × SubL)) : SubL → List AT → List AT → Option (Int × SubL)
  | S, [], _ => some (0, S)
  | _, _ :: _, [] => none
  | S, a :: l, b :: m => match f S a b with
    | none => none
    | some (e, S') => if e = 0 then pairsM f S' l m else some (e, S')
def oneM : Nat → SubL → AT → AT → Option (Int × SubL)
  | 0, _, _, _ => none
  | k + 1, S, a, b => match smallM k S a with
    | none => none
    | some false => some (2, S)
    | some true => match smallM k S b with
      | none => none
      | some false => some (2, S)
      | some true => match headM k S a, headM k S b with
        | some x, some y =>
          if x.k = 7 then
            (if y.k = 7 then (if x.v = y.v then some (0, S) else some (0, setS S (maxV x.v y.v) (varT (minV x.v y.v)))) else bindM k S x.v y)
          else if y.k = 7 then bindM k S y.v x
          else if x.k = y.k then (if x.nm.toList = y.nm.toList then pairsM (oneM k) S x.args y.args else some (5, S)) else some (5, S)
        | _, _ => none

/-! ### in the heap -/
theorem find_esOf (v : Int) : ∀ S : SubL, mapFind (.int .i64) (.int .i64 v) (esOf S) = some ((lookS S v).map fun t => .agg t.c.toArray)
  | [] => rfl
  | (k, t) :: r => by
    simp only [esOf, List.map_cons, mapFind, same_int_of, lookS]
    by_cases h : v = k
    · subst h
      simp
    · have : (v == k) = false := by simpa using h
      simp only [this, if_neg h]
      exact find_esOf v r
theorem set_esOf (v : Int) (x : AT) : ∀ S : SubL, mapSet (.int .i64) (.int .i64 v) (.agg x.c.toArray) (esOf S) = some (esOf (setS S v x))
  | [] => rfl
  | (k, t) :: r => by
    simp only [esOf, List.map_cons, mapSet, same_int_of, setS]
    by_cases h : v = k
    · subst h
      simp
    · have : (v == k) = false := by simpa using h
      simp only [this, if_neg h]
      have := set_esOf v x r
      simp only [esOf] at this
      rw [this]
      rfl
theorem lookS_mem {v : Int} {t : AT} : ∀ {S : SubL}, lookS S v = some t → (v, t) ∈ S
  | (k, u) :: r, h => by
    simp only [lookS] at h
    by_cases e : v = k
    · subst e
      rw [if_pos rfl] at h
      cases h
      simp
    · rw [if_neg e] at h
      simp [lookS_mem h]
theorem setS_mem {v : Int} {x : AT} : ∀ {S : SubL} {p : Int × AT}, p ∈ setS S v x → p = (v, x) ∨ p ∈ S
  | [], p, h => by simpa [setS] using h
  | (k, u) :: r, p, h => by
    simp only [setS] at h
    by_cases e : v = k
    · rw [if_pos e] at h
      rcases List.mem_cons.1 h with h | h
      · exact .inl h
      · exact .inr (by simp [h])
    · rw [if_neg e] at h
      rcases List.mem_cons.1 h with h | h
      · exact .inr (by simp [h])
      · rcases setS_mem h with h | h
        · exact .inl h
        · exact .inr (by simp [h])

/-- What variables stand for, in the heap: the struct's block b, the map's r. -/
structure SubIn (σ : AHeap) (b r : Nat) (nx : Int) (S : SubL) : Prop where
  st : St σ b [.int .i64 nx, .map (some r)]
  lt : r < σ.n
  map : σ.getMap r = some (esOf S)
  full : ∀ p ∈ S, AFull σ p.2
theorem SubIn.stepM {σ σ' : AHeap} {b r : Nat} {nx : Int} {S : SubL} {T : Nat → Prop} (f : Frm σ σ' T) (hT : Maps σ T) (hr : ¬ T r) (h : SubIn σ b r nx S) : SubIn σ' b r nx S := by
  have hb : ¬ T b := fun hb => by
    obtain ⟨es, he⟩ := hT b hb
    rw [h.st.2] at he
    cases he
  exact ⟨f.st h.st hb, Nat.lt_of_lt_of_le h.lt f.n, by
    have := h.map
    unfold AHeap.getMap at this ⊢
    rw [f.get r h.lt hr]
    exact this, fun p hp => (h.full p hp).stepM f hT⟩
theorem SubIn.frm {σ σ' : AHeap} {b r : Nat} {nx : Int} {S : SubL} (f : Frm σ σ' NoB) (h : SubIn σ b r nx S) : SubIn σ' b r nx S := h.stepM f Maps.none fun h => h
/-- The map may be written. -/
structure SubW (σ : AHeap) (b r : Nat) (nx : Int) (S : SubL) : Prop where
  sub : SubIn σ b r nx S
  map : σ.get r = some (.map (esOf S))
section
variable {σ σ' : AHeap} {b r : Nat} {nx : Int} {S : SubL}
theorem SubW.of (h1 : St σ b [.int .i64 nx, .map (some r)]) (h2 : r < σ.n) (h3 : σ.get r = some (.map (esOf S))) (h4 : ∀ p ∈ S, AFull σ p.2) : SubW σ b r nx S := ⟨⟨h1, h2, by simp [AHeap.getMap, h3], h4⟩, h3⟩
theorem SubW.st (h : SubW σ b r nx S) : St σ b [.int .i64 nx, .map (some r)] := h.sub.st
theorem SubW.lt (h : SubW σ b r nx S) : r < σ.n := h.sub.lt
theorem SubW.full (h : SubW σ b r nx S) : ∀ p ∈ S, AFull σ p.2 := h.sub.full
theorem SubW.stepM {T : Nat → Prop} (f : Frm σ σ' T) (hT : Maps σ T) (hr : ¬ T r) (h : SubW σ b r nx S) : SubW σ' b r nx S := ⟨h.sub.stepM f hT hr, by rw [f.get r h.lt hr]; exact h.map⟩
theorem SubW.frm (f : Frm σ σ' NoB) (h : SubW σ b r nx S) : SubW σ' b r nx S := h.stepM f Maps.none fun h => h
theorem SubW.isMap (h : SubW σ b r nx S) : Maps σ (· = r) := fun _j hj => ⟨_, hj ▸ h.map⟩
end
end Go.Pg
