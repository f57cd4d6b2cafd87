/- Layer 9: a value as a text: what the document says, as a function; numbers' digits; what a type's name stands for. -/
import Derived.Test.YtlpebjohofhbgaaDoorValD
import Derived.Lib.ItoaLen
namespace Go.Pg
open Go.Proofs Go.Lib

theorem bs_data (l : List UInt8) : (bs l).data.toList = l := rfl
theorem bs_self (s : ByteArray) : bs s.data.toList = s := rfl
theorem bs_size (l : List UInt8) : (bs l).size = l.length := rfl
theorem bs_app (l m : List UInt8) : bs l ++ bs m = bs (l ++ m) := by
  have : (bs l ++ bs m).data.toList = (bs (l ++ m)).data.toList := by simp [bs]
  rw [← bs_self (bs l ++ bs m), this]
  rfl

/-- What a type's name stands for. -/
def nmT (s : ByteArray) : Tr TA :=
  if s.toList == (bs [105, 110, 116]).toList then .mk ⟨1, bs [], 0⟩ [] else if s.toList == (bs [98, 111, 111, 108]).toList then .mk ⟨2, bs [], 0⟩ [] else if s.toList == (bs [117, 110, 105, 116]).toList then .mk ⟨3, bs [], 0⟩ [] else .mk ⟨4, s, 0⟩ []
def fitsM (k : Int) : Int := if k = 1 then 1 else if k = 2 then 2 else if k = 3 then 3 else if k = 4 then 4 else if k = 5 then 5 else if k = 6 then 6 else 0

/-- What is in a constructor's value, each as a text. -/
def argL (f : Tr VA → Tr TA → List UInt8) : List (Tr VA) → List ByteArray → List (List UInt8)
  | [], _ => []
  | _ :: vl, [] => [63] :: argL f vl []
  | a :: vl, s :: ss => f a (nmT s) :: argL f vl ss
theorem argL_len (f : Tr VA → Tr TA → List UInt8) : ∀ (vl : List (Tr VA)) (ss : List ByteArray), (argL f vl ss).length = vl.length
  | [], _ => rfl
  | _ :: vl, [] => by simp [argL, argL_len f vl []]
  | _ :: vl, _ :: ss => by simp [argL, argL_len f vl ss]
theorem argL_get (f : Tr VA → Tr TA → List UInt8) : ∀ (vl : List (Tr VA)) (ss : List ByteArray) (i : Nat) (h : i < vl.length), (argL f vl ss)[i]? = some (match ss[i]? with
    | some s => f vl[i] (nmT s)
    | none => [63])
  | _ :: _, [], 0, _ => rfl
  | _ :: _, _ :: _, 0, _ => rfl
  | _ :: vl, [], i + 1, h => by
    have := argL_get f vl [] i (by simpa using h)
    simpa [argL] using this
  | _ :: vl, _ :: ss, i + 1, h => by
    have := argL_get f vl ss i (by simpa using h)
    simpa [argL] using this

abbrev ConsL := List (ByteArray × List ByteArray)
def consOf : ConsL → ByteArray → List ByteArray
  | [], _ => []
  | c :: cs, s => if c.1.toList == s.toList then c.2 else consOf cs s

section
variable (cells : List (Tr VA)) (cons : ConsL)
/-- A value as a text. -/
def renM : Nat → Tr VA → Tr TA → List UInt8
  | 0, _, _ => [46, 46]
  | k + 1, v, t =>
    if t.a.kind = 7 then [60, 112, 111, 108, 121, 62] else if v.a.kind ≠ fitsM t.a.kind then [63]
    else if v.a.kind = 1 then itoa v.a.n else if v.a.kind = 2 then (if v.a.n = 1 then [116, 114, 117, 101] else [102, 97, 108, 115, 101])
    else if v.a.kind = 3 then [40, 41] else if v.a.kind = 5 then [60, 102, 117, 110, 62]
    else if v.a.kind = 6 then [114, 101, 102, 32] ++ (match t.args with
      | [u] => if h : 0 ≤ v.a.loc ∧ v.a.loc < cells.length then renM k (cells[v.a.loc.toNat]'(by omega)) u else [63]
      | _ => [63])
    else if v.a.kind = 4 then (if 0 < v.args.length then v.a.name.data.toList ++ [32, 40] ++ join (argL (renM k) v.args (consOf cons v.a.name)) [44, 32] ++ [41] else v.a.name.data.toList)
    else [63]
end

theorem nmT_args (s : ByteArray) : (nmT s).args = [] := by
  unfold nmT
  split
  · rfl
  split
  · rfl
  split <;> rfl

theorem itoa_le {n : Int} (h : i64r n) : (itoa n).length ≤ 21 := itoa_length_le n h.1 h.2

theorem join_le {xs : List (List UInt8)} {b : Nat} (h : ∀ x ∈ xs, x.length ≤ b) : (join xs [44, 32]).length ≤ xs.length * (b + 2) := by
  cases xs with
  | nil => simp [join]
  | cons x r =>
    rw [join_length]
    have hl : ∀ {l : List (List UInt8)}, (∀ x ∈ l, x.length ≤ b) → lens l ≤ l.length * b := by
      intro l
      induction l with
      | nil => intro _; simp [lens]
      | cons y l ih =>
        intro h
        have h1 := ih fun z hz => h z (by simp [hz])
        have h2 := h y (by simp)
        simp only [lens, List.map_cons, List.sum_cons, List.length_cons, Nat.add_mul, Nat.one_mul] at h1 ⊢
        omega
    have := hl h
    simp only [List.length_cons, List.length_nil, Nat.add_mul, Nat.mul_add] at this ⊢
    omega

/-- Whose numbers are within bounds. -/
def inR : Nat → Tr VA → Prop
  | 0, _ => True
  | n + 1, t => i64r t.a.n ∧ ∀ x ∈ t.args, inR n x
theorem VIn.inR {L : Lay VA} (hL : ∀ a, L.ok a → i64r a.n) {σ : AHeap} {Y : Nat → Prop} : ∀ {n : Nat} {cs : List Value} {t : Tr VA}, VIn L σ Y n cs t → Go.Pg.inR n t
  | 0, _, _, _ => trivial
  | n + 1, _, t, ⟨ho, _, p, _, _, hr⟩ => by
    refine ⟨hL _ ho, fun x hx => ?_⟩
    obtain ⟨i, hi, rfl⟩ := List.mem_iff_getElem.1 hx
    obtain ⟨_, _, _, _, _, h⟩ := hr i hi
    exact VIn.inR hL h

theorem argL_le {f : Tr VA → Tr TA → List UInt8} {b : Nat} (hb : 1 ≤ b) : ∀ (vl : List (Tr VA)) (ss : List ByteArray), (∀ a ∈ vl, ∀ s, (f a (nmT s)).length ≤ b) → ∀ x ∈ argL f vl ss, x.length ≤ b
  | [], _, _, x, h => by cases h
  | a :: vl, [], hf, x, h => by
    simp only [argL, List.mem_cons] at h
    rcases h with rfl | h
    · exact hb
    · exact argL_le hb vl [] (fun a ha => hf a (by simp [ha])) x h
  | a :: vl, s :: ss, hf, x, h => by
    simp only [argL, List.mem_cons] at h
    rcases h with rfl | h
    · exact hf a (by simp) s
    · exact argL_le hb vl ss (fun a ha => hf a (by simp [ha])) x h

/-- By a type that has nothing in it. -/
theorem ren_flat (cells : List (Tr VA)) (cons : ConsL) : ∀ (k n : Nat) (v : Tr VA) (t : Tr TA), fitV n v → inR n v → t.args = [] → (renM cells cons k v t).length ≤ 100 * 5 ^ n := by
  intro k
  induction k with
  | zero =>
    intro n v t hv _ _
    have : 1 ≤ 5 ^ n := Nat.one_le_pow _ _ (by decide)
    simp [renM]
    omega
  | succ k ih =>
    intro n v t hv hi ht
    cases n with
    | zero => exact hv.elim
    | succ n =>
      have h5 : 1 ≤ 5 ^ n := Nat.one_le_pow _ _ (by decide)
      have e5 : 5 ^ (n + 1) = 5 ^ n * 5 := Nat.pow_succ _ _
      obtain ⟨h4, h60, hfit⟩ := hv
      obtain ⟨hr, hri⟩ := hi
      have h21 := itoa_le hr
      have hn : v.a.name.data.toList.length ≤ 60 := by simpa using h60
      unfold renM
      rw [ht]
      dsimp only
      repeat' split
      all_goals first | (simp; omega) | skip
      have hj := join_le (argL_le (f := renM cells cons k) (b := 100 * 5 ^ n) (by omega) v.args (consOf cons v.a.name) fun a ha s => ih n a (nmT s) (hfit a ha) (hri a ha) (nmT_args s))
      rw [argL_len] at hj
      have h44 : v.args.length * (100 * 5 ^ n + 2) ≤ 4 * (100 * 5 ^ n + 2) := Nat.mul_le_mul_right _ h4
      simp only [List.length_append, List.length_cons, List.length_nil]
      omega

/-- By any type. -/
theorem ren_len (cells : List (Tr VA)) (cons : ConsL) (hc : ∀ c ∈ cells, fitV 7 c ∧ inR 7 c) : ∀ (k n m : Nat) (v : Tr VA) (t : Tr TA), n ≤ 7 → fitV n v → inR n v → fitT m t → (renM cells cons k v t).length ≤ 8000000 + 4 * m := by
  intro k
  induction k with
  | zero =>
    intro n m v t _ _ _ _
    simp [renM]
    omega
  | succ k ih =>
    intro n m v t hn7 hv hi ht
    cases n with
    | zero => exact hv.elim
    | succ n =>
      obtain ⟨h4, h60, hfit⟩ := hv
      obtain ⟨hr, hri⟩ := hi
      have h21 := itoa_le hr
      have hn : v.a.name.data.toList.length ≤ 60 := by simpa using h60
      unfold renM
      repeat' split
      all_goals first | (simp; omega) | skip
      · rename_i u hu h
        cases m with
        | zero => exact ht.elim
        | succ m =>
          have hu' : fitT m u := ht.2.2 u (by rw [hu]; simp)
          have hcm := hc (cells[v.a.loc.toNat]'(by omega)) (List.getElem_mem _)
          have := ih 7 m _ u (Nat.le_refl _) hcm.1 hcm.2 hu'
          simp only [List.length_append, List.length_cons, List.length_nil]
          omega
      · have h5 : 5 ^ n ≤ 5 ^ 6 := Nat.pow_le_pow_right (by decide) (by omega)
        have h51 : 1 ≤ 5 ^ n := Nat.one_le_pow _ _ (by decide)
        have hj := join_le (argL_le (f := renM cells cons k) (b := 100 * 5 ^ n) (by omega) v.args (consOf cons v.a.name) fun a ha s => ren_flat cells cons k n a (nmT s) (hfit a ha) (hri a ha) (nmT_args s))
        rw [argL_len] at hj
        have h44 : v.args.length * (100 * 5 ^ n + 2) ≤ 4 * (100 * 5 ^ n + 2) := Nat.mul_le_mul_right _ h4
        have e56 : 5 ^ 6 = 15625 := by decide
        rw [e56] at h5
        simp only [List.length_append, List.length_cons, List.length_nil]
        omega
end Go.Pg
