/- Layer 5: awake behind what the laws have made by then; how large texts and rows can be. -/
import Derived.Test.YtoilldfibaeokaaDoorTyY
import Derived.Test.YtoilldfibaeokaaDoorTyL
import Derived.Test.YtoilldfibaeokaaDoorTabF
namespace Go.Pg
open Go.Proofs Go.Lib

def heapR (σ : AHeap) : Option (Value × AHeap) → AHeap
  | some (_, σ') => σ'
  | none => σ
theorem WpF.tabH {P : Program} {ov : Ov} {tab : Tab} (ht : TabOK P tab) {f : FuncId} {args : List Value} {σ : AHeap} {old : Addr → Option Value} (n : Nat) (h : goodR (execTab ov tab n f args σ) = true) (ho : oldR old (execTab ov tab n f args σ) = old) {Q : AHeap → Prop} (hQ : Q (heapR σ (execTab ov tab n f args σ))) :
    WpF P ov f args σ fun v σ' => v = .bool true ∧ σ'.old = old ∧ Fresh σ' ∧ Q σ' := by
  cases hx : execTab ov tab n f args σ with
  | none => rw [hx] at h; cases h
  | some r =>
    obtain ⟨v, σ'⟩ := r
    rw [hx] at h ho hQ
    refine ⟨v, σ', EvF.tab ht n hx, ?_⟩
    unfold goodR at h
    split at h
    · rename_i heq
      simp only [Option.some.injEq, Prod.mk.injEq] at heq
      obtain ⟨rfl, rfl⟩ := heq
      simp only [Bool.and_eq_true, Nat.ble_eq] at h
      exact ⟨by rw [h.1], ho, (fun j hj => Tri.bnd_ok _ _ (Nat.le_trans h.2 hj)), hQ⟩
    · cases h

theorem ovL_T : OvT ovL := fun f h1 h2 h3 => by
  have e1 : Nat.beq f 12 = false := by rw [Bool.eq_false_iff]; exact fun e => h1 (Nat.eq_of_beq_eq_true e)
  have e2 : Nat.beq f 33 = false := by rw [Bool.eq_false_iff]; exact fun e => h2 (Nat.eq_of_beq_eq_true e)
  have e3 : Nat.beq f 55 = false := by rw [Bool.eq_false_iff]; exact fun e => h3 (Nat.eq_of_beq_eq_true e)
  simp only [ovL, ovD, e1, e2, e3, cond_false]
theorem ovL_I : ovL 55 = some (ovPure itoaG) := rfl

theorem awake5 (old : Addr → Option Value) (a b : TA) (p q : Option Addr) (n m c d : Nat) :
    WpF PROG ovL 9 [] (((startH (unO tabsD old)).newBlk (tcells a (.slice p n c)) 0).newBlk (tcells b (.slice q m d)) 0) fun v σ' => v = .bool true ∧ σ'.old = unO tabsD old ∧ Fresh σ' ∧ St σ' 0 (tcells a (.slice p n c)) ∧ St σ' 1 (tcells b (.slice q m d)) :=
  WpF.tabH TAB_ok 100000 (by kernel_rfl) (by kernel_rfl) ⟨⟨Nat.le_of_ble_eq_true (by kernel_rfl), by kernel_rfl⟩, ⟨Nat.le_of_ble_eq_true (by kernel_rfl), by kernel_rfl⟩⟩

/-! ### how large -/
abbrev nmA (d : TA × List Value) : ByteArray := d.1.name
theorem fits_strip : ∀ (n : Nat) (u : AT), fitT n (strip u) → Fits nmA n u
  | 0, _, h => h.elim
  | n + 1, .mk d l, h => by
    rw [strip, stripL_map] at h
    obtain ⟨h1, h2, h3⟩ := h
    exact ⟨by simpa [Tr.args] using h1, h2, fun x hx => fits_strip n x (h3 _ (List.mem_map_of_mem hx))⟩
theorem varsM_fit : ∀ (n : Nat) (u : AT) (acc : List Int), Fits nmA n u → (varsM u acc).length ≤ acc.length + 5 ^ n
  | 0, _, _, h => h.elim
  | n + 1, .mk d l, acc, ⟨h1, _, h3⟩ => by
    have key : ∀ (m : List AT) (acc : List Int), (∀ x ∈ m, Fits nmA n x) → (varsL m acc).length ≤ acc.length + m.length * 5 ^ n := by
      intro m
      induction m with
      | nil => intro acc _; rw [varsL]; omega
      | cons a m ih =>
        intro acc h
        rw [varsL]
        have e1 := ih (varsM a acc) fun x hx => h x (by simp [hx])
        have e2 := varsM_fit n a acc (h a (by simp))
        rw [List.length_cons, Nat.add_mul, Nat.one_mul]
        omega
    have hp : 1 ≤ 5 ^ n := Nat.pos_of_ne_zero (by simp)
    have h1' : l.length ≤ 4 := h1
    rw [varsM, Nat.pow_succ]
    split
    · split
      · omega
      · simp only [List.length_append, List.length_singleton]; omega
    · have := key l acc h3
      have : l.length * 5 ^ n ≤ 4 * 5 ^ n := Nat.mul_le_mul_right _ h1'
      omega
theorem showM_fit {nm : Int → List UInt8} (hnm : ∀ v, (nm v).length ≤ 100) : ∀ (n : Nat) (u : AT), Fits nmA n u → (showM nm u).length ≤ 100 * 5 ^ n
  | 0, _, h => h.elim
  | n + 1, .mk d l, ⟨h1, h2, h3⟩ => by
    have hp : 1 ≤ 5 ^ n := Nat.pos_of_ne_zero (by simp)
    have h2' : d.1.name.data.toList.length ≤ 60 := h2
    have h3' : ∀ x ∈ l, (showM nm x).length ≤ 100 * 5 ^ n := fun x hx => showM_fit hnm n x (h3 x hx)
    rw [showM, showL_map, Nat.pow_succ]
    unfold showN
    split
    · have := hnm d.1.var
      omega
    split
    · rename_i h5
      match l, h5.2, h3' with
      | [x, y], _, h3' =>
        have e1 := h3' x (by simp)
        have e2 := h3' y (by simp)
        simp only [List.map_cons, List.map_nil, List.getD_cons_zero, List.getD_cons_succ, List.length_append, List.length_cons, List.length_nil]
        omega
    split
    · rename_i h6
      match l, h6.2, h3' with
      | [x], _, h3' =>
        have e1 := h3' x (by simp)
        simp only [List.map_cons, List.map_nil, List.getD_cons_zero, List.length_append, List.length_cons, List.length_nil]
        omega
    split
    · simp only [List.length_cons, List.length_nil]; omega
    split
    · simp only [List.length_cons, List.length_nil]; omega
    split
    · simp only [List.length_cons, List.length_nil]; omega
    split
    · omega
    · simp only [List.length_nil]; omega
theorem nmOf_len {v : Int} : ∀ (l : List Int) (i : Nat), i + l.length ≤ 1000000 → (nmOf i l v).length ≤ 100
  | [], i, _ => by simp [nmOf]
  | x :: l, i, h => by
    simp only [List.length_cons] at h
    rw [nmOf]
    split
    · unfold letB
      split
      · simp
      · have := dec_len 19 (i + 1) (by omega)
        simp only [List.length_cons]
        omega
    · exact nmOf_len l (i + 1) (by omega)
theorem fit_ok {u : AT} (h : Fits nmA 7 u) : (varsM u []).length ≤ 1000000 ∧ (showM (nmOf 0 (varsM u [])) u).length ≤ 1000000000 := by
  have h1 := varsM_fit 7 u [] h
  simp only [List.length_nil] at h1
  have h2 := showM_fit (nm := nmOf 0 (varsM u [])) (fun v => nmOf_len _ _ (by omega)) 7 u h
  omega
theorem lev7 : lev 7 = 64 := rfl
end Go.Pg
