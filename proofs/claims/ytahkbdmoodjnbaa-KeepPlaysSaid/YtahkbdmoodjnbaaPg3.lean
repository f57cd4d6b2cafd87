/- A small semantics of the model's code, shown sound against the model: part 3. -/
import Derived.Test.YtahkbdmoodjnbaaPg2
import Derived.Lib.LaidTab
import Derived.Lib.LaidU8
import Derived.LaidLaws
import Derived.Stop.Joined
import Derived.ChangeSlices
import Derived.WideKeyArgs
import Derived.OpenShut

namespace Go.Pg

theorem wu64_eq (n : Int) : wu64 n = n % 18446744073709551616 := by simp [wu64, IntKind.wrap, IntKind.bits, IntKind.signed]
theorem wu32_eq (n : Int) : wu32 n = n % 4294967296 := by simp [wu32, IntKind.wrap, IntKind.bits, IntKind.signed]
theorem wu8_eq (n : Int) : wu8 n = n % 256 := by simp [wu8, IntKind.wrap, IntKind.bits, IntKind.signed]
theorem wi64_eq (n : Int) : wi64 n = (n + 9223372036854775808) % 18446744073709551616 - 9223372036854775808 := by
  exact IntKind.wrap_i64 n
theorem wi32_eq (n : Int) : wi32 n = (n + 2147483648) % 4294967296 - 2147483648 := by
  exact IntKind.wrap_i32 n
theorem wi64_in {n : Int} (h : -9223372036854775808 ≤ n ∧ n ≤ 9223372036854775807) : wi64 n = n := by rw [wi64_eq]; omega
theorem wu64_in {n : Int} (h : 0 ≤ n ∧ n ≤ 18446744073709551615) : wu64 n = n := by rw [wu64_eq]; omega
theorem wi32_in {n : Int} (h : -2147483648 ≤ n ∧ n ≤ 2147483647) : wi32 n = n := by rw [wi32_eq]; omega
theorem wu32_in {n : Int} (h : 0 ≤ n ∧ n ≤ 4294967295) : wu32 n = n := by rw [wu32_eq]; omega
theorem wu8_in {n : Int} (h : 0 ≤ n ∧ n ≤ 255) : wu8 n = n := by rw [wu8_eq]; omega

theorem shlI_eq (k : IntKind) (a : Int) (b : Nat) (hb : b ≤ k.bits) : shlI k a b = k.wrap (a * 2 ^ b) := by
  simp [shlI, Nat.min_eq_left hb]
theorem shrI_eq (k : IntKind) (a : Int) (b : Nat) (hb : b ≤ k.bits) : shrI k a b = a / 2 ^ b := by
  simp only [shrI, Int.toNat_natCast, Nat.min_eq_left hb]
  rw [Int.fdiv_eq_ediv_of_nonneg]
  exact Int.pow_nonneg (by decide)

theorem bv_nat (w : Nat) (a : Int) : (BitVec.ofInt w a).toNat = (a % 2 ^ w).toNat := by
  rw [BitVec.toNat_ofInt]
  simp

theorem bv_mask (w j : Nat) (a : Int) (hj : j ≤ w) : ((BitVec.ofInt w a &&& BitVec.ofInt w (2 ^ j - 1)).toNat : Int) = a % 2 ^ j := by
  rw [BitVec.toNat_and, bv_nat, bv_nat]
  have hp : (2 : Int) ^ j ≤ 2 ^ w := by exact_mod_cast Nat.pow_le_pow_right (by decide) hj
  have h1 : (1 : Int) ≤ 2 ^ j := by exact_mod_cast Nat.one_le_two_pow
  have e1 : (((2 : Int) ^ j - 1) % 2 ^ w).toNat = 2 ^ j - 1 := by
    rw [Int.emod_eq_of_lt (by omega) (by omega)]
    have : ((2 : Int) ^ j - 1) = ((2 ^ j - 1 : Nat) : Int) := by
      rw [Int.ofNat_sub Nat.one_le_two_pow]
      simp
    rw [this]
    simp
  rw [e1, Nat.and_two_pow_sub_one_eq_mod]
  have h0 : 0 ≤ a % 2 ^ w := Int.emod_nonneg _ (by omega)
  rw [Int.natCast_emod, Int.toNat_of_nonneg h0]
  have : ((2 ^ j : Nat) : Int) = (2 : Int) ^ j := by simp
  rw [this]
  refine Int.emod_emod_of_dvd a ⟨2 ^ (w - j), ?_⟩
  rw [← Int.pow_add, show j + (w - j) = w by omega]

/-- '&' with a mask of ones. -/
theorem andI_mask (k : IntKind) (a : Int) (j : Nat) (hj : j < k.bits) : andI k a (2 ^ j - 1) = a % 2 ^ j := by
  unfold andI
  rw [bv_mask k.bits j a (by omega)]
  have h1 : (1 : Int) ≤ 2 ^ j := by exact_mod_cast Nat.one_le_two_pow
  have hp : (2 : Int) ^ j ≤ 2 ^ (k.bits - 1) := by exact_mod_cast Nat.pow_le_pow_right (by decide) (by omega : j ≤ k.bits - 1)
  have hq : (2 : Int) ^ (k.bits - 1) ≤ 2 ^ k.bits := by exact_mod_cast Nat.pow_le_pow_right (by decide) (by omega : k.bits - 1 ≤ k.bits)
  have h2 : 0 ≤ a % 2 ^ j := Int.emod_nonneg _ (by omega)
  have h3 : a % 2 ^ j < 2 ^ j := Int.emod_lt_of_pos _ (by omega)
  unfold IntKind.wrap
  have e : a % 2 ^ j % 2 ^ k.bits = a % 2 ^ j := Int.emod_eq_of_lt h2 (by omega)
  simp only [e]
  rw [if_neg]
  simp only [Bool.and_eq_true, decide_eq_true_eq, not_and]
  intro _
  omega

/-- '|' of two that share no bit. -/
theorem orI_disj (k : IntKind) (a b c : Int) (j : Nat) (ha : a = c * 2 ^ j) (hb : 0 ≤ b ∧ b < 2 ^ j) (hj : j ≤ k.bits) : orI k a b = k.wrap (a + b) := by
  unfold orI
  have hp : (2 : Int) ^ j ≤ 2 ^ k.bits := by exact_mod_cast Nat.pow_le_pow_right (by decide) hj
  have h1 : (1 : Int) ≤ 2 ^ j := by exact_mod_cast Nat.one_le_two_pow
  have hw : (2 : Int) ^ k.bits = 2 ^ j * 2 ^ (k.bits - j) := by rw [← Int.pow_add, show j + (k.bits - j) = k.bits by omega]
  have hq : (0 : Int) < 2 ^ (k.bits - j) := by exact_mod_cast Nat.two_pow_pos _
  have ha' : a % 2 ^ k.bits = 2 ^ j * (c % 2 ^ (k.bits - j)) := by
    rw [ha, hw, Int.mul_comm c, Int.mul_emod_mul_of_pos _ _ (by omega)]
  have hc0 : 0 ≤ c % 2 ^ (k.bits - j) := Int.emod_nonneg _ (by omega)
  have hc1 : c % 2 ^ (k.bits - j) < 2 ^ (k.bits - j) := Int.emod_lt_of_pos _ hq
  have key : ((BitVec.ofInt k.bits a ||| BitVec.ofInt k.bits b).toNat : Int) = (a + b) % 2 ^ k.bits := by
    rw [BitVec.toNat_or, bv_nat, bv_nat, Int.emod_eq_of_lt hb.1 (by omega), ha']
    have e1 : (2 ^ j * (c % 2 ^ (k.bits - j))).toNat = 2 ^ j * (c % 2 ^ (k.bits - j)).toNat := by
      rw [Int.toNat_mul (by omega) hc0]
      congr 1
    have hb' : b.toNat < 2 ^ j := by
      have : ((2 ^ j : Nat) : Int) = (2 : Int) ^ j := by simp
      omega
    rw [e1, ← Nat.two_pow_add_eq_or_of_lt hb', Int.natCast_add, Int.natCast_mul, Int.toNat_of_nonneg hc0, Int.toNat_of_nonneg hb.1]
    have e2 : (a + b) % 2 ^ k.bits = (2 ^ j * (c % 2 ^ (k.bits - j)) + b) % 2 ^ k.bits := by
      rw [← ha', Int.emod_add_emod]
    have e3 : (2 ^ j * (c % 2 ^ (k.bits - j)) + b) % 2 ^ k.bits = 2 ^ j * (c % 2 ^ (k.bits - j)) + b := by
     refine Int.emod_eq_of_lt ?_ ?_
     · have := Int.mul_nonneg (show (0 : Int) ≤ 2 ^ j by omega) hc0
       omega
     · rw [hw]
       have : (2 : Int) ^ j * (c % 2 ^ (k.bits - j)) + 2 ^ j ≤ 2 ^ j * 2 ^ (k.bits - j) := by
         have : (2 : Int) ^ j * (c % 2 ^ (k.bits - j) + 1) ≤ 2 ^ j * 2 ^ (k.bits - j) := Int.mul_le_mul_of_nonneg_left (by omega) (by omega)
         rw [Int.mul_add, Int.mul_one] at this
         exact this
       omega
    rw [e2, e3]
    simp
  rw [key]
  unfold IntKind.wrap
  simp only [Int.emod_emod_of_dvd _ (Int.dvd_refl _)]

theorem minV_eq (x y : Int) : minV x y = min x y := by unfold minV; split <;> omega
theorem maxV_eq (x y : Int) : maxV x y = max x y := by unfold maxV; split <;> omega

end Go.Pg

namespace Go.Pg
section
variable {P : Program} {ov : Ov}

abbrev Tab := FuncId → List Value → Option Pg
def Tab.nil : Tab := fun _ _ => none
def Tab.one (k : Nat) (A : List Value → Option Pg) (t : Tab) : Tab := fun f args => bif Nat.beq f k then A args else t f args
def Tab.low (m : Nat) (a b : Tab) : Tab := fun f args => bif Nat.ble f m then a f args else b f args

def TabOK (P : Program) (t : Tab) : Prop := ∀ f args p, t f args = some p → progOf P false f args = p
theorem TabOK.nil : TabOK P .nil := fun _ _ _ h => by cases h
theorem TabOK.one {k : Nat} {A : List Value → Option Pg} {t : Tab} (h : ∀ args p, A args = some p → progOf P false k args = p) (ht : TabOK P t) : TabOK P (.one k A t) := by
  intro f args p hp
  unfold Tab.one at hp
  cases hb : Nat.beq f k with
  | true =>
    rw [hb] at hp
    have := Nat.eq_of_beq_eq_true hb
    subst this
    exact h args p hp
  | false =>
    rw [hb] at hp
    exact ht f args p hp
theorem TabOK.low {m : Nat} {a b : Tab} (ha : TabOK P a) (hb : TabOK P b) : TabOK P (.low m a b) := by
  intro f args p hp
  unfold Tab.low at hp
  cases h : Nat.ble f m with
  | true => rw [h] at hp; exact ha f args p hp
  | false => rw [h] at hp; exact hb f args p hp

def execTab (ov : Ov) (tab : Tab) : Nat → CallF
  | 0, _, _, _ => none
  | n + 1, f, args, σ => match ov f with
    | some g => g args σ
    | none => match tab f args with
      | some p => match exec (execTab ov tab n) (n + 1) p σ with
        | some ((_, [v]), σ') => some (v, σ')
        | _ => none
      | none => none

theorem iter_mono {f g : List Value → AHeap → Option ((Ex × List Value) × AHeap)} (h : ∀ st σ r, f st σ = some r → g st σ = some r) : ∀ (n m : Nat) (st : List Value) (σ : AHeap) r, n ≤ m → iter f n st σ = some r → iter g m st σ = some r
  | 0, _, _, _, _, _, e => by cases e
  | n + 1, 0, _, _, _, hl, _ => by omega
  | n + 1, m + 1, st, σ, r, hl, e => by
    unfold iter at e ⊢
    cases hf : f st σ with
    | none => rw [hf] at e; cases e
    | some q =>
      rw [hf] at e
      rw [h _ _ _ hf]
      obtain ⟨⟨ex, st'⟩, σ'⟩ := q
      cases ex with
      | normal => exact iter_mono h n m st' σ' r (by omega) e
      | ret => exact e
      | exit i => exact e

theorem exec_mono {cf cg : CallF} (h : ∀ f args σ r, cf f args σ = some r → cg f args σ = some r) {N M : Nat} (hN : N ≤ M) : ∀ (p : Pg) (σ : AHeap) r, exec cf N p σ = some r → exec cg M p σ = some r := by
  intro p
  induction p with
  | ret e vs => intro σ r e; exact e
  | fail => intro σ r e; exact e
  | act a k ih =>
    intro σ r e
    unfold exec at e ⊢
    split at e
    · rename_i v σ1 ha
      exact ih _ _ _ e
    · cases e
  | get k ih => intro σ r e; unfold exec at e ⊢; exact ih _ _ _ e
  | call f args k ih =>
    intro σ r e
    unfold exec at e ⊢
    split at e
    · rename_i v σ1 ha
      rw [h _ _ _ _ ha]
      exact ih _ _ _ e
    · cases e
  | join p k ihp ihk =>
    intro σ r e
    unfold exec at e ⊢
    split at e
    · rename_i ha
      rw [ihp _ _ ha]
      exact ihk _ _ _ _ e
    · cases e
  | loop st body k ihb ihk =>
    intro σ r e
    unfold exec at e ⊢
    split at e
    · rename_i ha
      rw [iter_mono (fun st σ r => ihb st σ r) _ _ _ _ _ hN ha]
      exact ihk _ _ _ _ e
    · cases e

theorem execTab_fn {tab : Tab} (ht : TabOK P tab) : ∀ n f args σ r, execTab ov tab n f args σ = some r → ∃ m, ∀ k, m ≤ k → execFn P ov false k f args σ = some r := by
  have key : ∀ n m f args σ r, n + 1 ≤ m → execTab ov tab n f args σ = some r → execFn P ov false m f args σ = some r := by
    intro n
    induction n with
    | zero => intro m f args σ r _ h; cases h
    | succ n ih =>
      intro m f args σ r hm h
      cases m with
      | zero => omega
      | succ m =>
        unfold execTab at h
        unfold execFn
        cases hg : ov f with
        | some g =>
          rw [hg] at h
          exact h
        | none =>
          rw [hg] at h
          cases hp : tab f args with
          | none => rw [hp] at h; cases h
          | some p =>
            rw [hp] at h
            dsimp only at h ⊢
            rw [ht _ _ _ hp]
            cases hx : exec (execTab ov tab n) (n + 1) p σ with
            | none => rw [hx] at h; cases h
            | some q =>
              rw [hx] at h
              have := exec_mono (N := n + 1) (M := m) (fun f args σ r => ih m f args σ r (by omega)) (by omega) _ _ _ hx
              simp only [this]
              exact h
  exact fun n f args σ r h => ⟨n + 1, fun k hk => key n k f args σ r hk h⟩

theorem EvF.tab {tab : Tab} (ht : TabOK P tab) {f : FuncId} {args : List Value} {σ σ' : AHeap} {v : Value} (n : Nat) (h : execTab ov tab n f args σ = some (v, σ')) : EvF P ov f args σ v σ' := by
  obtain ⟨m, hm⟩ := execTab_fn (P := P) ht n f args σ _ h
  exact ⟨m, hm⟩

/-- What came of it, if it was a truth. -/
def saidTrue : Option (Value × AHeap) → Bool
  | some (.bool b, _) => b
  | _ => false

theorem WpF.tab {tab : Tab} (ht : TabOK P tab) {f : FuncId} {args : List Value} {σ : AHeap} (n : Nat) (h : saidTrue (execTab ov tab n f args σ) = true) : WpF P ov f args σ fun v _ => v = .bool true := by
  cases hx : execTab ov tab n f args σ with
  | none => rw [hx] at h; cases h
  | some r =>
    obtain ⟨v, σ'⟩ := r
    refine ⟨v, σ', EvF.tab ht n hx, ?_⟩
    rw [hx] at h
    unfold saidTrue at h
    split at h
    · rename_i heq
      simp only [Option.some.injEq, Prod.mk.injEq] at heq
      obtain ⟨rfl, rfl⟩ := heq
      subst h
      rfl
    · cases h
end
end Go.Pg

namespace Go.Pg

theorem get_put_same (σ : AHeap) (b : Nat) (o : AObj) : (σ.put b o).get b = some o := by rw [AHeap.get_put, if_pos rfl]
theorem get_put_ne (σ : AHeap) {b c : Nat} (o : AObj) (h : c ≠ b) : (σ.put b o).get c = σ.get c := by rw [AHeap.get_put, if_neg h]
theorem get_push_same (σ : AHeap) (o : AObj) : (σ.push o).get σ.n = some o := by rw [AHeap.get_push, if_pos rfl]
theorem get_push_lt (σ : AHeap) {c : Nat} (o : AObj) (h : c < σ.n) : (σ.push o).get c = σ.get c := by rw [AHeap.get_push, if_neg (by omega)]

/-- A thing of some cells, of no versions. -/
def St (σ : AHeap) (b : Nat) (cs : List Value) : Prop := b < σ.n ∧ σ.get b = some (.blk ⟨cs, 0, [cs.length], 0⟩)

theorem St.ld {σ : AHeap} {b : Nat} {cs : List Value} (h : St σ b cs) {off : Nat} {v : Value} (hv : cs[off]? = some v) : ld1 ⟨b, off, some 0⟩ σ = some (v, σ) := by
  obtain ⟨_, h⟩ := h
  have hl := (List.getElem?_eq_some_iff.1 hv).1
  have hd : (cs.drop off).take 1 = [v] := by
    rw [List.drop_eq_getElem_cons hl, List.take_succ_cons, List.take_zero, (List.getElem?_eq_some_iff.1 hv).2]
  unfold ld1 AHeap.rdN
  simp only [h, Nat.zero_div, List.getElem?_cons_zero]
  have : (Nat.ble 0 0 && Nat.ble (off + 1) cs.length) = true := by simp; omega
  rw [this, cond_true, hd]

theorem St.ldN {σ : AHeap} {b : Nat} {cs : List Value} (h : St σ b cs) {off k : Nat} (hk : off + k ≤ cs.length) : ldN k ⟨b, off, some 0⟩ σ = some (.agg ((cs.drop off).take k).toArray, σ) := by
  obtain ⟨_, h⟩ := h
  unfold Go.Pg.ldN AHeap.rdN
  simp only [h, Nat.zero_div, List.getElem?_cons_zero]
  have : (Nat.ble 0 0 && Nat.ble (off + k) cs.length) = true := by simp; omega
  rw [this, cond_true]

theorem St.stC {σ : AHeap} {b : Nat} {cs : List Value} (h : St σ b cs) {off : Nat} {v : Value} (hl : off < cs.length) (hv : one v = true) :
    stC ⟨b, off, some 0⟩ [v] σ = some (.tuple #[], σ.put b (.blk ⟨cs.set off v, 0, [cs.length], 0⟩)) := by
  obtain ⟨_, h⟩ := h
  unfold Go.Pg.stC AHeap.wrN
  simp only [h, Nat.zero_div]
  have : (Nat.beq (0 + 1) [cs.length].length && Nat.ble (off + [v].length) cs.length && [v].all one) = true := by simp [hv]; omega
  rw [this, cond_true]
  have e : cs.take off ++ [v] ++ cs.drop (off + [v].length) = cs.set off v := by
    rw [List.set_eq_take_append_cons_drop, if_pos hl]
    simp
  rw [e]

theorem St.put {σ : AHeap} {b : Nat} {cs cs' : List Value} (h : St σ b cs) (hl : cs'.length = cs.length) : St (σ.put b (.blk ⟨cs', 0, [cs.length], 0⟩)) b cs' :=
  ⟨h.1, by rw [get_put_same, hl]⟩
theorem St.frame {σ σ' : AHeap} {b : Nat} {cs : List Value} (h : St σ b cs) (hn : σ.n ≤ σ'.n) (hg : σ'.get b = σ.get b) : St σ' b cs := ⟨Nat.lt_of_lt_of_le h.1 hn, hg ▸ h.2⟩
theorem St.new (σ : AHeap) (cs : List Value) : St (σ.newBlk cs 0) σ.n cs := ⟨by simp [AHeap.newBlk, AHeap.push], by simp [AHeap.newBlk, get_push_same]⟩
theorem newC_eq (cs : List Value) (σ : AHeap) : newC cs σ = some (.pointer (some ⟨σ.n, 0, some 0⟩), σ.newBlk cs 0) := rfl
theorem newBlk_n (σ : AHeap) (cs : List Value) (e : Nat) : (σ.newBlk cs e).n = σ.n + 1 := rfl
theorem put_n (σ : AHeap) (b : Nat) (o : AObj) : (σ.put b o).n = σ.n := rfl
theorem newBlk_get (σ : AHeap) (cs : List Value) (e : Nat) {c : Nat} (h : c < σ.n) : (σ.newBlk cs e).get c = σ.get c := get_push_lt σ _ h
theorem newBlk_old (σ : AHeap) (cs : List Value) (e : Nat) : (σ.newBlk cs e).old = σ.old := rfl
theorem put_old (σ : AHeap) (b : Nat) (o : AObj) : (σ.put b o).old = σ.old := rfl

/-- Cells in a row, behind which there is room: through the last version. -/
structure Row (σ : AHeap) (b off s cap esz : Nat) (xs : List Value) : Prop where
  lt : b < σ.n
  blk : ∃ B, σ.get b = some (.blk B) ∧ B.his.length = s / 64 + 1 ∧ B.his[s / 64]? = some B.cells.length ∧ B.esz = esz ∧ B.dirty ≤ s / 64 ∧ off + cap * esz = B.cells.length ∧ (B.cells.drop off).take xs.length = xs
  sesz : s % 64 = esz
  len : xs.length ≤ cap * esz
  ones : ∀ x ∈ xs, one x = true

theorem Row.frame {σ σ' : AHeap} {b off s cap esz : Nat} {xs : List Value} (h : Row σ b off s cap esz xs) (hn : σ.n ≤ σ'.n) (hg : σ'.get b = σ.get b) : Row σ' b off s cap esz xs :=
  ⟨Nat.lt_of_lt_of_le h.lt hn, hg ▸ h.blk, h.sesz, h.len, h.ones⟩

theorem Row.rdN {σ : AHeap} {b off s cap esz : Nat} {xs : List Value} (h : Row σ b off s cap esz xs) {i k : Nat} (hk : i + k ≤ xs.length) : σ.rdN ⟨b, off + i, some s⟩ k = some ((xs.drop i).take k) := by
  obtain ⟨B, hg, hl, hh, he, hd, hc, hx⟩ := h.blk
  have := h.len
  unfold AHeap.rdN
  simp only [hg, hh]
  have : (Nat.ble B.dirty (s / 64) && Nat.ble (off + i + k) B.cells.length) = true := by simp [hd]; omega
  rw [this, cond_true]
  congr 1
  conv => rhs; rw [← hx]
  rw [List.drop_take, List.take_take, List.drop_drop, Nat.min_eq_left (by omega)]

theorem Row.ld {σ : AHeap} {b off s cap esz : Nat} {xs : List Value} (h : Row σ b off s cap esz xs) {i : Nat} {v : Value} (hv : xs[i]? = some v) : ld1 ⟨b, off + i, some s⟩ σ = some (v, σ) := by
  have hl := (List.getElem?_eq_some_iff.1 hv).1
  unfold ld1
  rw [h.rdN (i := i) (k := 1) (by omega), List.drop_eq_getElem_cons hl, List.take_succ_cons, List.take_zero, (List.getElem?_eq_some_iff.1 hv).2]

theorem Row.take {σ : AHeap} {b off s cap esz : Nat} {xs : List Value} (h : Row σ b off s cap esz xs) (k : Nat) : Row σ b off s cap esz (xs.take k) := by
  obtain ⟨B, hg, hl, hh, he, hd, hc, hx⟩ := h.blk
  refine ⟨h.lt, ⟨B, hg, hl, hh, he, hd, hc, ?_⟩, h.sesz, ?_, fun x hx => h.ones x (List.mem_of_mem_take hx)⟩
  · conv => rhs; rw [← hx]
    rw [List.take_take, List.length_take]
  · have := h.len
    rw [List.length_take]
    omega

theorem Row.drop {σ : AHeap} {b off s cap esz : Nat} {xs : List Value} (h : Row σ b off s cap esz xs) (k : Nat) (hk : k * esz ≤ xs.length) : Row σ b (off + k * esz) s (cap - k) esz (xs.drop (k * esz)) := by
  obtain ⟨B, hg, hl, hh, he, hd, hc, hx⟩ := h.blk
  have h1 := h.len
  have h2 : (cap - k) * esz = cap * esz - k * esz := Nat.sub_mul _ _ _
  refine ⟨h.lt, ⟨B, hg, hl, hh, he, hd, by omega, ?_⟩, h.sesz, ?_, fun x hx => h.ones x (List.mem_of_mem_drop hx)⟩
  · conv => rhs; rw [← hx]
    rw [List.drop_take, List.drop_drop, List.length_drop]
  · rw [List.length_drop]
    omega

/-- Cells are written in a row. -/
theorem Row.wrN {σ : AHeap} {b off s cap esz : Nat} {xs : List Value} (h : Row σ b off s cap esz xs) {i : Nat} {vs : List Value} (hi : i ≤ xs.length) (hk : i + vs.length ≤ cap * esz) (hv : ∀ x ∈ vs, one x = true) :
    ∃ σ', σ.wrN ⟨b, off + i, some s⟩ vs = some σ' ∧ σ'.n = σ.n ∧ σ'.old = σ.old ∧ (∀ j, j ≠ b → σ'.get j = σ.get j) ∧ Row σ' b off s cap esz (xs.take i ++ vs ++ xs.drop (i + vs.length)) := by
  obtain ⟨B, hg, hl, hh, he, hd, hc, hx⟩ := h.blk
  have h1 := h.len
  refine ⟨σ.put b (.blk { B with cells := B.cells.take (off + i) ++ vs ++ B.cells.drop (off + i + vs.length), dirty := s / 64 }), ?_, rfl, rfl, fun j hj => get_put_ne _ _ hj, ?_⟩
  · unfold AHeap.wrN
    simp only [hg]
    have : (Nat.beq (s / 64 + 1) B.his.length && Nat.ble (off + i + vs.length) B.cells.length && vs.all one) = true := by
      simp only [Bool.and_eq_true, Nat.beq_eq, Nat.ble_eq, List.all_eq_true]
      exact ⟨⟨hl.symm, by omega⟩, hv⟩
    rw [this, cond_true]
  · have hlen : (B.cells.take (off + i) ++ vs ++ B.cells.drop (off + i + vs.length)).length = B.cells.length := by
      simp only [List.length_append, List.length_take, List.length_drop]
      omega
    refine ⟨h.lt, ⟨_, get_put_same _ _ _, hl, by rw [hlen]; exact hh, he, Nat.le_refl _, by rw [hlen]; exact hc, ?_⟩, h.sesz, ?_, ?_⟩
    · simp only
      have hxl : xs.length ≤ B.cells.length - off := by
        have := congrArg List.length hx
        simp only [List.length_take, List.length_drop] at this
        omega
      have e1 : List.drop off (B.cells.take (off + i) ++ vs ++ B.cells.drop (off + i + vs.length)) = xs.take i ++ vs ++ B.cells.drop (off + i + vs.length) := by
        rw [List.append_assoc, List.drop_append_of_le_length (by simp; omega), List.append_assoc]
        congr 1
        conv => rhs; rw [← hx]
        rw [List.take_take, Nat.min_eq_left hi, List.drop_take]
        congr 1
        omega
      rw [e1]
      have e2 : xs.drop (i + vs.length) = (B.cells.drop (off + i + vs.length)).take (xs.length - (i + vs.length)) := by
        conv => lhs; rw [← hx]
        rw [List.drop_take, List.drop_drop]
        congr 2
        omega
      have e3 : (xs.take i ++ vs ++ xs.drop (i + vs.length)).length = (xs.take i ++ vs).length + (xs.length - (i + vs.length)) := by
        simp only [List.length_append, List.length_take, List.length_drop]
      rw [e3, List.take_length_add_append, ← e2]
    · simp only [List.length_append, List.length_take, List.length_drop]
      omega
    · intro x hx
      simp only [List.mem_append] at hx
      rcases hx with (hx | hx) | hx
      · exact h.ones x (List.mem_of_mem_take hx)
      · exact hv x hx
      · exact h.ones x (List.mem_of_mem_drop hx)

/-- append. -/
theorem Row.append {σ : AHeap} {b off s cap esz : Nat} {xs : List Value} (h : Row σ b off s cap esz xs) {byt len n : Nat} {ys : List Value} (hx : xs.length = len * esz) (hy : ys.length = n * esz) (h0 : 1 ≤ esz) (hn : 1 ≤ n)
    (hy1 : ∀ y ∈ ys, one y = true) (hb : 2 * (len + n) * byt ≤ 281474976710656) (hb2 : len + n ≤ 4611686018427387904) :
    ∃ σ' s' cap', apCore esz byt (some ⟨b, off, some s⟩) len cap n ys σ = some (.slice (some ⟨b, off, some s'⟩) (len + n) cap', σ') ∧ σ'.n = σ.n ∧ σ'.old = σ.old ∧ (∀ j, j ≠ b → σ'.get j = σ.get j) ∧ Row σ' b off s' cap' esz (xs ++ ys) := by
  have hc0 := h.len
  have hle : len ≤ cap := Nat.le_of_mul_le_mul_right (by omega : len * esz ≤ cap * esz) h0
  unfold apCore
  have g1 : (!(Nat.beq ys.length (n * esz))) = false := by rw [hy]; simp
  rw [g1, cond_false]
  by_cases hcap : len + n ≤ cap
  · have g2 : Nat.ble (len + n) cap = true := by simpa using hcap
    have g3 : Nat.beq n 0 = false := by rw [Bool.eq_false_iff]; intro h; have := Nat.eq_of_beq_eq_true h; omega
    have hm : (len + n) * esz ≤ cap * esz := Nat.mul_le_mul_right _ hcap
    rw [Nat.add_mul] at hm
    obtain ⟨σ', w1, w2, w3, w4, w5⟩ := h.wrN (i := len * esz) (vs := ys) (by omega) (by omega) hy1
    refine ⟨σ', s, cap, ?_, w2, w3, w4, ?_⟩
    · rw [g2, cond_true]
      simp only [g3, cond_false]
      rw [show aadd ⟨b, off, some s⟩ (len * esz) = ⟨b, off + len * esz, some s⟩ from rfl, w1]
    · rw [← hx, List.take_length, List.drop_of_length_le (by omega), List.append_nil] at w5
      exact w5
  · obtain ⟨B, hg, hl, hh, he, hd, hc, hxx⟩ := h.blk
    have g2 : Nat.ble (len + n) cap = false := by rw [Bool.eq_false_iff]; intro h; have := Nat.le_of_ble_eq_true h; omega
    have hs := h.sesz
    have he64 : esz < 64 := by omega
    have g3 : (Nat.ble (2 * (len + n) * byt) 281474976710656 && Nat.ble (len + n) 4611686018427387904 && ys.all one && Nat.blt esz 64) = true := by
      simp only [Bool.and_eq_true, Nat.ble_eq, List.all_eq_true, Nat.blt_eq]
      exact ⟨⟨⟨hb, hb2⟩, hy1⟩, he64⟩
    have g4 : (Nat.beq (s / 64 + 1) B.his.length && Nat.beq esz B.esz && Nat.ble len cap) = true := by
      simp only [Bool.and_eq_true, Nat.beq_eq, Nat.ble_eq]
      exact ⟨⟨hl.symm, he.symm⟩, hle⟩
    have g5 : Nat.beq (off + cap * esz) B.cells.length = true := by rw [hc]; simp
    have hxl : xs.length ≤ B.cells.length - off := by
      have := congrArg List.length hxx
      simp only [List.length_take, List.length_drop] at this
      omega
    have hlc : (B.cells.take (off + len * esz) ++ ys).length = off + len * esz + ys.length := by
      simp only [List.length_append, List.length_take]
      omega
    refine ⟨σ.put b (.blk { B with
        cells := B.cells.take (off + len * esz) ++ ys
        his := B.his ++ [off + len * esz + ys.length]
        dirty := bif Nat.blt (off + len * esz) B.cells.length then s / 64 + 1 else B.dirty }), (s / 64 + 1) * 64 + esz, len + n, ?_, ?_, ?_, ?_, ?_⟩
    · rw [g2, cond_false, g3, cond_true]
      simp only [hg, g4, cond_true, g5]
    · rfl
    · rfl
    · exact fun j hj => get_put_ne _ _ hj
    · have q1 : ((s / 64 + 1) * 64 + esz) / 64 = s / 64 + 1 := by omega
      have q2 : ((s / 64 + 1) * 64 + esz) % 64 = esz := by omega
      refine ⟨h.lt, ⟨_, get_put_same _ _ _, ?_, ?_, he, ?_, ?_, ?_⟩, q2, ?_, ?_⟩
      · simp only [List.length_append, List.length_singleton]
        omega
      · simp only
        rw [q1, hlc, List.getElem?_append_right (by omega), show s / 64 + 1 - B.his.length = 0 by omega]
        rfl
      · simp only
        rw [q1]
        cases Nat.blt (off + len * esz) B.cells.length <;> simp
        omega
      · simp only
        rw [hlc, Nat.add_mul, hy]
        omega
      · simp only
        rw [List.drop_append_of_le_length (by simp; omega)]
        have e : (B.cells.take (off + len * esz)).drop off = xs := by
          conv => rhs; rw [← hxx]
          rw [List.drop_take, hx]
          congr 1
          omega
        rw [e, List.take_length]
      · simp only [List.length_append]
        rw [Nat.add_mul]
        omega
      · intro x hx
        rcases List.mem_append.1 hx with hx | hx
        · exact h.ones x hx
        · exact hy1 x hx

theorem Row.new (σ : AHeap) (esz : Nat) (ys : List Value) (n : Nat) (he : esz < 64) (hy : ys.length = n * esz) (hy1 : ∀ y ∈ ys, one y = true) : Row (σ.newBlk ys esz) σ.n 0 esz n esz ys := by
  have q1 : esz / 64 = 0 := by omega
  refine ⟨by rw [newBlk_n]; omega, ⟨_, get_push_same _ _, by simp [q1], by simp [q1], rfl, by simp, by simp [hy], by simp⟩, by omega, by omega, hy1⟩

/-- append to nothing. -/
theorem apCore_nil {σ : AHeap} {esz byt n : Nat} {ys : List Value} (he : esz < 64) (hn : 1 ≤ n) (hy : ys.length = n * esz) (hy1 : ∀ y ∈ ys, one y = true) (hb : 2 * n * byt ≤ 281474976710656) (hb2 : n ≤ 4611686018427387904) :
    apCore esz byt none 0 0 n ys σ = some (.slice (some ⟨σ.n, 0, some esz⟩) n n, σ.newBlk ys esz) := by
  unfold apCore
  have g1 : (!(Nat.beq ys.length (n * esz))) = false := by rw [hy]; simp
  have g2 : Nat.ble (0 + n) 0 = false := by rw [Bool.eq_false_iff]; intro h; have := Nat.le_of_ble_eq_true h; omega
  have g3 : (Nat.ble (2 * (0 + n) * byt) 281474976710656 && Nat.ble (0 + n) 4611686018427387904 && ys.all one && Nat.blt esz 64) = true := by
    simp only [Bool.and_eq_true, Nat.ble_eq, List.all_eq_true, Nat.blt_eq, Nat.zero_add]
    exact ⟨⟨⟨hb, hb2⟩, hy1⟩, he⟩
  rw [g1, cond_false, g2, cond_false, g3, cond_true]
  simp [AHeap.here]

end Go.Pg

namespace Go.Pg
section
variable {P : Program} {ov : Ov}

theorem Wp.count {st : List Value} {body : List Value → Pg} {k : Ex → List Value → Pg} {σ : AHeap} {Q : Post} (n : Nat) (I : Nat → List Value → AHeap → Prop) (h0 : I 0 st σ)
    (hb : ∀ j st σ, j < n → I j st σ → Wp P ov (body st) σ fun e st' σ' => match e with
      | .normal => I (j + 1) st' σ'
      | e => Wp P ov (k e st') σ' Q)
    (he : ∀ st σ, I n st σ → Wp P ov (body st) σ fun e st' σ' => match e with
      | .normal => False
      | e => Wp P ov (k e st') σ' Q) : Wp P ov (.loop st body k) σ Q := by
  refine Wp.loop (fun m st σ => ∃ j, j + m = n ∧ I j st σ) n ⟨0, by omega, h0⟩ ?_
  rintro m st σ ⟨j, hj, hI⟩
  by_cases hjn : j < n
  · refine Wp.mono _ _ _ _ ?_ (hb j st σ hjn hI)
    intro e vs σ' h
    cases e with
    | normal => exact ⟨m - 1, by omega, j + 1, by omega, h⟩
    | ret => exact h
    | exit i => exact h
  · obtain rfl : j = n := by omega
    refine Wp.mono _ _ _ _ ?_ (he st σ hI)
    intro e vs σ' h
    cases e with
    | normal => exact h.elim
    | ret => exact h
    | exit i => exact h

/-- The whole numbers of a row. -/
abbrev ints (k : IntKind) (l : List Int) : List Value := l.map (Value.int k)
theorem ints_one (k : IntKind) (l : List Int) : ∀ x ∈ ints k l, one x = true := by
  intro x hx
  obtain ⟨n, _, rfl⟩ := List.mem_map.1 hx
  rfl
theorem ints_get {k : IntKind} {l : List Int} {i : Nat} (h : i < l.length) : (ints k l)[i]? = some (.int k (l.getD i 0)) := by simp [List.getD, h]

/-- What stands behind a slice's address can be read, number by number. -/
def RdI (σ : AHeap) (k : IntKind) (p : Option Addr) (l : List Int) : Prop := ∀ i : Nat, i < l.length → ∃ a, p = some a ∧ ld1 (aadd a (i * 1)) σ = some (.int k (l.getD i 0), σ)

theorem Row.rdI {σ : AHeap} {b off s cap : Nat} {k : IntKind} {l : List Int} (h : Row σ b off s cap 1 (ints k l)) : RdI σ k (some ⟨b, off, some s⟩) l := by
  intro i hi
  refine ⟨_, rfl, ?_⟩
  rw [Nat.mul_one]
  exact h.ld (ints_get hi)

theorem wp_rdI {σ : AHeap} {k : IntKind} {p : Option Addr} {l : List Int} (h : RdI σ k p l) {i : Int} (h0 : 0 ≤ i) (h1 : i < (l.length : Nat)) (f : Int → Pg) (Q : Post) :
    Wp P ov (asSome p fun a => grd (decide (0 ≤ i) && decide (i < ((l.length : Nat) : Int))) (.act (ld1 (aadd a (Int.toNat i * 1))) fun v => asInt k v f)) σ Q = Wp P ov (f (l.getD i.toNat 0)) σ Q := by
  obtain ⟨a, rfl, hl⟩ := h i.toNat (by omega)
  simp only [asSome_some, wp_grd, h0, h1, decide_true, Bool.and_self, wp_act, hl, asInt_int, true_and]

/-- A struct's slot is read. -/
theorem wp_fld {σ : AHeap} {b o k : Nat} {cs : List Value} {v : Value} (h : St σ b cs) (hv : cs[o + k]? = some v) (g : Value → Pg) (Q : Post) :
    Wp P ov (asSome (some ⟨b, o, some 0⟩) fun a => .act (ld1 (aadd a k)) g) σ Q = Wp P ov (g v) σ Q := by
  simp only [asSome_some, wp_act, show aadd ⟨b, o, some 0⟩ k = ⟨b, o + k, some 0⟩ from rfl, h.ld hv]

/-- A struct's slot is written. -/
theorem wp_set {σ : AHeap} {b o k : Nat} {cs : List Value} {x : Value} (h : St σ b cs) (hl : o + k < cs.length) (hx : one x = true) (g : Value → Pg) (Q : Post) :
    Wp P ov (asSome (some ⟨b, o, some 0⟩) fun a => .act (stC (aadd a k) [x]) g) σ Q = Wp P ov (g (.tuple #[])) (σ.put b (.blk ⟨cs.set (o + k) x, 0, [cs.length], 0⟩)) Q := by
  simp only [asSome_some, wp_act, show aadd ⟨b, o, some 0⟩ k = ⟨b, o + k, some 0⟩ from rfl, h.stC hl hx]

/-- What is as it was. -/
structure Frm (σ σ' : AHeap) (S : Nat → Prop) : Prop where
  n : σ.n ≤ σ'.n
  old : σ'.old = σ.old
  get : ∀ j, j < σ.n → ¬ S j → σ'.get j = σ.get j
theorem Frm.refl (σ : AHeap) (S : Nat → Prop) : Frm σ σ S := ⟨Nat.le_refl _, rfl, fun _ _ _ => rfl⟩
theorem Frm.trans {σ σ' σ'' : AHeap} {S T U : Nat → Prop} (h : Frm σ σ' S) (k : Frm σ' σ'' T) (h1 : ∀ j, j < σ.n → S j → U j) (h2 : ∀ j, j < σ.n → T j → U j) : Frm σ σ'' U :=
  ⟨Nat.le_trans h.n k.n, k.old.trans h.old, fun j hj hU => (k.get j (Nat.lt_of_lt_of_le hj h.n) fun t => hU (h2 j hj t)).trans (h.get j hj fun s => hU (h1 j hj s))⟩
theorem Frm.put (σ : AHeap) (b : Nat) (o : AObj) : Frm σ (σ.put b o) (· = b) := ⟨Nat.le_refl _, rfl, fun _ _ hj => get_put_ne _ _ hj⟩
theorem Frm.new (σ : AHeap) (cs : List Value) (e : Nat) (S : Nat → Prop) : Frm σ (σ.newBlk cs e) S := ⟨by rw [newBlk_n]; omega, rfl, fun _ hj _ => newBlk_get _ _ _ hj⟩
theorem Frm.mono {σ σ' : AHeap} {S T : Nat → Prop} (h : Frm σ σ' S) (k : ∀ j, j < σ.n → S j → T j) : Frm σ σ' T := ⟨h.n, h.old, fun j hj ht => h.get j hj fun s => ht (k j hj s)⟩
theorem Frm.st {σ σ' : AHeap} {S : Nat → Prop} {b : Nat} {cs : List Value} (h : Frm σ σ' S) (k : St σ b cs) (hb : ¬ S b) : St σ' b cs := k.frame h.n (h.get b k.1 hb)
theorem Frm.row {σ σ' : AHeap} {S : Nat → Prop} {b off s cap esz : Nat} {xs : List Value} (h : Frm σ σ' S) (k : Row σ b off s cap esz xs) (hb : ¬ S b) : Row σ' b off s cap esz xs := k.frame h.n (h.get b k.lt hb)

theorem apS_some {σ : AHeap} {esz byt len cap n c : Nat} {base : Option Addr} {a : Addr} {ys : List Value} (h : σ.rdN a (n * esz) = some ys) : apS esz byt base len cap (some a) n c σ = apCore esz byt base len cap n ys σ := by
  unfold apS firstOf
  simp only [h]
theorem apS_none {σ : AHeap} {esz byt len cap n c : Nat} {base : Option Addr} : apS esz byt base len cap none n c σ = apCore esz byt base len cap n [] σ := by
  unfold apS firstOf
  rfl

theorem bdSl_eq (esz len : Nat) (cs : List Value) (σ : AHeap) : bdSl esz len cs σ = some (.slice (some ⟨σ.n, 0, some esz⟩) len len, σ.newBlk cs esz) := rfl

theorem apCore_fit {σ : AHeap} {esz byt len cap n : Nat} {a : Addr} {ys : List Value} (hy : ys.length = n * esz) (hn : 1 ≤ n) (hc : len + n ≤ cap) :
    apCore esz byt (some a) len cap n ys σ = match σ.wrN (aadd a (len * esz)) ys with
      | some σ' => some (.slice (some a) (len + n) cap, σ')
      | none => none := by
  unfold apCore
  have g1 : (!(Nat.beq ys.length (n * esz))) = false := by rw [hy]; simp
  have g2 : Nat.ble (len + n) cap = true := by simpa using hc
  have g3 : Nat.beq n 0 = false := by rw [Bool.eq_false_iff]; intro h; have := Nat.eq_of_beq_eq_true h; omega
  rw [g1, cond_false, g2, cond_true]
  simp only [g3, cond_false]
  rfl

/-- A row's part, as the source of an append. -/
theorem Row.src {σ : AHeap} {b off s cap esz : Nat} {xs : List Value} (h : Row σ b off s cap esz xs) (i k : Nat) (hk : i + k * esz ≤ xs.length) : σ.rdN ⟨b, off + i, some s⟩ (k * esz) = some ((xs.drop i).take (k * esz)) := h.rdN hk

end
end Go.Pg

namespace Go.Pg
open Go.RowKit
section
variable {P : Program} {ι : Inj} {W0 W W' : World} {σ σ' : AHeap}

/-- The world grew by blocks of which nothing is known. -/
theorem Rel.more (R : Rel ι W0 σ W) (hb : Below W.heap.size W W') : Rel ι W0 σ W' := by
  have hW0 : W0.heap.size ≤ W.heap.size := R.below.size
  have hkeep : ∀ j v i, ι j v = some i → W'.heap[i.c]? = W.heap[i.c]? := fun j v i h => hb.block _ (R.dom _ _ _ h).2.2
  refine { below := R.below.trans ⟨hb.os, hb.tape, hb.output, hb.size, fun k hk => hb.block k (by omega)⟩, old := R.old, dom := fun j v i h => ?_, inj := R.inj, samelo := R.samelo, blk := ?_, vers := R.vers, map := ?_, iter := ?_, dead := R.dead, fresh := R.fresh }
  · have := R.dom j v i h
    exact ⟨this.1, this.2.1, Nat.lt_of_lt_of_le this.2.2 hb.size⟩
  · intro j B v0 i0 hB hi0
    have OK := R.blk j B v0 i0 hB hi0
    refine { last := OK.last, ne := OK.ne, dirty := OK.dirty, one := OK.one, ver := fun v hi hh => ?_ }
    obtain ⟨i, f1, f2, f3, f4⟩ := OK.ver v hi hh
    refine ⟨i, f1, f2, f3, fun hd => ?_⟩
    obtain ⟨g1, g2, g3, g4, g5⟩ := f4 hd
    have hk := hkeep j v i f1
    refine ⟨g1, g2, g3, fun o hoo => ⟨by rw [cell_of_heap hk]; exact (g4 o hoo).1, by rw [frozen_of_heap hk]; exact (g4 o hoo).2⟩, fun o h1 h2 => ?_⟩
    obtain ⟨x, y, r1, r2, r3⟩ := g5 o h1 h2
    exact ⟨x, y, r1, by rw [cell_of_heap hk]; exact r2, r3⟩
  · intro j es v0 i0 hes hi0
    obtain ⟨i, f1, ents, clock, f2, f3, f4⟩ := R.map j es v0 i0 hes hi0
    exact ⟨i, f1, ents, clock, by rw [hkeep j 0 i f1]; exact f2, f3, f4⟩
  · intro j s p v0 i0 hs hi0
    obtain ⟨i, f1, f2, f3⟩ := R.iter j s p v0 i0 hs hi0
    exact ⟨i, f1, f2, by rw [hkeep j 0 i f1]; exact f3⟩

/-- A value that hangs on no memory is but one value. -/
theorem plain_eq {B : Nat} {v v' : Value} (hv : plainV 0 v = true) (h : VR ι B v v') : v' = v := by
  cases h <;> first
    | rfl
    | exact Bool.noConfusion hv

/-- What is answered in another way: a function of plain values whose contract is known. -/
def ovPure (g : List Value → Option Value) : List Value → Act := fun args σ => match g args with
  | some v => some (v, σ)
  | none => none

structure PureOK (P : Program) (W0 : World) (f : FuncId) (g : List Value → Option Value) : Prop where
  body : ∃ fn c, P.funcs[f]? = some fn ∧ fn.body = some c
  says : ∀ args v, g args = some v → (∀ a ∈ args, plainV 0 a = true) ∧ (∀ (κ : Inj) B, VR κ B v v) ∧ ∀ W, Below W0.heap.size W0 W → Calls P f args.toArray W fun e W' => e = .returned v ∧ Below W.heap.size W W'

theorem VRL.plain {B : Nat} : ∀ {l m : List Value}, (∀ a ∈ l, plainV 0 a = true) → VRL ι B l m → m = l
  | [], [], _, _ => rfl
  | [], _ :: _, _, h => by have := h.1; simp at this
  | _ :: _, [], _, h => by have := h.1; simp at this
  | a :: l, b :: m, hp, h => by
    have h1 : b = a := plain_eq (hp a (by simp)) (h.2 0 a b rfl rfl)
    have h2 : m = l := VRL.plain (fun x hx => hp x (by simp [hx])) ⟨by have := h.1; simpa using this, fun j v v' e1 e2 => h.2 (j + 1) v v' (by simpa using e1) (by simpa using e2)⟩
    rw [h1, h2]

theorem PureOK.ov (hn : NoNum P) {f : FuncId} {g : List Value → Option Value} (h : PureOK P W0 f g) :
    ∀ args σ v σ', ovPure g args σ = some (v, σ') → ∀ (ι : Inj) (W : World) (args' : Array Value), Rel ι W0 σ W → VRL ι W0.heap.size args args'.toList →
    (callFunc f args').run P W = .ok (.enter f args') W ∧ Calls P f args' W fun e w' => ∃ v' κ, e = .returned v' ∧ ι.le κ ∧ VR κ W0.heap.size v v' ∧ Rel κ W0 σ' w' := by
  intro args σ v σ' hg ι W args' R hA
  obtain ⟨fn, c, hf, hb⟩ := h.body
  refine ⟨enter_run hn hf hb args' W, ?_⟩
  unfold ovPure at hg
  cases hv : g args with
  | none => rw [hv] at hg; cases hg
  | some u =>
    rw [hv] at hg
    simp only [Option.some.injEq, Prod.mk.injEq] at hg
    obtain ⟨rfl, rfl⟩ := hg
    obtain ⟨h1, h2, h3⟩ := h.says _ _ hv
    have e := VRL.plain h1 hA
    have e' : args' = args.toArray := by rw [← e]
    subst e'
    refine (h3 W R.below).mono ?_
    rintro e W' ⟨rfl, hb⟩
    exact ⟨_, ι, rfl, Inj.le_refl _, h2 _ _, R.more hb⟩

theorem OvOK.cons {ov : Ov} {f : FuncId} {G : List Value → Act}
    (h : ∀ args σ v σ', G args σ = some (v, σ') → ∀ (ι : Inj) (W : World) (args' : Array Value), Rel ι W0 σ W → VRL ι W0.heap.size args args'.toList →
      (callFunc f args').run P W = .ok (.enter f args') W ∧ Calls P f args' W fun e w' => ∃ v' κ, e = .returned v' ∧ ι.le κ ∧ VR κ W0.heap.size v v' ∧ Rel κ W0 σ' w')
    (ho : OvOK P W0 ov) : OvOK P W0 fun k => bif Nat.beq k f then some G else ov k := by
  intro k g hk
  dsimp only at hk
  cases hb : Nat.beq k f with
  | true =>
    rw [hb] at hk
    simp only [cond_true, Option.some.injEq] at hk
    subst hk
    have := Nat.eq_of_beq_eq_true hb
    subst this
    exact h
  | false =>
    rw [hb] at hk
    exact ho k g hk

/-- Tables of whole numbers at the beginning of blocks. -/
def tabOld : List (Nat × IntKind × List Int) → Addr → Option Value
  | [], _ => none
  | (g, k, zs) :: r, a => bif Nat.beq a.block g then (match zs[a.off]? with
    | some z => some (.int k z)
    | none => none) else tabOld r a

theorem tabOld_ok {W : World} : ∀ {l : List (Nat × IntKind × List Int)}, (∀ x ∈ l, x.1 < W.heap.size ∧ ∀ i, i < x.2.2.length → W.cell? ⟨x.1, i, none⟩ = some (.int x.2.1 (x.2.2.getD i 0))) →
    ∀ b o v, tabOld l ⟨b, o, none⟩ = some v → b < W.heap.size ∧ W.cell? ⟨b, o, none⟩ = some v ∧ ∀ κ : Inj, VR κ W.heap.size v v
  | [], _, b, o, v, h => by cases h
  | (g, k, zs) :: r, hl, b, o, v, h => by
    unfold tabOld at h
    cases hb : Nat.beq b g with
    | true =>
      simp only [hb, cond_true] at h
      have := Nat.eq_of_beq_eq_true hb
      subst this
      obtain ⟨h1, h2⟩ := hl (b, k, zs) (by simp)
      split at h
      · rename_i z hz
        cases h
        have hlt := (List.getElem?_eq_some_iff.1 hz).1
        refine ⟨h1, ?_, fun κ => .int _ _⟩
        rw [h2 o hlt]
        simp [List.getD, hz]
      · cases h
    | false =>
      simp only [hb, cond_false] at h
      exact tabOld_ok (fun x hx => hl x (by simp [hx])) b o v h

/-- The numbers of a listed table. -/
def numsD : DataW Unit → List Int
  | .agg ds => ds.map fun
    | .lit (.int _ z) => z
    | _ => 0
  | _ => []

theorem tabIs_of_reads {name : String} {k : IntKind} {d : DataW Unit} {g : Nat} {t e : TypeId} {n : Nat} (hd : d = Lib.tabData k (numsD d))
    (hg : P.globalNamed name = some g) (hty : (P.globals[g]?).map (·.type) = some t) (ht : P.underlying t = some (.array n e)) (he : P.underlying e = some (.int k)) (hce : P.cellsOf e = 1) (hct : P.cellsOf t = n)
    (h : Lib.VarReads P W name d) : Lib.TabIs P W name k (numsD d) := by
  rw [hd] at h
  obtain ⟨g', t', cs, fuel, p, hg', ht', hvar, hr⟩ := h
  obtain rfl := Option.some.inj (hg.symm.trans hg')
  obtain rfl := Option.some.inj (hty.symm.trans ht')
  unfold Lib.TabIs
  rw [hvar, ← Lib.cells_of_tab ht he hce hct hr]

theorem witness_row_shaped {H : Type} {enc : TypeId × Value → H} {C : Checked} {os : Os} {f : FuncId} {fn : Func} {s : OpenSpec} {conds : List PathCond} {apart : Bool} {laid : List (String × DataW Unit)} (w0 : World) (args : Array Value) (hos : w0.os = os)
    (hsh : (w0.forCall (fun _ _ => 0) ⟨#[], args, []⟩).Shaped C.prog)
    (hok : Input.okWideB C.prog (w0.forCall (fun _ _ => 0) ⟨#[], args, []⟩) f ⟨#[], args, []⟩ = true)
    (hrow : s.preRow enc C.prog fn conds apart laid (w0.forCall (fun _ _ => 0) ⟨#[], args, []⟩).memory args) :
    ∃ (w : World) (tape : Tape) (i : Input), w.os = os ∧ (w.forCall tape i).Shaped C.prog ∧ i.vars = [] ∧ Input.okWide C.prog (w.forCall tape i) .any w.heap.size f i ∧
      s.preRow enc C.prog fn conds apart laid (w.forCall tape i).memory i.args ∧ ({} : Assume).holds C.prog (lone (Frame.enter C.prog f i.args .normal) [] (w.forCall tape i)) :=
  ⟨w0, fun _ _ => 0, ⟨#[], args, []⟩, hos, hsh, (Input.okWide_of_okWideB (base := 0) hok).1, (Input.okWide_of_okWideB hok).2, hrow, by
    simp only [Assume.holds]
    exact ⟨by simp, by simp, by simp, by simp, by simp⟩⟩

theorem tab_cells {name : String} {k : IntKind} {zs : List Int} {g : Nat} (h : Lib.TabIs P W name k zs) (hg : P.globalNamed name = some g) (hG : g < W.heap.size) :
    g < W.heap.size ∧ ∀ i, i < zs.length → W.cell? ⟨g, i, none⟩ = some (.int k (zs.getD i 0)) := ⟨hG, fun i hi => h.cell hg i hi⟩
end
end Go.Pg

namespace Go.Pg
open Go.RowKit Go.ChangeShapes Go.WideShapes

/-- The heap that a law finds: cells that hang on no memory. -/
def oldW (W : World) : Addr → Option Value := fun a => match W.cell? a with
  | some v => bif plainV 0 v && decide (a.block < W.heap.size) then some v else none
  | none => none

theorem plainVR0 {κ : Inj} {B : Nat} {v : Value} (h : plainV 0 v = true) : VR κ B v v := by
  cases v with
  | bool b => exact .bool b
  | int k n => exact .int k n
  | string s => exact .string s
  | pointer a => cases a with
    | none => exact .ptrNil
    | some a => cases h
  | slice a n c => cases a with
    | none => exact .sliceNil n c
    | some a => cases h
  | map r => cases r with
    | none => exact .mapNil
    | some r => cases h
  | nilFunc => exact .nilFunc
  | nilIface => exact .nilIface
  | _ => cases h

theorem oldW_ok {W : World} : ∀ b o v, oldW W ⟨b, o, none⟩ = some v → b < W.heap.size ∧ W.cell? ⟨b, o, none⟩ = some v ∧ ∀ κ : Inj, VR κ W.heap.size v v := by
  intro b o v h
  unfold oldW at h
  split at h
  · rename_i u hu
    obtain ⟨hc, rfl⟩ := bif_some h
    simp only [Bool.and_eq_true, decide_eq_true_eq] at hc
    exact ⟨hc.2, hu, fun κ => plainVR0 hc.1⟩
  · cases h

theorem cell_lt {W : World} {b o : Nat} {v : Value} (h : W.cell? ⟨b, o, none⟩ = some v) : b < W.heap.size := by
  unfold World.cell? at h
  rcases Nat.lt_or_ge b W.heap.size with hl | hl
  · exact hl
  · simp [hl] at h

theorem oldW_get {W : World} {b o : Nat} {v : Value} (h : W.cell? ⟨b, o, none⟩ = some v) (hv : plainV 0 v = true) : oldW W ⟨b, o, none⟩ = some v := by
  unfold oldW
  rw [h]
  simp [hv, cell_lt h]

section
variable {H : Type} {enc : TypeId × Value → H} {P : Program} {W W' : World}

theorem trodAll_stays (hl : laidOutB P = true) : ∀ {ts : List TypeId} {vs : List Value} {ds : List (DataW H)} {p : List MemPlace}, (∀ t ∈ ts, P.readableRec t = true ∧ t < P.types.size) → DataW.TrodAll enc P W 0 (fun _ => true) true ts vs ds p →
    Below W.heap.size W W' → (∀ x ∈ p, x.block < W.heap.size) → ∀ sp : Nat → Bool, (∀ x ∈ p, sp x.block = true) → DataW.TrodAll enc P W' 0 sp true ts vs ds p
  | [], [], [], p, _, h, _, _, _, _ => h
  | t :: ts, v :: vs, d :: ds, p, hr, h, hb, hlt, sp, hsp => by
    obtain ⟨p1, q, h1, h2, rfl⟩ := h
    obtain ⟨r1, r2⟩ := hr t (by simp)
    exact ⟨p1, q, WideElems.Trod_stays hl r1 r2 h1 (fun x hx => hb.same (hlt x (by simp [hx]))) (fun x hx => hsp x (by simp [hx])),
      trodAll_stays hl (fun u hu => hr u (by simp [hu])) h2 hb (fun x hx => hlt x (by simp [hx])) sp (fun x hx => hsp x (by simp [hx])), rfl⟩
  | [], [], _ :: _, _, _, h, _, _, _, _ => h.elim
  | [], _ :: _, _, _, _, h, _, _, _, _ => h.elim
  | _ :: _, [], _, _, _, h, _, _, _, _ => h.elim
  | _ :: _, _ :: _, [], _, _, h, _, _, _, _ => h.elim

/-- A row of numbers that is given. -/
theorem arg_ints {r : Reach} {b0 : Nat} {t e : TypeId} {k : IntKind} {v : Value} {d : DataW H} {ps : List MemPlace} (ht : P.underlying t = some (.slice e)) (he : P.underlying e = some (.int k)) (hc : P.cellsOf e = 1)
    (hval : Value.okWide P W r b0 t v) (h : DataW.Trod enc P W 0 (fun _ => true) true t v d ps) :
    ∃ (p : Option Addr) (c : Nat) (l : List Int), VR noInj W.heap.size (.slice p l.length c) v ∧ (∀ σ : AHeap, σ.old = oldW W → RdI σ k p l) ∧ l.length ≤ maxLen ∧ ∀ n ∈ l, (Lit.int k n).wf = true := by
  obtain ⟨a0, len, cap, rfl⟩ := okWide_slice ht hval
  obtain ⟨fuel, hf⟩ := h
  rcases open_ints ht he hc hf with ⟨hcs, _⟩ | ⟨a, len', cap', zs, hcs, _, hle, hmx, hz, _, hcell, hw⟩
  · simp [Value.cells] at hcs
    obtain ⟨rfl, rfl, rfl⟩ := hcs
    exact ⟨none, 0, [], .sliceNil 0 0, fun σ _ i hi => (by cases hi), by simp, fun n hn => (by cases hn)⟩
  · simp [Value.cells] at hcs
    obtain ⟨rfl, rfl, rfl⟩ := hcs
    simp only [if_true] at hz
    have hll : (zs.take len).length = len := by rw [List.length_take]; omega
    by_cases h0 : cap = 0
    · have hl0 : len = 0 := by omega
      subst h0
      subst hl0
      exact ⟨some ⟨0, 0, none⟩, 0, [], .sliceZero _ _ (fun v hv => (by cases hv)), fun σ _ i hi => (by cases hi), by simp, fun n hn => (by cases hn)⟩
    · obtain ⟨b, off, rfl, hat⟩ := ints_at hcell (by omega)
      have hb : b < W.heap.size := by
        have := hat 0 (by omega)
        exact cell_lt this
      refine ⟨some ⟨b, off, none⟩, cap, zs.take len, by rw [hll]; exact .sliceOld _ _ hb rfl, fun σ hσ i hi => ⟨_, rfl, ?_⟩, by omega, fun n hn => hw n (List.mem_of_mem_take hn)⟩
      rw [hll] at hi
      have hg : (zs.take len).getD i 0 = zs.getD i 0 := by simp [List.getD, hi]
      have ho := oldW_get (hat i (by omega)) rfl
      rw [hg, Nat.mul_one]
      unfold ld1 AHeap.rdN
      simp only [aadd, oldN, hσ, ho]

/-- A text that is given. -/
theorem arg_string {r : Reach} {b0 : Nat} {t : TypeId} {v : Value} {d : DataW H} {ps : List MemPlace} (ht : P.underlying t = some .string)
    (hval : Value.okWide P W r b0 t v) (h : DataW.Trod enc P W 0 (fun _ => true) true t v d ps) : ∃ s : ByteArray, v = .string s ∧ s.size ≤ maxLen ∧ VR noInj W.heap.size (.string s) v := by
  obtain ⟨s, rfl, _, _, hs⟩ := Go.ChangeMaps.open_string ht hval h
  exact ⟨s, rfl, hs, .string s⟩
end
end Go.Pg
