/- Layer 5: types as texts. -/
import Derived.Test.YtoilldfibaeokaaDoorTyQ
namespace Go.Pg
open Go.Proofs Go.Lib

theorem bs_size (l : List UInt8) : (bs l).size = l.length := rfl
theorem bs_self (s : ByteArray) : bs s.data.toList = s := rfl
theorem bs_app (l m : List UInt8) : bs l ++ bs m = bs (l ++ m) := by
  apply ByteArray.ext
  apply Array.ext'
  simp [bs]

/-- A variable's letter, by its place. -/
def letB (i : Nat) : List UInt8 := 39 :: (if i < 26 then [UInt8.ofNat (97 + i)] else decDigits (i + 1))
/-- A variable's text. -/
def nmOf : Nat → List Int → Int → List UInt8
  | _, [], _ => []
  | i, x :: l, v => if x = v then letB i else nmOf (i + 1) l v
def showN (nm : Int → List UInt8) (a : TA) (xs : List (List UInt8)) : List UInt8 :=
  if a.kind = 7 then nm a.var
  else if a.kind = 5 ∧ xs.length = 2 then [40] ++ xs.getD 0 [] ++ [32, 45, 62, 32] ++ xs.getD 1 [] ++ [41]
  else if a.kind = 6 ∧ xs.length = 1 then [40] ++ xs.getD 0 [] ++ [32, 114, 101, 102, 41]
  else if a.kind = 1 then [105, 110, 116]
  else if a.kind = 2 then [98, 111, 111, 108]
  else if a.kind = 3 then [117, 110, 105, 116]
  else if a.kind = 4 then a.name.data.toList
  else []
mutual
def showM (nm : Int → List UInt8) : AT → List UInt8
  | .mk d l => showN nm d.1 (showL nm l)
def showL (nm : Int → List UInt8) : List AT → List (List UInt8)
  | [] => []
  | a :: l => showM nm a :: showL nm l
end
theorem showL_map (nm : Int → List UInt8) : ∀ l : List AT, showL nm l = l.map (showM nm)
  | [] => by rw [showL]; rfl
  | a :: l => by rw [showL, showL_map nm l]; rfl
theorem showM_eq (nm : Int → List UInt8) (t : AT) : showM nm t = showN nm t.a.1 (t.args.map (showM nm)) := by
  cases t
  rw [showM, showL_map]
  rfl
mutual
theorem showM_strip (nm : Int → List UInt8) : ∀ (t u : AT), strip t = strip u → showM nm t = showM nm u
  | .mk d l, .mk e m, h => by
    obtain ⟨h1, h2⟩ := strip_inj h
    have h1 : d.1 = e.1 := h1
    have h2 : stripL l = stripL m := h2
    rw [showM, showM, showL_strip nm l m h2, h1]
theorem showL_strip (nm : Int → List UInt8) : ∀ (l m : List AT), stripL l = stripL m → showL nm l = showL nm m
  | [], [], _ => rfl
  | [], _ :: _, h => by rw [stripL, stripL] at h; cases h
  | _ :: _, [], h => by rw [stripL, stripL] at h; cases h
  | a :: l, b :: m, h => by
    rw [stripL, stripL] at h
    injection h with h1 h2
    rw [showL, showL, showM_strip nm a b h1, showL_strip nm l m h2]
end
def esN : Nat → List Int → List (Value × Value)
  | _, [] => []
  | i, x :: l => (.int .i64 x, .string (bs (letB i))) :: esN (i + 1) l
theorem esN_find (v : Int) : ∀ (l : List Int) (i : Nat), mapFind (.int .i64) (.int .i64 v) (esN i l) = some (if v ∈ l then some (.string (bs (nmOf i l v))) else none)
  | [], i => rfl
  | x :: l, i => by
    simp only [esN, mapFind, same_int_of, nmOf]
    by_cases h : v = x
    · subst h
      simp
    · have : (v == x) = false := by simpa using h
      simp only [this, esN_find v l (i + 1), if_neg (Ne.symm h), List.mem_cons, h, false_or]
theorem nmOf_no {v : Int} : ∀ {l : List Int} {i : Nat}, v ∉ l → nmOf i l v = []
  | [], _, _ => rfl
  | x :: l, i, h => by
    simp only [List.mem_cons, not_or] at h
    rw [nmOf, if_neg (Ne.symm h.1), nmOf_no h.2]
theorem esN_set (v : Int) : ∀ (l : List Int) (i : Nat), v ∉ l → mapSet (.int .i64) (.int .i64 v) (.string (bs (letB (i + l.length)))) (esN i l) = some (esN i (l ++ [v]))
  | [], i, _ => rfl
  | x :: l, i, h => by
    simp only [List.mem_cons, not_or] at h
    have hx : (v == x) = false := by simpa using h.1
    have := esN_set v l (i + 1) h.2
    rw [show i + (x :: l).length = i + 1 + l.length by simp; omega]
    simp only [esN, List.cons_append, mapSet, same_int_of, hx, this]
theorem esN_lkp {σ : AHeap} {q : Nat} {l : List Int} (h : σ.getMap q = some (esN 0 l)) (v : Int) : lkp (.int .i64) (.string (bs [])) (some q) (.int .i64 v) false σ = some (.string (bs (nmOf 0 l v)), σ) := by
  unfold lkp
  simp only [h, Option.map_some, esN_find]
  by_cases hv : v ∈ l
  · rw [if_pos hv]
    rfl
  · rw [if_neg hv, nmOf_no hv]
    rfl
mutual
theorem varsM_nodup : ∀ (t : AT) (acc : List Int), acc.Nodup → (varsM t acc).Nodup
  | .mk d l, acc, h => by
    rw [varsM]
    split
    · split
      · exact h
      · rename_i h2
        rw [List.nodup_append]
        refine ⟨h, by simp, fun a ha b hb => ?_⟩
        simp only [List.mem_singleton] at hb
        subst hb
        intro e
        subst e
        exact h2 (List.any_eq_true.2 ⟨_, ha, by simp⟩)
    · exact varsL_nodup l acc h
theorem varsL_nodup : ∀ (l : List AT) (acc : List Int), acc.Nodup → (varsL l acc).Nodup
  | [], acc, h => by rw [varsL]; exact h
  | a :: l, acc, h => by rw [varsL]; exact varsL_nodup l _ (varsM_nodup a acc h)
end

theorem dec_len : ∀ (k u : Nat), u < 10 ^ (k + 1) → (decDigits u).length ≤ k + 1
  | k, u, h => by
    rw [decDigits]
    split
    · simp
    · rename_i h1
      cases k with
      | zero => simp at h; omega
      | succ k =>
        have := dec_len k (u / 10) (by rw [Nat.pow_succ] at h; omega)
        simp
        omega

section
variable {σ : AHeap}
theorem wp_byteStr {P : Program} {ov : Ov} {x : Int} {g : ByteArray → Pg} {Q : Post} (k : ∀ σ', Frm σ σ' NoB → Wp P ov (g (bs [UInt8.ofNat x.toNat])) σ' Q) :
    Wp P ov (.act (bdSl 1 1 [.int .u8 x]) fun v7 => asSlice v7 fun p8 n9 n10 => .act (bytesToStringAct (.slice p8 n9 n10)) fun v11 => asStr v11 g) σ Q := by
  rw [wp_act, bdSl_eq]
  simp only [asSlice_slice]
  have hF := Frm.new σ [.int .u8 x] 1 NoB
  have hN := Row.new σ 1 [.int .u8 x] 1 (by decide) rfl (by intro y hy; simp at hy; subst hy; rfl)
  have hr : (σ.newBlk [.int .u8 x] 1).rdN ⟨σ.n, 0, some 1⟩ 1 = some [.int .u8 x] := hN.rdN (i := 0) (k := 1) (by simp)
  rw [wp_act]
  unfold bytesToStringAct
  simp only [hr, bytesOfCells]
  exact k _ hF
end

theorem EvF.ov {P : Program} {ov : Ov} {f : FuncId} {g : List Value → Act} {args : List Value} {σ σ' : AHeap} {v : Value} (h : ov f = some g) (hg : g args σ = some (v, σ')) : EvF P ov f args σ v σ' :=
  ⟨1, fun n hn => by
    cases n with
    | zero => omega
    | succ n =>
      unfold execFn
      rw [h]
      exact hg⟩

theorem letB_enc : ∀ i : Fin 26, Utf8.encode (wi32 (wi64 (97 + (i.1 : Int)))) = bs [UInt8.ofNat (97 + i.1)] := by decide +kernel

theorem itoaG_eq {n : Int} (h1 : -9223372036854775808 ≤ n) (h2 : n ≤ 9223372036854775807) : itoaG [.int .i64 n] = some (.string (bs (itoa n))) := by
  unfold itoaG
  have : (decide (-9223372036854775808 ≤ n) && decide (n ≤ 9223372036854775807)) = true := by simp [h1, h2]
  simp only [this, cond_true]
  rfl
theorem ovPure_some {g : List Value → Option Value} {args : List Value} {v : Value} {σ : AHeap} (h : g args = some v) : ovPure g args σ = some (v, σ) := by
  unfold ovPure
  rw [h]
theorem itoaG_nat {n : Int} {u : Nat} (h : n = (u : Int)) (_h0 : 0 ≤ n) (h1 : n ≤ 9223372036854775807) (σ : AHeap) : ovPure itoaG [.int .i64 n] σ = some (.string (bs (decDigits u)), σ) := by
  refine ovPure_some ?_
  rw [itoaG_eq (by omega) h1, h, itoa_nonneg]
section
variable {ov : Ov}
theorem wp_letter (hO : OvT ov) (hI : ov 55 = some (ovPure itoaG)) (i : Nat) (hi : i ≤ 1000000) (σ : AHeap) : WpF PROG ov 42 [.int .i64 (i : Int)] σ fun v σ' => v = .string (bs (letB i)) ∧ σ = σ' := by
  refine WpF.of (T42_eq _) (hO _ (by decide) (by decide) (by decide)) ?_
  rw [T42, wp_bif]
  unfold letB
  by_cases h : i < 26
  · rw [if_pos (by simp; omega), wp_grd, letB_enc ⟨i, h⟩, bs_app, if_pos h]
    refine ⟨by rw [Nat.ble_eq, bs_size]; simp, ?_⟩
    rw [wp_ret]
    exact ⟨_, rfl, rfl, rfl⟩
  · rw [if_neg (by simp; omega), wp_call, if_neg h, wi64_in (by omega)]
    refine ⟨_, _, EvF.ov (g := ovPure itoaG) hI (σ' := σ) (v := .string (bs (decDigits (i + 1)))) ?_, ?_⟩
    · exact itoaG_nat (by omega) (by omega) (by omega) σ
    · have := dec_len 19 (i + 1) (by omega)
      simp only [asStr_str]
      rw [wp_grd]
      refine ⟨by rw [Nat.ble_eq, bs_size]; omega, ?_⟩
      rw [bs_app, wp_ret]
      exact ⟨_, rfl, rfl, rfl⟩

theorem wp_digN (hO : OvT ov) : ∀ (m n : Nat), n ≤ m → n ≤ 9223372036854775807 → ∀ (σ : AHeap), RetO ov 56 [.int .i64 (n : Nat)] σ (.string (bs (decDigits n)))
  | m, n, hm, hn, σ => by
    refine WpF.of (T56_eq _) (hO _ (by decide) (by decide) (by decide)) ?_
    rw [T56, wp_bif, if_neg (by simp), wp_bif]
    by_cases h : n < 10
    · rw [if_pos (by simp; omega)]
      have e1 : wi64 (48 + (n : Int)) = 48 + (n : Int) := wi64_in (by omega)
      have e2 : wu8 (48 + (n : Int)) = 48 + (n : Int) := wu8_in (by omega)
      rw [e1, e2]
      refine wp_byteStr fun σ1 hF1 => ?_
      rw [wp_ret, decDigits, dif_pos h, show (48 + (n : Int)).toNat = 48 + n by omega]
      exact ⟨_, rfl, rfl, hF1⟩
    · rw [if_neg (by simp; omega)]
      have e1 : Int.tdiv (n : Int) 10 = ((n / 10 : Nat) : Int) := by rw [Int.tdiv_eq_ediv_of_nonneg (by omega)]; omega
      have e2 : wi64 ((n / 10 : Nat) : Int) = ((n / 10 : Nat) : Int) := wi64_in (by omega)
      have e3 : Int.tmod (n : Int) 10 = ((n % 10 : Nat) : Int) := by rw [Int.tmod_eq_emod_of_nonneg (by omega)]; omega
      rw [e1, e2, e3, wp_call]
      cases m with
      | zero => omega
      | succ m =>
        refine WpF.mono (wp_digN hO m (n / 10) (by omega) (by omega) σ) ?_
        rintro _ σ1 ⟨rfl, hF1⟩
        rw [asStr_str, wp_call]
        refine WpF.mono (wp_digN hO m (n % 10) (by omega) (by omega) σ1) ?_
        rintro _ σ2 ⟨rfl, hF2⟩
        have hl1 := dec_len 19 (n / 10) (by omega)
        have hl2 := dec_len 19 (n % 10) (by omega)
        rw [asStr_str, wp_grd]
        refine ⟨by rw [Nat.ble_eq, bs_size, bs_size]; omega, ?_⟩
        rw [bs_app, wp_ret]
        have e : decDigits n = decDigits (n / 10) ++ decDigits (n % 10) := by
          rw [decDigits, dif_neg h, show decDigits (n % 10) = [UInt8.ofNat (48 + n % 10)] by rw [decDigits, dif_pos (by omega)]]
        rw [e]
        exact ⟨_, rfl, rfl, hF1.seq hF2⟩

/-- An element of a type's row, whole, now and later. -/
theorem row_at {σ : AHeap} {p : Option Addr} {l : List AT} (h : RowOf σ NoB 4 (fun cs (u : AT) => cs = u.c ∧ AFull σ u) p l) {i : Nat} (hi : i < l.length) : ∃ x, p = some x ∧ AFull σ l[i] ∧ ∀ σ', Frm σ σ' NoB → ldN 4 (aadd x (i * 4)) σ' = some (.agg l[i].c.toArray, σ') := by
  obtain ⟨x, cs, q1, q2, q3, q4, q5⟩ := h i hi
  refine ⟨x, q1, q5, fun σ' hF => ?_⟩
  unfold ldN
  have := rdN_keep (k := i * 4) (n := 4) hF q2 fun _ _ h => h
  rw [this, q3, q4]
end
end Go.Pg
