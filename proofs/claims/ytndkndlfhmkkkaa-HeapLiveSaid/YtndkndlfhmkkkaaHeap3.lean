/- Layer 12: a heap's bytes: numbers that are written, and read; Put. -/
import Derived.Test.YtndkndlfhmkkkaaHeap2
namespace Go.Pg
open Go.Proofs

theorem wp_rdJ {P : Program} {ov : Ov} {σ : AHeap} {k : IntKind} {p : Option Addr} {l : List Int} (h : RdI σ k p l) {j : Nat} (h1 : j < l.length) (f : Int → Pg) (Q : Post) :
    Wp P ov (asSome p fun a => grd (decide (0 ≤ ((j : Nat) : Int)) && decide (((j : Nat) : Int) < ((l.length : Nat) : Int))) (.act (ld1 (aadd a (Int.toNat ((j : Nat) : Int) * 1))) fun v => asInt k v f)) σ Q = Wp P ov (f (l.getD j 0)) σ Q := by
  rw [wp_rdI h (by omega) (by omega), Int.toNat_natCast]
theorem SlV.mayCut {σ : AHeap} {b cap : Nat} {p : Option Addr} {xs : List Value} (h : SlV σ b p cap xs) : mayCut p 1 = true := by
  rcases h with ⟨rfl, _⟩ | ⟨off, s, rfl, h⟩
  · rfl
  · have := h.sesz
    simp [Go.Pg.mayCut, this]
theorem ints_take_succ (k : IntKind) (l : List Int) (j : Nat) (hj : j < l.length) : ints k (l.take (j + 1)) = ints k (l.take j) ++ [.int k (l.getD j 0)] := by
  unfold ints
  rw [List.take_succ_eq_append_getElem hj, List.map_append, List.map_cons, List.map_nil, show l.getD j 0 = l[j] by simp [List.getD, hj]]

/-- A number's bytes, the highest first. -/
def nb (v : Int) : List Int := (List.range 8).map fun j => v / 2 ^ (8 * (7 - j)) % 256
theorem nb_len (v : Int) : (nb v).length = 8 := by simp [nb]
def rdNum (l : List Int) : Int := l.foldl (fun a b => a * 256 + b) 0
theorem rdNum_succ (l : List Int) (j : Nat) (h : j < l.length) : rdNum (l.take (j + 1)) = rdNum (l.take j) * 256 + l[j] := by
  rw [List.take_succ_eq_append_getElem h]
  unfold rdNum
  rw [List.foldl_append]
  rfl
theorem rdNum_nb (v : Int) (h : 0 ≤ v ∧ v < 18446744073709551616) : rdNum (nb v) = v := by
  unfold rdNum nb
  simp only [show List.range 8 = [0, 1, 2, 3, 4, 5, 6, 7] from rfl, List.map_cons, List.map_nil, List.foldl_cons, List.foldl_nil]
  have e0 : (2 : Int) ^ (8 * (7 - 0)) = 72057594037927936 := by rfl
  have e1 : (2 : Int) ^ (8 * (7 - 1)) = 281474976710656 := by rfl
  have e2 : (2 : Int) ^ (8 * (7 - 2)) = 1099511627776 := by rfl
  have e3 : (2 : Int) ^ (8 * (7 - 3)) = 4294967296 := by rfl
  have e4 : (2 : Int) ^ (8 * (7 - 4)) = 16777216 := by rfl
  have e5 : (2 : Int) ^ (8 * (7 - 5)) = 65536 := by rfl
  have e6 : (2 : Int) ^ (8 * (7 - 6)) = 256 := by rfl
  have e7 : (2 : Int) ^ (8 * (7 - 7)) = 1 := by rfl
  rw [e0, e1, e2, e3, e4, e5, e6, e7]
  omega

section
variable {σ : AHeap} {S : Nat} {Y : Nat → Prop} {room turns : Int} {words : List Int} {heads : List Bool}

theorem wp_number {b cap : Nat} {p : Option Addr} {xs : List Int} (h : SlV σ b p cap (ints .u8 xs)) (hl : xs.length ≤ 10000000) (v : Int) {Q : Value → AHeap → Prop}
    (hQ : ∀ σ' b' p' cap', Frm σ σ' (fun j => p ≠ none ∧ j = b) → ((p ≠ none ∧ b' = b) ∨ σ.n ≤ b') → SlV σ' b' p' cap' (ints .u8 (xs ++ nb v)) → Q (.slice p' (xs.length + 8) cap') σ') :
    WpF PROG ov0 49 [.slice p xs.length cap, .int .u64 v] σ Q := by
  refine WpF.of (T49_eq _ _ _ _) rfl ?_
  rw [T49]
  refine Wp.count 8 (fun j st σ' => ∃ q qc b', st = [.int .i64 (7 - (j : Int)), .slice q (xs.length + j) qc] ∧ Frm σ σ' (fun i => p ≠ none ∧ i = b) ∧ SlV σ' b' q qc (ints .u8 (xs ++ (nb v).take j)) ∧ ((q = p ∧ b' = b) ∨ (p ≠ none ∧ b' = b) ∨ σ.n ≤ b') ∧ (j ≠ 0 → (p ≠ none ∧ b' = b) ∨ σ.n ≤ b'))
    ⟨p, cap, b, rfl, Frm.refl _ _, by simpa using h, .inl ⟨rfl, rfl⟩, fun h => absurd rfl h⟩ ?_ ?_
  · rintro j st σ1 hj ⟨q, qc, b', rfl, hF1, hq, hb, _⟩
    have e1 : wi64 (8 * (7 - (j : Int))) = ((8 * (7 - j) : Nat) : Int) := by rw [wi64_in (by omega)]; omega
    have e2 : wi64 (7 - (j : Int) - 1) = 7 - ((j + 1 : Nat) : Int) := by rw [wi64_in (by omega)]; omega
    have e3 : wu8 (shrI .u64 v ((8 * (7 - j) : Nat) : Int)) = (nb v).getD j 0 := by
      rw [shrI_eq .u64 v (8 * (7 - j)) (by show _ ≤ 64; omega), wu8_eq]
      simp [nb, List.getD, hj]
    simp only [T49b0, asCons_cons, asInt_int, asSlice_slice, asNil_nil]
    rw [wp_bif, if_pos (by simp; omega), wp_join, wp_grd, e1]
    refine ⟨decide_eq_true (by omega), ?_⟩
    rw [e3]
    have hln : (xs ++ (nb v).take j).length = xs.length + j := by rw [List.length_append, List.length_take, nb_len]; omega
    refine wp_app1 hq (by rw [List.length_map, hln]) rfl (by omega) (by omega) fun σ2 b2 off s c2 hF2 hb2 hR2 => ?_
    rw [wp_ret]
    simp only [T49k0, sw_same, asCons_cons, asSlice_slice, asNil_nil]
    rw [wp_ret, e2]
    have e : ints .u8 (xs ++ (nb v).take (j + 1)) = ints .u8 (xs ++ (nb v).take j) ++ [.int .u8 ((nb v).getD j 0)] := by
      have := ints_take_succ .u8 (nb v) j (by rw [nb_len]; omega)
      unfold ints at this ⊢
      rw [List.map_append, List.map_append, this, List.append_assoc]
    have hn := hF1.n
    have hb3 : (p ≠ none ∧ b2 = b) ∨ σ.n ≤ b2 := by
      rcases hb2 with ⟨hq', rfl⟩ | hb2
      · rcases hb with ⟨rfl, rfl⟩ | hb | hb
        · exact .inl ⟨hq', rfl⟩
        · exact .inl hb
        · exact .inr hb
      · exact .inr (by omega)
    refine ⟨_, c2, b2, rfl, hF1.trans hF2 (fun _ _ h => h) fun i hi hh => ?_, ?_, .inr hb3, fun _ => hb3⟩
    · rcases hb with ⟨rfl, rfl⟩ | hb | hb
      · exact hh
      · exact ⟨hb.1, hh.2.trans hb.2⟩
      · omega
    · rw [e]
      exact .inr ⟨off, s, rfl, hR2⟩
  · rintro st σ1 ⟨q, qc, b', rfl, hF1, hq, _, hb⟩
    simp only [T49b0, asCons_cons, asInt_int, asSlice_slice, asNil_nil]
    rw [wp_bif, if_neg (by simp), wp_ret]
    simp only [T49k1, sw_same, asCons_cons, asInt_int, asSlice_slice, asNil_nil]
    rw [wp_ret]
    have e : (nb v).take 8 = nb v := by rw [← nb_len v, List.take_length]
    rw [e] at hq
    exact ⟨_, rfl, hQ σ1 b' q qc hF1 (hb (by decide)) hq⟩

/-- A heap's bytes. -/
def putB (room turns : Int) (words : List Int) : List Int := nb (wu64 room) ++ nb (wu64 turns) ++ words.flatMap nb
theorem flat_nb_len (words : List Int) : (words.flatMap nb).length = 8 * words.length := by
  induction words with
  | nil => rfl
  | cons w ws ih => rw [List.flatMap_cons, List.length_append, nb_len, ih, List.length_cons]; omega
theorem putB_len (room turns : Int) (words : List Int) : (putB room turns words).length = 16 + 8 * words.length := by
  unfold putB
  rw [List.length_append, List.length_append, nb_len, nb_len, flat_nb_len]

theorem wp_putB (h : HP σ S Y room turns words heads) (hl : words.length ≤ 100000) {Q : Value → AHeap → Prop}
    (hQ : ∀ σ' b p cap, Frm σ σ' NoB → SlV σ' b p cap (ints .u8 (putB room turns words)) → σ.n ≤ b → Q (.slice p (putB room turns words).length cap) σ') : WpF PROG ov0 27 [PV S] σ Q := by
  obtain ⟨h0, cw, ch, h1, h2⟩ := h
  obtain ⟨pw, capw, ph, caph, a1, a2, a3, a4, a5, a6⟩ := h1.blk
  refine WpF.of (T27_eq _) rfl ?_
  rw [T27]
  simp only [asSome_some]
  rw [wp_ldF a1 rfl, asInt_int, wp_call]
  refine wp_number (xs := []) (b := 0) (.inl ⟨rfl, rfl, rfl⟩) (by simp) _ fun σ1 b1 p1 c1 hF1 hb1 hR1 => ?_
  have hF1' : Frm σ σ1 NoB := hF1.mono fun _ _ h => h.1 rfl
  have hb1' : σ.n ≤ b1 := by
    rcases hb1 with hb1 | hb1
    · exact absurd rfl hb1.1
    · exact hb1
  rw [asSlice_slice, wp_ldF (hF1'.stN a1) rfl, asInt_int, wp_call]
  rw [List.nil_append] at hR1
  have hR1l : ([] : List Int).length + 8 = (nb (wu64 room)).length := by rw [nb_len]; rfl
  rw [hR1l]
  refine wp_number hR1 (by rw [nb_len]; omega) _ fun σ2 b2 p2 c2 hF2 hb2 hR2 => ?_
  have hn1 := hF1.n
  have hF12 : Frm σ σ2 NoB := hF1'.fresh hF2 fun j hj h => by omega
  have hb2' : σ.n ≤ b2 := by
    rcases hb2 with hb2 | hb2 <;> omega
  rw [asSlice_slice, wp_ldF (hF12.stN a1) rfl, asSlice_slice]
  have hR2l : (nb (wu64 room)).length + 8 = (nb (wu64 room) ++ nb (wu64 turns)).length := by rw [List.length_append, nb_len, nb_len]
  rw [hR2l]
  refine Wp.count words.length (fun j st σ' => ∃ q qc b', st = [.int .i64 ((j : Nat) : Int), .slice q (nb (wu64 room) ++ nb (wu64 turns) ++ (words.take j).flatMap nb).length qc] ∧ Frm σ σ' NoB ∧ SlV σ' b' q qc (ints .u8 (nb (wu64 room) ++ nb (wu64 turns) ++ (words.take j).flatMap nb)) ∧ σ.n ≤ b')
    ⟨p2, c2, b2, by rw [List.take_zero, List.flatMap_nil, List.append_nil]; rfl, hF12, by rw [List.take_zero, List.flatMap_nil, List.append_nil]; exact hR2, hb2'⟩ ?_ ?_
  · rintro j st σ3 hj ⟨q, qc, b', rfl, hF3, hq, hb'⟩
    have ej : wi64 ((j : Int) + 1) = ((j + 1 : Nat) : Int) := by rw [wi64_in (by omega)]; omega
    have hw := (a2.frm hF3 fun _ h => h).rdB.rd
    simp only [T27b0, asCons_cons, asInt_int, asSlice_slice, asNil_nil]
    rw [wp_bif, if_pos (by simp; omega), wp_join, wp_rdJ hw hj, wp_call]
    refine wp_number hq (by rw [List.length_append, List.length_append, nb_len, nb_len, flat_nb_len, List.length_take]; omega) _ fun σ4 b4 p4 c4 hF4 hb4 hR4 => ?_
    rw [asSlice_slice, wp_ret]
    simp only [T27k0, sw_same, asCons_cons, asSlice_slice, asNil_nil]
    rw [wp_ret, ej]
    have e : (words.take (j + 1)).flatMap nb = (words.take j).flatMap nb ++ nb (words.getD j 0) := by
      rw [List.take_succ_eq_append_getElem hj, List.flatMap_append, List.flatMap_cons, List.flatMap_nil, List.append_nil, show words.getD j 0 = words[j] by simp [List.getD, hj]]
    have hn3 := hF3.n
    refine ⟨p4, c4, b4, ?_, hF3.fresh hF4 fun i hi h => by omega, ?_, by rcases hb4 with hb4 | hb4 <;> omega⟩
    · have el : ∀ (A : List Int) (x : Int), (A ++ nb x).length = A.length + 8 := fun A x => by rw [List.length_append, nb_len]
      rw [e, ← List.append_assoc, el]
    · rw [e, ← List.append_assoc]
      exact hR4
  · rintro st σ3 ⟨q, qc, b', rfl, hF3, hq, hb'⟩
    rw [List.take_length] at hq ⊢
    simp only [T27b0, asCons_cons, asInt_int, asSlice_slice, asNil_nil]
    rw [wp_bif, if_neg (by simp), wp_ret]
    simp only [T27k1, sw_same, asCons_cons, asInt_int, asSlice_slice, asNil_nil]
    rw [wp_ret]
    exact ⟨_, rfl, hQ σ3 b' q qc hF3 hq hb'⟩

/-- Eight bytes that are read. -/
theorem ev_read {p : Option Addr} {l : List Int} (hp : RdI σ .u8 p l) (h8 : 8 ≤ l.length) (hb : ∀ x ∈ l, 0 ≤ x ∧ x ≤ 255) (hm : mayCut p 1 = true) (n c : Nat) (hc : 8 ≤ c) : EvF PROG ov0 51 [.slice p n c] σ (.int .u64 (rdNum (l.take 8))) σ := by
  refine EvF.of (T51_eq _ _ _) rfl ?_
  rw [T51, wp_grd]
  refine ⟨by simp; omega, ?_⟩
  have bnd : ∀ j, j ≤ 8 → 0 ≤ rdNum (l.take j) ∧ rdNum (l.take j) < 256 ^ j := by
    intro j
    induction j with
    | zero => intro _; simp [rdNum]
    | succ j ih =>
      intro hj
      have := ih (by omega)
      have hx := hb l[j] (List.getElem_mem (by omega))
      rw [rdNum_succ l j (by omega), Int.pow_succ]
      omega
  refine Wp.count 8 (fun j st σ' => st = [.int .i64 ((j : Nat) : Int), .int .u64 (rdNum (l.take j))] ∧ σ' = σ) ⟨by simp [rdNum], rfl⟩ ?_ ?_
  · rintro j st σ1 hj ⟨rfl, rfl⟩
    have ej : wi64 ((j : Int) + 1) = ((j + 1 : Nat) : Int) := by rw [wi64_in (by omega)]; omega
    obtain ⟨a, rfl, hr⟩ := hp j (by omega)
    have e0 : l.getD j 0 = l[j] := by simp [List.getD, show j < l.length by omega]
    rw [e0] at hr
    have hx := hb l[j] (List.getElem_mem (by omega))
    have hbj := bnd j (by omega)
    have hp7 : (256 : Int) ^ j ≤ 256 ^ 7 := by
      have : j ≤ 7 := by omega
      have h2 := Nat.pow_le_pow_right (n := 256) (by decide) this
      have h3 : ((256 ^ j : Nat) : Int) ≤ ((256 ^ 7 : Nat) : Int) := Int.ofNat_le.2 h2
      rw [Int.natCast_pow, Int.natCast_pow] at h3
      exact h3
    have e := rdNum_succ l j (by omega)
    have eo : orI .u64 (shlI .u64 (rdNum (l.take j)) 8) (wu64 l[j]) = rdNum (l.take (j + 1)) := by
      have h1 := shlI_eq .u64 (rdNum (l.take j)) 8 (by decide)
      have h2 : IntKind.u64.wrap (rdNum (l.take j) * 2 ^ 8) = rdNum (l.take j) * 256 := by
        show wu64 _ = _
        rw [wu64_in (by omega)]
        rfl
      have h3 : shlI .u64 (rdNum (l.take j)) 8 = rdNum (l.take j) * 256 := h1.trans h2
      rw [h3, wu64_in (by omega), orI_disj .u64 _ l[j] (rdNum (l.take j)) 8 (by rfl) (by omega) (by decide)]
      show wu64 _ = _
      rw [wu64_in (by omega), e]
    simp only [T51b0, asCons_cons, asInt_int, asNil_nil, asSome_some]
    rw [wp_bif, if_pos (by simp; omega), wp_join, wp_grd]
    refine ⟨by simp; omega, ?_⟩
    rw [Int.toNat_natCast, wp_act, hr]
    simp only [asInt_int]
    rw [wp_ret, eo]
    simp only [T51k0, sw_same, asCons_cons, asInt_int, asNil_nil]
    rw [wp_ret, ej]
    exact ⟨rfl, rfl⟩
  · rintro st σ1 ⟨rfl, rfl⟩
    simp only [T51b0, asCons_cons, asInt_int, asNil_nil]
    rw [wp_bif, if_neg (by simp), wp_ret]
    simp only [T51k1, sw_same, asCons_cons, asInt_int, asNil_nil]
    rw [wp_ret]
    exact ⟨rfl, rfl⟩
end
end Go.Pg
