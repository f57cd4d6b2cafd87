/- Layer 1: each class has none of another's; upper-case letters are letters. -/
import Derived.Test.YtniknfiaapcmlaaDoorRunes
import Derived.Test.YtniknfiaapcmlaaDoorTCc
namespace Go.Pg
open Go.Proofs Go.Utf8 Go.Lib

abbrev ovU : Ov := fun k => bif Nat.beq k 20 then some (ovPure letterG) else (fun k => bif Nat.beq k 21 then some (ovPure upperG) else (ov0) k) k

theorem EvF.ov {P : Program} {ov : Ov} {f : FuncId} {g : List Value → Act} {args : List Value} {σ σ' : AHeap} {v : Value} (h : ov f = some g) (hg : g args σ = some (v, σ')) : EvF P ov f args σ v σ' :=
  ⟨1, fun n hn => by
    cases n with
    | zero => omega
    | succ n =>
      unfold execFn
      rw [h]
      exact hg⟩

def rOK (r : Int) : Prop := -2147483648 ≤ r ∧ r ≤ 2147483647
theorem ev_letter {r : Int} (h : rOK r) (σ : AHeap) : EvF PROG ovU 20 [.int .i32 r] σ (.bool (isLetterU r)) σ :=
  EvF.ov (g := ovPure letterG) rfl (by unfold ovPure letterG; simp [h.1, h.2])
theorem ev_upper {r : Int} (h : rOK r) (σ : AHeap) : EvF PROG ovU 21 [.int .i32 r] σ (.bool (isUpperU r)) σ :=
  EvF.ov (g := ovPure upperG) rfl (by unfold ovPure upperG; simp [h.1, h.2])

def marks : List Int := [40, 41, 44, 59, 61, 60, 62, 43, 45, 42, 124, 33, 58]
def clsF (r : Int) : Int := if r = 95 ∨ r = 39 ∨ isLetterU r = true then 1 else if 48 ≤ r ∧ r ≤ 57 then 2 else if r = 32 ∨ r = 9 ∨ r = 10 ∨ r = 13 then 3 else if r ∈ marks then 4 else 0

theorem cls_1 {r : Int} (h : r = 95 ∨ r = 39 ∨ isLetterU r = true) : clsF r = 1 := by unfold clsF; rw [if_pos h]
theorem cls_2 {r : Int} (h : ¬ (r = 95 ∨ r = 39 ∨ isLetterU r = true)) (h2 : 48 ≤ r ∧ r ≤ 57) : clsF r = 2 := by unfold clsF; rw [if_neg h, if_pos h2]
theorem cls_3 {r : Int} (h : ¬ (r = 95 ∨ r = 39 ∨ isLetterU r = true)) (h2 : ¬ (48 ≤ r ∧ r ≤ 57)) (h3 : r = 32 ∨ r = 9 ∨ r = 10 ∨ r = 13) : clsF r = 3 := by unfold clsF; rw [if_neg h, if_neg h2, if_pos h3]
theorem cls_4 {r : Int} (h : ¬ (r = 95 ∨ r = 39 ∨ isLetterU r = true)) (h2 : ¬ (48 ≤ r ∧ r ≤ 57)) (h3 : ¬ (r = 32 ∨ r = 9 ∨ r = 10 ∨ r = 13)) (h4 : r ∈ marks) : clsF r = 4 := by unfold clsF; rw [if_neg h, if_neg h2, if_neg h3, if_pos h4]
theorem cls_0 {r : Int} (h : ¬ (r = 95 ∨ r = 39 ∨ isLetterU r = true)) (h2 : ¬ (48 ≤ r ∧ r ≤ 57)) (h3 : ¬ (r = 32 ∨ r = 9 ∨ r = 10 ∨ r = 13)) (h4 : ¬ r ∈ marks) : clsF r = 0 := by unfold clsF; rw [if_neg h, if_neg h2, if_neg h3, if_neg h4]

theorem ev_class {r : Int} (h : rOK r) (σ : AHeap) : EvF PROG ovU 12 [.int .i32 r] σ (.int .i64 (clsF r)) σ := by
  refine EvF.of (T12_eq _) rfl ?_
  rw [T12, wp_join, wp_join, wp_bif]
  by_cases h1 : r = 95 ∨ r = 39
  · have h1' : ((r == 95) || (r == 39)) = true := by simpa using h1
    have hc : clsF r = 1 := cls_1 (by rcases h1 with h1 | h1 <;> simp [h1])
    rw [if_neg (by rw [h1']; simp), hc]
    simp [wp_ret, T12k0, T12k17, sw_same, asCons_cons, asBool_bool, asInt_int, asNil_nil]
  · have h1' : ((r == 95) || (r == 39)) = false := by simpa using h1
    rw [if_pos (by rw [h1']; rfl), wp_call, WpF.eq (ev_letter h σ)]
    simp only [asBool_bool, wp_ret, T12k0, sw_same, asCons_cons, asNil_nil, wp_bif]
    by_cases h2 : isLetterU r = true
    · rw [if_pos h2, cls_1 (.inr (.inr h2))]
      simp [wp_ret, T12k17, sw_same, asCons_cons, asInt_int, asNil_nil]
    · have n1 : ¬ (r = 95 ∨ r = 39 ∨ isLetterU r = true) := fun h => h.elim (fun h => h1 (.inl h)) fun h => h.elim (fun h => h1 (.inr h)) h2
      rw [if_neg h2]
      by_cases h3 : 48 ≤ r ∧ r ≤ 57
      · rw [if_pos (by simpa using h3), cls_2 n1 h3]
        simp [wp_ret, T12k17, sw_same, asCons_cons, asInt_int, asNil_nil]
      · rw [if_neg (by simpa using h3)]
        simp only [T12k17, sw_same, sw_nr, asCons_cons, asInt_int, asNil_nil]
        by_cases b1 : r = 32
        · rw [cls_3 n1 h3 (by simp [b1])]; subst b1; simp [wp_ret, wp_join, T12k15, T12k16, sw_same, asCons_cons, asInt_int, asBool_bool, asNil_nil]
        by_cases b2 : r = 9
        · rw [cls_3 n1 h3 (by simp [b2])]; subst b2; simp [wp_ret, wp_join, T12k15, T12k16, T12k2, sw_same, asCons_cons, asInt_int, asBool_bool, asNil_nil]
        by_cases b3 : r = 10
        · rw [cls_3 n1 h3 (by simp [b3])]; subst b3; simp [wp_ret, wp_join, T12k15, T12k16, T12k1, T12k2, sw_same, asCons_cons, asInt_int, asBool_bool, asNil_nil]
        by_cases b4 : r = 13
        · rw [cls_3 n1 h3 (by simp [b4])]; subst b4; simp [wp_ret, wp_join, T12k15, T12k16, T12k1, T12k2, sw_same, asCons_cons, asInt_int, asBool_bool, asNil_nil]
        have n3 : ¬ (r = 32 ∨ r = 9 ∨ r = 10 ∨ r = 13) := by simp only [b1, b2, b3, b4, or_self, not_false_eq_true]
        by_cases hm : r ∈ marks
        · rw [cls_4 n1 h3 n3 hm]
          unfold marks at hm
          simp only [List.mem_cons, List.mem_nil_iff, or_false] at hm
          rcases hm with rfl | rfl | rfl | rfl | rfl | rfl | rfl | rfl | rfl | rfl | rfl | rfl | rfl <;>
            simp [wp_ret, wp_join, T12k15, T12k16, T12k1, T12k2, T12k3, T12k4, T12k5, T12k6, T12k7, T12k8, T12k9, T12k10, T12k11, T12k12, T12k13, T12k14, sw_same, asCons_cons, asInt_int, asBool_bool, asNil_nil]
        · rw [cls_0 n1 h3 n3 hm]
          unfold marks at hm
          simp only [List.mem_cons, List.mem_nil_iff, or_false, not_or] at hm
          obtain ⟨m1, m2, m3, m4, m5, m6, m7, m8, m9, m10, m11, m12, m13⟩ := hm
          have q : ∀ k : Int, ¬ r = k → (r == k) = false := fun k hk => by simpa using hk
          simp [wp_ret, wp_join, wp_bif, T12k15, T12k16, T12k1, T12k2, T12k3, T12k4, T12k5, T12k6, T12k7, T12k8, T12k9, T12k10, T12k11, T12k12, T12k13, T12k14, sw_same, sw_nr, asCons_cons, asInt_int, asBool_bool, asNil_nil, b1, b2, b3, b4, m1, m2, m3, m4, m5, m6, m7, m8, m9, m10, m11, m12, m13]

theorem mark_at (j : Nat) (hj : j < 13) : wi32 (byteAt (bs [40, 41, 44, 59, 61, 60, 62, 43, 45, 42, 124, 33, 58]) j) = marks.getD j 0 := by
  have : j = 0 ∨ j = 1 ∨ j = 2 ∨ j = 3 ∨ j = 4 ∨ j = 5 ∨ j = 6 ∨ j = 7 ∨ j = 8 ∨ j = 9 ∨ j = 10 ∨ j = 11 ∨ j = 12 := by omega
  rcases this with rfl | rfl | rfl | rfl | rfl | rfl | rfl | rfl | rfl | rfl | rfl | rfl | rfl <;> decide

theorem ev_class' {r : Int} (h : rOK r) (σ : AHeap) : EvF PROG ovU 14 [.int .i32 r] σ (.int .i64 (clsF r)) σ := by
  refine EvF.of (T14_eq _) rfl ?_
  rw [T14, wp_join, wp_join, wp_bif]
  by_cases h1 : r = 95 ∨ r = 39
  · have h1' : ((r == 95) || (r == 39)) = true := by simpa using h1
    have hc : clsF r = 1 := cls_1 (by rcases h1 with h1 | h1 <;> simp [h1])
    rw [if_neg (by rw [h1']; simp), hc]
    simp [wp_ret, T14k0, T14k3, sw_same, asCons_cons, asBool_bool, asInt_int, asNil_nil]
  · have h1' : ((r == 95) || (r == 39)) = false := by simpa using h1
    rw [if_pos (by rw [h1']; rfl), wp_call, WpF.eq (ev_letter h σ)]
    simp only [asBool_bool, wp_ret, T14k0, sw_same, asCons_cons, asNil_nil, wp_bif]
    by_cases h2 : isLetterU r = true
    · rw [if_pos h2, cls_1 (.inr (.inr h2))]
      simp [wp_ret, T14k3, sw_same, asCons_cons, asInt_int, asNil_nil]
    · have n1 : ¬ (r = 95 ∨ r = 39 ∨ isLetterU r = true) := fun h => h.elim (fun h => h1 (.inl h)) fun h => h.elim (fun h => h1 (.inr h)) h2
      rw [if_neg h2]
      by_cases h3 : 48 ≤ r ∧ r ≤ 57
      · rw [if_pos (by simpa using h3), cls_2 n1 h3]
        simp [wp_ret, T14k3, sw_same, asCons_cons, asInt_int, asNil_nil]
      · rw [if_neg (by simpa using h3)]
        by_cases h4 : r = 32 ∨ r = 9 ∨ r = 10 ∨ r = 13
        · rw [cls_3 n1 h3 h4, if_pos (by rcases h4 with h4 | h4 | h4 | h4 <;> simp [h4])]
          simp [wp_ret, T14k3, sw_same, asCons_cons, asInt_int, asNil_nil]
        · rw [if_neg (by simpa [not_or, and_assoc] using h4)]
          simp only [T14k3, sw_same, sw_nr, asCons_cons, asInt_int, asNil_nil]
          refine Wp.count 13 (fun j st σ' => σ' = σ ∧ st = [.int .i64 ((j : Nat) : Int), .int .i64 0] ∧ ∀ i, i < j → r ≠ marks.getD i 0) ⟨rfl, rfl, fun i hi => by omega⟩ ?_ ?_
          · rintro j st σ' hj ⟨rfl, rfl, hall⟩
            have e1 : wi64 ((j : Int) + 1) = (j : Int) + 1 := wi64_in (by omega)
            simp only [T14b0, asCons_cons, asInt_int, asNil_nil]
            rw [wp_bif, if_pos (by simp; omega), wp_join, wp_grd]
            refine ⟨by simp; omega, ?_⟩
            rw [Int.toNat_natCast, mark_at j hj, wp_bif]
            by_cases hm : r = marks.getD j 0
            · rw [if_pos (by simpa only [beq_iff_eq] using hm), cls_4 n1 h3 h4 (by
                rw [hm]
                have : marks.getD j 0 = marks[j]'(by simpa [marks] using hj) := by simp [List.getD, marks, hj]
                rw [this]
                exact List.getElem_mem _)]
              simp [wp_ret, T14k1, T14k2, sw_same, sw_re, asCons_cons, asInt_int, asNil_nil]
            · rw [if_neg (by simpa only [beq_iff_eq] using hm)]
              simp only [wp_ret, T14k1, sw_same, sw_nr, asCons_cons, asInt_int, asNil_nil, e1]
              refine ⟨trivial, by simp, fun i hi => ?_⟩
              by_cases hij : i = j
              · subst hij; exact hm
              · exact hall i (by omega)
          · rintro st σ' ⟨rfl, rfl, hall⟩
            have hm : ¬ r ∈ marks := by
              intro hm
              obtain ⟨i, hi, he⟩ := List.getElem_of_mem hm
              have hi' : i < 13 := by simpa [marks] using hi
              refine hall i hi' ?_
              rw [← he]
              simp [List.getD, hi]
            rw [cls_0 n1 h3 h4 hm]
            simp only [T14b0, asCons_cons, asInt_int, asNil_nil]
            rw [wp_bif, if_neg (by simp)]
            simp [wp_ret, T14k2, sw_same, asCons_cons, asInt_int, asNil_nil]

/-- Upper, of a text that is not empty. -/
theorem dec_i32 (s : ByteArray) (p : Nat) : rOK ((Utf8.decode s p).1 : Nat) := by
  rw [decode_dec]
  have hb : ∀ i, byteN s i < 256 := fun i => by unfold byteN; exact UInt8.toNat_lt _
  unfold dec rOK
  simp only
  have g0 := hb p; have g1 := hb (p + 1); have g2 := hb (p + 2); have g3 := hb (p + 3)
  repeat' split
  all_goals simp only [runeError]
  all_goals omega

theorem wp_upper (s : ByteArray) (hs : 1 ≤ s.size) (σ : AHeap) {Q : Value → AHeap → Prop} (hQ : ∀ σ', Q (.bool (isUpperU ((Utf8.decode s 0).1 : Nat))) σ') : WpF PROG ovU 13 [.string s] σ Q := by
  refine WpF.of (T13_eq _) rfl ?_
  rw [T13, wp_act, rng_eq]
  simp only [asPtr_ptr, asSome_some]
  refine Wp.count 0 (fun _ st σ' => σ'.get σ.n = some (.iter s 0) ∧ st = [.bool false]) ⟨get_push_same _ _, rfl⟩ (fun j _ _ hj _ => by omega) ?_
  rintro st σ' ⟨hg, rfl⟩
  simp only [T13b0, asCons_cons, asBool_bool, asNil_nil]
  rw [wp_nxt_more hg (by omega), wp_join, wp_call, WpF.eq (ev_upper (dec_i32 s 0) _)]
  simp only [asBool_bool, wp_ret, T13k0, T13k1, sw_same, sw_re, asCons_cons, asNil_nil]
  exact ⟨_, rfl, hQ _⟩

theorem awakeU : WpF PROG ovU 9 [] (startH (tabOld tabsD)) fun v _ => v = .bool true := WpF.tab TAB_ok 100000 (by kernel_rfl)

theorem charsClass_true (a0 : Int) (w0 : (Lit.int .i32 a0).wf = true) : WpF PROG ovU 5 [.int .i32 a0] (startH (tabOld tabsD)) fun v _ => v = .bool true := by
  have hr : rOK a0 := by simpa [rOK, Lit.wf, IntKind.min, IntKind.max, IntKind.signed, IntKind.bits] using w0
  refine WpF.of (T5_eq _) rfl ?_
  rw [T5, wp_call]
  refine awakeU.mono ?_
  rintro v σ rfl
  simp only [asBool_bool]
  rw [wp_bif, if_neg (by simp), wp_call, WpF.eq (ev_class hr σ), asInt_int, wp_bif]
  by_cases hv : 0 ≤ a0 ∧ a0 ≤ 1114111 ∧ ¬ (55296 ≤ a0 ∧ a0 < 57344)
  · rw [if_neg (by simp only [Bool.or_eq_true, Bool.and_eq_true, decide_eq_true_eq]; omega)]
    have hvalid : Utf8.valid a0 = true := by
      unfold Utf8.valid
      simp only [Bool.or_eq_true, Bool.and_eq_true, decide_eq_true_eq]
      omega
    have hes := enc_size a0
    have hd : ((Utf8.decode (Utf8.encode a0) 0).1 : Int) = a0 := by rw [enc_dec hvalid]; exact Int.toNat_of_nonneg hv.1
    have hd2 : Utf8.decode (Utf8.encode a0 ++ bs [97]) 0 = Utf8.decode (Utf8.encode a0) 0 := by
      rw [decode_dec, decode_dec]
      refine dec_left (by omega) (by rw [size_app]; omega) (fun k hk => byteN_append_left _ _ hk) fun _ => ?_
      have := byteN_append_right (Utf8.encode a0) (bs [97]) 0
      rw [Nat.add_zero] at this
      rw [this]
      decide
    have hle : (Utf8.encode a0).size ≤ 4 := by
      unfold Utf8.encode
      simp only
      repeat' split
      all_goals simp [ByteArray.size]
    have c1 : (((decide (clsF a0 ≥ 0)) && (decide (clsF a0 ≤ 4))) && ((clsF a0 != 2) || ((decide (a0 ≥ 48)) && (decide (a0 ≤ 57))))) = true := by
      unfold clsF
      split
      · rfl
      · split
        · rename_i h; simp [h]
        · split
          · rfl
          · split <;> rfl
    rw [wp_join, wp_bif, c1, if_pos (by rfl), wp_call]
    refine wp_upper _ hes _ fun σ1 => ?_
    simp only [asBool_bool, hd]
    have c2 : ((!isUpperU a0) || (clsF a0 == 1)) = true := by
      by_cases hu : isUpperU a0 = true
      · have := upper_letter hr hu
        unfold clsF
        rw [if_pos (.inr (.inr this))]
        simp
      · simp [hu]
    rw [wp_bif, c2, if_pos (by rfl), wp_grd]
    refine ⟨by rw [Nat.ble_eq]; omega, ?_⟩
    rw [wp_call]
    refine wp_upper _ (by rw [size_app]; omega) _ fun σ2 => ?_
    simp only [asBool_bool, hd2, hd]
    rw [wp_call]
    refine wp_upper _ hes _ fun σ3 => ?_
    simp only [asBool_bool, hd]
    rw [wp_bif, if_pos (by simp), wp_call, WpF.eq (ev_class' hr σ3), asInt_int, wp_ret]
    simp [T5k0, sw_same, asCons_cons, asBool_bool, asNil_nil, wp_ret]
  · rw [if_pos (by simp only [Bool.or_eq_true, Bool.and_eq_true, decide_eq_true_eq]; omega), wp_ret]
    have : clsF a0 = 0 := by
      unfold clsF
      have hl : ¬ isLetterU a0 = true := fun h => hv (letter_valid hr h)
      rw [if_neg (fun h => h.elim (by omega) fun h => h.elim (by omega) hl), if_neg (by omega), if_neg (by omega), if_neg (by
        intro hm
        unfold marks at hm
        simp only [List.mem_cons, List.mem_nil_iff, or_false] at hm
        omega)]
    rw [this]
    exact ⟨_, rfl, rfl⟩

end Go.Pg
