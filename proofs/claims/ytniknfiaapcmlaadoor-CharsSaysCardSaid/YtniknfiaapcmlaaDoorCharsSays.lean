/- Layer 1: any rune's class, any byte's place, any line, are as the document says: the law's tree returns true. -/
import Derived.Test.YtniknfiaapcmlaaDoorLines2
namespace Go.Pg
open Go.Proofs Go.Utf8 Go.Lib

abbrev ovU : Ov := fun k => bif Nat.beq k 20 then some (ovPure letterG) else (fun k => bif Nat.beq k 21 then some (ovPure upperG) else (ov0) k) k

theorem EvF.ov {P : Program} {ov : Ov} {f : FuncId} {g : List Value → Act} {args : List Value} {σ σ' : AHeap} {v : Value} (h : ov f = some g) (hg : g args σ = some (v, σ')) : EvF P ov f args σ v σ' :=
  ⟨1, fun n hn => by
    cases n with
    | zero => omega
    | succ n =>
      unfold execFn
      rw [h]
      exact hg⟩

def rOK (r : Int) : Prop := -2147483648 ≤ r ∧ r ≤ 2147483647
theorem ev_letter {r : Int} (h : rOK r) (σ : AHeap) : EvF PROG ovU 20 [.int .i32 r] σ (.bool (isLetterU r)) σ :=
  EvF.ov (g := ovPure letterG) rfl (by unfold ovPure letterG; simp [h.1, h.2])
theorem ev_upper {r : Int} (h : rOK r) (σ : AHeap) : EvF PROG ovU 21 [.int .i32 r] σ (.bool (isUpperU r)) σ :=
  EvF.ov (g := ovPure upperG) rfl (by unfold ovPure upperG; simp [h.1, h.2])

def marks : List Int := [40, 41, 44, 59, 61, 60, 62, 43, 45, 42, 124, 33, 58]
def clsF (r : Int) : Int := if r = 95 ∨ r = 39 ∨ isLetterU r = true then 1 else if 48 ≤ r ∧ r ≤ 57 then 2 else if r = 32 ∨ r = 9 ∨ r = 10 ∨ r = 13 then 3 else if r ∈ marks then 4 else 0

theorem cls_1 {r : Int} (h : r = 95 ∨ r = 39 ∨ isLetterU r = true) : clsF r = 1 := by unfold clsF; rw [if_pos h]
theorem cls_2 {r : Int} (h : ¬ (r = 95 ∨ r = 39 ∨ isLetterU r = true)) (h2 : 48 ≤ r ∧ r ≤ 57) : clsF r = 2 := by unfold clsF; rw [if_neg h, if_pos h2]
theorem cls_3 {r : Int} (h : ¬ (r = 95 ∨ r = 39 ∨ isLetterU r = true)) (h2 : ¬ (48 ≤ r ∧ r ≤ 57)) (h3 : r = 32 ∨ r = 9 ∨ r = 10 ∨ r = 13) : clsF r = 3 := by unfold clsF; rw [if_neg h, if_neg h2, if_pos h3]
theorem cls_4 {r : Int} (h : ¬ (r = 95 ∨ r = 39 ∨ isLetterU r = true)) (h2 : ¬ (48 ≤ r ∧ r ≤ 57)) (h3 : ¬ (r = 32 ∨ r = 9 ∨ r = 10 ∨ r = 13)) (h4 : r ∈ marks) : clsF r = 4 := by unfold clsF; rw [if_neg h, if_neg h2, if_neg h3, if_pos h4]
theorem cls_0 {r : Int} (h : ¬ (r = 95 ∨ r = 39 ∨ isLetterU r = true)) (h2 : ¬ (48 ≤ r ∧ r ≤ 57)) (h3 : ¬ (r = 32 ∨ r = 9 ∨ r = 10 ∨ r = 13)) (h4 : ¬ r ∈ marks) : clsF r = 0 := by unfold clsF; rw [if_neg h, if_neg h2, if_neg h3, if_neg h4]

theorem ev_class {r : Int} (h : rOK r) (σ : AHeap) : EvF PROG ovU 12 [.int .i32 r] σ (.int .i64 (clsF r)) σ := by
  refine EvF.of (T12_eq _) rfl ?_
  rw [T12, wp_join, wp_join, wp_bif]
  by_cases h1 : r = 95 ∨ r = 39
  · have h1' : ((r == 95) || (r == 39)) = true := by simpa using h1
    have hc : clsF r = 1 := cls_1 (by rcases h1 with h1 | h1 <;> simp [h1])
    rw [if_neg (by rw [h1']; simp), hc]
    simp [wp_ret, T12k0, T12k17, sw_same, asCons_cons, asBool_bool, asInt_int, asNil_nil]
  · have h1' : ((r == 95) || (r == 39)) = false := by simpa using h1
    rw [if_pos (by rw [h1']; rfl), wp_call, WpF.eq (ev_letter h σ)]
    simp only [asBool_bool, wp_ret, T12k0, sw_same, asCons_cons, asNil_nil, wp_bif]
    by_cases h2 : isLetterU r = true
    · rw [if_pos h2, cls_1 (.inr (.inr h2))]
      simp [wp_ret, T12k17, sw_same, asCons_cons, asInt_int, asNil_nil]
    · have n1 : ¬ (r = 95 ∨ r = 39 ∨ isLetterU r = true) := fun h => h.elim (fun h => h1 (.inl h)) fun h => h.elim (fun h => h1 (.inr h)) h2
      rw [if_neg h2]
      by_cases h3 : 48 ≤ r ∧ r ≤ 57
      · rw [if_pos (by simpa using h3), cls_2 n1 h3]
        simp [wp_ret, T12k17, sw_same, asCons_cons, asInt_int, asNil_nil]
      · rw [if_neg (by simpa using h3)]
        simp only [T12k17, sw_same, sw_nr, asCons_cons, asInt_int, asNil_nil]
        by_cases b1 : r = 32
        · rw [cls_3 n1 h3 (by simp [b1])]; subst b1; simp [wp_ret, wp_join, T12k15, T12k16, sw_same, asCons_cons, asInt_int, asBool_bool, asNil_nil]
        by_cases b2 : r = 9
        · rw [cls_3 n1 h3 (by simp [b2])]; subst b2; simp [wp_ret, wp_join, T12k15, T12k16, T12k2, sw_same, asCons_cons, asInt_int, asBool_bool, asNil_nil]
        by_cases b3 : r = 10
        · rw [cls_3 n1 h3 (by simp [b3])]; subst b3; simp [wp_ret, wp_join, T12k15, T12k16, T12k1, T12k2, sw_same, asCons_cons, asInt_int, asBool_bool, asNil_nil]
        by_cases b4 : r = 13
        · rw [cls_3 n1 h3 (by simp [b4])]; subst b4; simp [wp_ret, wp_join, T12k15, T12k16, T12k1, T12k2, sw_same, asCons_cons, asInt_int, asBool_bool, asNil_nil]
        have n3 : ¬ (r = 32 ∨ r = 9 ∨ r = 10 ∨ r = 13) := by simp only [b1, b2, b3, b4, or_self, not_false_eq_true]
        by_cases hm : r ∈ marks
        · rw [cls_4 n1 h3 n3 hm]
          unfold marks at hm
          simp only [List.mem_cons, List.mem_nil_iff, or_false] at hm
          rcases hm with rfl | rfl | rfl | rfl | rfl | rfl | rfl | rfl | rfl | rfl | rfl | rfl | rfl <;>
            simp [wp_ret, wp_join, T12k15, T12k16, T12k1, T12k2, T12k3, T12k4, T12k5, T12k6, T12k7, T12k8, T12k9, T12k10, T12k11, T12k12, T12k13, T12k14, sw_same, asCons_cons, asInt_int, asBool_bool, asNil_nil]
        · rw [cls_0 n1 h3 n3 hm]
          unfold marks at hm
          simp only [List.mem_cons, List.mem_nil_iff, or_false, not_or] at hm
          obtain ⟨m1, m2, m3, m4, m5, m6, m7, m8, m9, m10, m11, m12, m13⟩ := hm
          have q : ∀ k : Int, ¬ r = k → (r == k) = false := fun k hk => by simpa using hk
          simp [wp_ret, wp_join, wp_bif, T12k15, T12k16, T12k1, T12k2, T12k3, T12k4, T12k5, T12k6, T12k7, T12k8, T12k9, T12k10, T12k11, T12k12, T12k13, T12k14, sw_same, sw_nr, asCons_cons, asInt_int, asBool_bool, asNil_nil, b1, b2, b3, b4, m1, m2, m3, m4, m5, m6, m7, m8, m9, m10, m11, m12, m13]

theorem mark_at (j : Nat) (hj : j < 13) : wi32 (byteAt (bs [40, 41, 44, 59, 61, 60, 62, 43, 45, 42, 124, 33, 58]) j) = marks.getD j 0 := by
  have : j = 0 ∨ j = 1 ∨ j = 2 ∨ j = 3 ∨ j = 4 ∨ j = 5 ∨ j = 6 ∨ j = 7 ∨ j = 8 ∨ j = 9 ∨ j = 10 ∨ j = 11 ∨ j = 12 := by omega
  rcases this with rfl | rfl | rfl | rfl | rfl | rfl | rfl | rfl | rfl | rfl | rfl | rfl | rfl <;> decide

theorem ev_class' {r : Int} (h : rOK r) (σ : AHeap) : EvF PROG ovU 14 [.int .i32 r] σ (.int .i64 (clsF r)) σ := by
  refine EvF.of (T14_eq _) rfl ?_
  rw [T14, wp_join, wp_join, wp_bif]
  by_cases h1 : r = 95 ∨ r = 39
  · have h1' : ((r == 95) || (r == 39)) = true := by simpa using h1
    have hc : clsF r = 1 := cls_1 (by rcases h1 with h1 | h1 <;> simp [h1])
    rw [if_neg (by rw [h1']; simp), hc]
    simp [wp_ret, T14k0, T14k3, sw_same, asCons_cons, asBool_bool, asInt_int, asNil_nil]
  · have h1' : ((r == 95) || (r == 39)) = false := by simpa using h1
    rw [if_pos (by rw [h1']; rfl), wp_call, WpF.eq (ev_letter h σ)]
    simp only [asBool_bool, wp_ret, T14k0, sw_same, asCons_cons, asNil_nil, wp_bif]
    by_cases h2 : isLetterU r = true
    · rw [if_pos h2, cls_1 (.inr (.inr h2))]
      simp [wp_ret, T14k3, sw_same, asCons_cons, asInt_int, asNil_nil]
    · have n1 : ¬ (r = 95 ∨ r = 39 ∨ isLetterU r = true) := fun h => h.elim (fun h => h1 (.inl h)) fun h => h.elim (fun h => h1 (.inr h)) h2
      rw [if_neg h2]
      by_cases h3 : 48 ≤ r ∧ r ≤ 57
      · rw [if_pos (by simpa using h3), cls_2 n1 h3]
        simp [wp_ret, T14k3, sw_same, asCons_cons, asInt_int, asNil_nil]
      · rw [if_neg (by simpa using h3)]
        by_cases h4 : r = 32 ∨ r = 9 ∨ r = 10 ∨ r = 13
        · rw [cls_3 n1 h3 h4, if_pos (by rcases h4 with h4 | h4 | h4 | h4 <;> simp [h4])]
          simp [wp_ret, T14k3, sw_same, asCons_cons, asInt_int, asNil_nil]
        · rw [if_neg (by simpa [not_or, and_assoc] using h4)]
          simp only [T14k3, sw_same, sw_nr, asCons_cons, asInt_int, asNil_nil]
          refine Wp.count 13 (fun j st σ' => σ' = σ ∧ st = [.int .i64 ((j : Nat) : Int), .int .i64 0] ∧ ∀ i, i < j → r ≠ marks.getD i 0) ⟨rfl, rfl, fun i hi => by omega⟩ ?_ ?_
          · rintro j st σ' hj ⟨rfl, rfl, hall⟩
            have e1 : wi64 ((j : Int) + 1) = (j : Int) + 1 := wi64_in (by omega)
            simp only [T14b0, asCons_cons, asInt_int, asNil_nil]
            rw [wp_bif, if_pos (by simp; omega), wp_join, wp_grd]
            refine ⟨by simp; omega, ?_⟩
            rw [Int.toNat_natCast, mark_at j hj, wp_bif]
            by_cases hm : r = marks.getD j 0
            · rw [if_pos (by simpa only [beq_iff_eq] using hm), cls_4 n1 h3 h4 (by
                rw [hm]
                have : marks.getD j 0 = marks[j]'(by simpa [marks] using hj) := by simp [List.getD, marks, hj]
                rw [this]
                exact List.getElem_mem _)]
              simp [wp_ret, T14k1, T14k2, sw_same, sw_re, asCons_cons, asInt_int, asNil_nil]
            · rw [if_neg (by simpa only [beq_iff_eq] using hm)]
              simp only [wp_ret, T14k1, sw_same, sw_nr, asCons_cons, asInt_int, asNil_nil, e1]
              refine ⟨trivial, by simp, fun i hi => ?_⟩
              by_cases hij : i = j
              · subst hij; exact hm
              · exact hall i (by omega)
          · rintro st σ' ⟨rfl, rfl, hall⟩
            have hm : ¬ r ∈ marks := by
              intro hm
              obtain ⟨i, hi, he⟩ := List.getElem_of_mem hm
              have hi' : i < 13 := by simpa [marks] using hi
              refine hall i hi' ?_
              rw [← he]
              simp [List.getD, hi]
            rw [cls_0 n1 h3 h4 hm]
            simp only [T14b0, asCons_cons, asInt_int, asNil_nil]
            rw [wp_bif, if_neg (by simp)]
            simp [wp_ret, T14k2, sw_same, asCons_cons, asInt_int, asNil_nil]

/-- Upper, of a text that is not empty. -/
theorem dec_i32 (s : ByteArray) (p : Nat) : rOK ((Utf8.decode s p).1 : Nat) := by
  rw [decode_dec]
  have hb : ∀ i, byteN s i < 256 := fun i => by unfold byteN; exact UInt8.toNat_lt _
  unfold dec rOK
  simp only
  have g0 := hb p; have g1 := hb (p + 1); have g2 := hb (p + 2); have g3 := hb (p + 3)
  repeat' split
  all_goals simp only [runeError]
  all_goals omega

theorem wp_upper (s : ByteArray) (hs : 1 ≤ s.size) (σ : AHeap) {Q : Value → AHeap → Prop} (hQ : ∀ σ', Q (.bool (isUpperU ((Utf8.decode s 0).1 : Nat))) σ') : WpF PROG ovU 13 [.string s] σ Q := by
  refine WpF.of (T13_eq _) rfl ?_
  rw [T13, wp_act, rng_eq]
  simp only [asPtr_ptr, asSome_some]
  refine Wp.count 0 (fun _ st σ' => σ'.get σ.n = some (.iter s 0) ∧ st = [.bool false]) ⟨get_push_same _ _, rfl⟩ (fun j _ _ hj _ => by omega) ?_
  rintro st σ' ⟨hg, rfl⟩
  simp only [T13b0, asCons_cons, asBool_bool, asNil_nil]
  rw [wp_nxt_more hg (by omega), wp_join, wp_call, WpF.eq (ev_upper (dec_i32 s 0) _)]
  simp only [asBool_bool, wp_ret, T13k0, T13k1, sw_same, sw_re, asCons_cons, asNil_nil]
  exact ⟨_, rfl, hQ _⟩

theorem awakeU : WpF PROG ovU 9 [] (startH (tabOld tabsD)) fun v _ => v = .bool true := WpF.tab TAB_ok 100000 (by kernel_rfl)


theorem hovU : OvN ovU := ⟨fun k h1 h2 => by
  have e1 : Nat.beq k 20 = false := by
    cases h : Nat.beq k 20 with
    | false => rfl
    | true => exact absurd (Nat.eq_of_beq_eq_true h) h1
  have e2 : Nat.beq k 21 = false := by
    cases h : Nat.beq k 21 with
    | false => rfl
    | true => exact absurd (Nat.eq_of_beq_eq_true h) h2
  simp [ovU, e1, e2]⟩

def upM (s : ByteArray) : Bool := if s.size = 0 then false else isUpperU ((Utf8.decode s 0).1 : Nat)
theorem wp_up13 (s : ByteArray) (σ : AHeap) {Q : Value → AHeap → Prop} (hQ : ∀ σ', Q (.bool (upM s)) σ') : WpF PROG ovU 13 [.string s] σ Q := by
  unfold upM at hQ
  by_cases hs : s.size = 0
  · rw [if_pos hs] at hQ
    refine WpF.of (T13_eq _) rfl ?_
    rw [T13, wp_act, rng_eq]
    simp only [asPtr_ptr, asSome_some]
    refine Wp.count 0 (fun _ st σ' => σ'.get σ.n = some (.iter s 0) ∧ st = [.bool false]) ⟨get_push_same _ _, rfl⟩ (fun j _ _ hj _ => by omega) ?_
    rintro st σ' ⟨hg, rfl⟩
    simp only [T13b0, asCons_cons, asBool_bool, asNil_nil]
    rw [wp_nxt_end hg (by omega), wp_ret]
    simp only [asBool_bool, wp_ret, T13k1, sw_same, asCons_cons, asNil_nil]
    exact ⟨_, rfl, hQ _⟩
  · rw [if_neg hs] at hQ
    exact wp_upper s (by omega) σ hQ
theorem wp_up19 (s : ByteArray) (σ : AHeap) {Q : Value → AHeap → Prop} (hQ : ∀ σ', Q (.bool (upM s)) σ') : WpF PROG ovU 19 [.string s] σ Q := by
  unfold upM at hQ
  by_cases hs : s.size = 0
  · rw [if_pos hs] at hQ
    refine WpF.of (T19_eq _) rfl ?_
    rw [T19, wp_act, rng_eq]
    simp only [asPtr_ptr, asSome_some]
    refine Wp.count 0 (fun _ st σ' => σ'.get σ.n = some (.iter s 0) ∧ st = [.bool false]) ⟨get_push_same _ _, rfl⟩ (fun j _ _ hj _ => by omega) ?_
    rintro st σ' ⟨hg, rfl⟩
    simp only [T19b0, asCons_cons, asBool_bool, asNil_nil]
    rw [wp_nxt_end hg (by omega), wp_ret]
    simp only [asBool_bool, wp_ret, T19k1, sw_same, asCons_cons, asNil_nil]
    exact ⟨_, rfl, hQ _⟩
  · rw [if_neg hs] at hQ
    refine WpF.of (T19_eq _) rfl ?_
    rw [T19, wp_act, rng_eq]
    simp only [asPtr_ptr, asSome_some]
    refine Wp.count 0 (fun _ st σ' => σ'.get σ.n = some (.iter s 0) ∧ st = [.bool false]) ⟨get_push_same _ _, rfl⟩ (fun j _ _ hj _ => by omega) ?_
    rintro st σ' ⟨hg, rfl⟩
    simp only [T19b0, asCons_cons, asBool_bool, asNil_nil]
    rw [wp_nxt_more hg (by omega), wp_join, wp_call, WpF.eq (ev_upper (dec_i32 s 0) _)]
    simp only [asBool_bool, wp_ret, T19k0, T19k1, sw_same, sw_re, asCons_cons, asNil_nil]
    exact ⟨_, rfl, hQ _⟩

theorem charsSays_true (s0 : ByteArray) (_ : s0.size ≤ maxLen) (a1 : Int) (w1 : (Lit.int .i32 a1).wf = true) (a2 : Int) (_ : (Lit.int .i64 a2).wf = true) (a3 : Int) (w3 : (Lit.int .i64 a3).wf = true) :
    WpF PROG ovU 8 [.string s0, .int .i32 a1, .int .i64 a2, .int .i64 a3] (startH (tabOld tabsD)) fun v _ => v = .bool true := by
  have hr : rOK a1 := by
    simp [Lit.wf, IntKind.min, IntKind.max, IntKind.signed, IntKind.bits] at w1
    exact ⟨by omega, by omega⟩
  have hn : -9223372036854775808 ≤ a3 ∧ a3 ≤ 9223372036854775807 := by
    simp [Lit.wf, IntKind.min, IntKind.max, IntKind.signed, IntKind.bits] at w3
    omega
  refine WpF.of (T8_eq _ _ _ _) rfl ?_
  rw [T8, wp_call]
  refine awakeU.mono ?_
  rintro v σ rfl
  simp only [asBool_bool]
  rw [wp_bif, if_neg (by simp), wp_bif]
  by_cases h3 : ((s0.size : Nat) : Int) > 300
  · rw [if_pos (by simpa using h3), wp_ret]
    exact ⟨_, rfl, rfl⟩
  obtain ⟨at', ha⟩ : ∃ at' : Nat, minV (maxV a2 0) ((s0.size : Nat) : Int) = (at' : Int) := ⟨(minV (maxV a2 0) ((s0.size : Nat) : Int)).toNat, by rw [minV_eq, maxV_eq]; omega⟩
  rw [if_neg (by simpa using h3), wp_call]
  refine wp_pos hovU s0 (by omega) a2 at' ha _ fun σ1 => ?_
  simp only [asTuple_tuple, asCons_cons, asInt_int, asNil_nil]
  rw [wp_call]
  refine wp_pos16 hovU s0 (by omega) a2 at' ha _ fun σ2 => ?_
  simp only [asTuple_tuple, asCons_cons, asInt_int, asNil_nil]
  rw [wp_call]
  refine wp_line hovU s0 (by omega) a3 hn fun σ3 => ?_
  simp only [asTuple_tuple, asCons_cons, asStr_str, asBool_bool, asNil_nil]
  rw [wp_call]
  refine wp_line17 hovU s0 (by omega) a3 _ fun σ4 => ?_
  simp only [asTuple_tuple, asCons_cons, asStr_str, asBool_bool, asNil_nil]
  rw [wp_join, wp_call, WpF.eq (ev_class hr _), asInt_int, wp_call, WpF.eq (ev_class' hr _), asInt_int, wp_bif, if_pos (by simp), wp_call]
  refine wp_runes hovU s0 (by omega) _ fun σ5 => ?_
  rw [asInt_int, wp_call]
  refine wp_count18 hovU s0 (by omega) _ fun σ6 => ?_
  rw [asInt_int, wp_bif, if_pos (by simp), wp_call]
  refine wp_up13 s0 _ fun σ7 => ?_
  rw [asBool_bool, wp_call]
  refine wp_up19 s0 _ fun σ8 => ?_
  rw [asBool_bool, wp_ret]
  simp only [T8k0, sw_same, asCons_cons, asBool_bool, asNil_nil]
  rw [wp_ret]
  exact ⟨_, rfl, by simp⟩
end Go.Pg
