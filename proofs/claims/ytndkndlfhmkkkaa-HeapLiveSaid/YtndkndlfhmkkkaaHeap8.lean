/- Layer 12: Collect, step by step. -/
import Derived.Test.YtndkndlfhmkkkaaHeap7
namespace Go.Pg
open Go.Proofs

abbrev esOf (m : List (Int × Int)) : List (Value × Value) := m.map fun x => (.int .i64 x.1, .int .u64 x.2)
theorem mapFind_es (k : Int) : ∀ m : List (Int × Int), mapFind (.int .i64) (.int .i64 k) (esOf m) = some ((look m k).map (Value.int .u64))
  | [] => rfl
  | (a, p) :: r => by
    have e : esOf ((a, p) :: r) = (.int .i64 a, .int .u64 p) :: esOf r := rfl
    rw [e, mapFind]
    unfold look
    by_cases h : k = a
    · subst h
      simp [Instr.sameNow]
    · rw [if_neg h]
      have : (k == a) = false := by simpa using h
      simp only [Instr.sameNow, if_true, this]
      exact mapFind_es k r
theorem mapSet_es (k p : Int) : ∀ m : List (Int × Int), look m k = none → mapSet (.int .i64) (.int .i64 k) (.int .u64 p) (esOf m) = some (esOf (m ++ [(k, p)]))
  | [], _ => rfl
  | (a, q) :: r, h => by
    unfold look at h
    by_cases e : k = a
    · rw [if_pos e] at h; cases h
    · rw [if_neg e] at h
      have e1 : esOf ((a, q) :: r) = (.int .i64 a, .int .u64 q) :: esOf r := rfl
      have : (k == a) = false := by simpa using e
      rw [e1, mapSet]
      simp only [Instr.sameNow, if_true, this]
      rw [mapSet_es k p r h]
      rfl

section
variable {σ : AHeap} {S : Nat} {Y : Nat → Prop} {room turns : Int} {words : List Int} {heads : List Bool}

theorem ev_thing (h : HP σ S Y room turns words heads) (k : Nat) (hk : k + 1 + (splitN (words.getD k 0)).toNat ≤ words.length) (hl : words.length ≤ 100000) :
    ∃ cw q qc, EvF PROG ov0 55 [PV S, .int .i64 (k : Int)] σ (.slice q (splitN (words.getD k 0)).toNat qc) σ ∧ SlV σ cw q qc (ints .u64 ((words.drop (k + 1)).take (splitN (words.getD k 0)).toNat)) ∧ ¬ Y cw ∧ cw < σ.n := by
  obtain ⟨h0, cw, ch, h1, h2⟩ := h
  obtain ⟨pw, capw, ph, caph, a1, a2, a3, a4, a5, a6⟩ := h1.blk
  have hcap := a2.cap
  have hmc := a2.mayCut
  simp only [List.length_map] at hcap
  have hnn := splitN_nn (words.getD k 0)
  obtain ⟨kk, t, hsp⟩ := ev_split (σ := σ) (words.getD k 0)
  have hsl := (a2.drop (k + 1) (by simp; omega)).take (splitN (words.getD k 0)).toNat
  have ed : ((ints .u64 words).drop (k + 1)).take (splitN (words.getD k 0)).toNat = ints .u64 ((words.drop (k + 1)).take (splitN (words.getD k 0)).toNat) := by simp [ints, List.map_drop, List.map_take]
  rw [ed] at hsl
  generalize splitN (words.getD k 0) = sz at hk hnn hsp hsl ⊢
  refine ⟨cw, _, _, ?_, hsl, fun hy => (h2 cw hy).2.1 rfl, h1.lw⟩
  obtain ⟨off, s, rfl, hR⟩ := a2.rowOf (by intro e; have := congrArg List.length e; simp at this; subst this; simp at hk)
  have e1 : wi64 ((k : Int) + 1) = ((k + 1 : Nat) : Int) := by rw [wi64_in (by omega)]; omega
  have e2 : wi64 (((k + 1 : Nat) : Int) + sz) = ((k + 1 + sz.toNat : Nat) : Int) := by rw [wi64_in (by omega)]; omega
  refine EvF.of (T55_eq _ _) rfl ?_
  rw [T55]
  simp only [asSome_some]
  rw [wp_ldF a1 rfl, asSlice_slice]
  simp only [asSome_some]
  rw [wp_grd]
  refine ⟨by simp; omega, ?_⟩
  rw [Int.toNat_natCast, wp_rowR (v := .int .u64 (words.getD k 0)) hR (ints_get (by omega)), asInt_int, wp_call, WpF.eq hsp]
  simp only [asTuple_tuple, asCons_cons, asInt_int, asBool_bool, asNil_nil]
  rw [wp_ldF a1 rfl, asSlice_slice, e1, e2, wp_grd]
  refine ⟨by simp [hmc]; omega, ?_⟩
  rw [wp_ret, Int.toNat_natCast, Int.toNat_natCast, show k + 1 + sz.toNat - (k + 1) = sz.toNat by omega]
  exact ⟨rfl, rfl⟩

theorem HP.wordAt (h : HP σ S Y room turns words heads) (k : Nat) (hk : k < words.length) (g : Int → Pg) (Q : Post) :
    Wp PROG ov0 (.act (ld1 (aadd (PA S) 2)) fun v => asSlice v fun p n _ => asSome p fun a => grd ((decide (0 ≤ (k : Int))) && (decide ((k : Int) < ((n : Nat) : Int)))) (.act (ld1 (aadd a ((Int.toNat (k : Int)) * 1))) fun v => asInt .u64 v g)) σ Q = Wp PROG ov0 (g (words.getD k 0)) σ Q := by
  obtain ⟨h0, cw, ch, h1, h2⟩ := h
  obtain ⟨pw, capw, ph, caph, a1, a2, a3, a4, a5, a6⟩ := h1.blk
  rw [wp_ldF a1 rfl, asSlice_slice, wp_rdJ a2.rdB.rd hk]
end

/-- What stands while a collection goes on: the heap that is left, at S; the other one, at T; the mover, at A; its map, at m; E is no block of them. -/
structure Col (σ : AHeap) (N0 S T A m : Nat) (E : Nat → Prop) (room tu tT : Int) (W : List Int) (H : List Bool) (s : CS) : Prop where
  n0 : N0 ≤ σ.n
  src : HP σ S (fun i => N0 ≤ i ∧ i < σ.n) room tu W H
  to : HP σ T (fun i => i < N0 ∨ i = A ∨ i = m ∨ E i) room tT s.w s.h
  mv : St σ A [.pointer (some (PA S)), .pointer (some (PA T)), .map (some m)]
  mp : σ.get m = some (.map (esOf s.m))
  am : N0 ≤ A ∧ N0 ≤ m
  e : ∀ i, E i → N0 ≤ i ∧ i ≠ A ∧ i ≠ m

section
variable {σ : AHeap} {N0 S T A m : Nat} {E : Nat → Prop} {room tu tT : Int} {W : List Int} {H : List Bool} {s : CS} {ts : List (Int × List Int)}

theorem Col.mlt (h : Col σ N0 S T A m E room tu tT W H s) : m < σ.n := h.to.1 m (.inr (.inr (.inl rfl)))

theorem Col.step {σ' : AHeap} {U E' : Nat → Prop} (h : Col σ N0 S T A m E room tu tT W H s) (k : Frm σ σ' U) (hU : ∀ i, i < σ.n → U i → E i) (hE : ∀ i, E' i → i < σ'.n ∧ (E i ∨ σ.n ≤ i)) : Col σ' N0 S T A m E' room tu tT W H s := by
  have hn := k.n
  have hm := h.mlt
  have hA := h.mv.1
  have n0 := h.n0
  refine ⟨by omega, h.src.step k (fun i hi hu => ⟨(h.e i (hU i hi hu)).1, hi⟩) fun i hi => ⟨hi.2, by omega⟩, h.to.step k (fun i hi hu => .inr (.inr (.inr (hU i hi hu)))) fun i hi => ?_, k.st h.mv fun hu => (h.e A (hU A hA hu)).2.1 rfl, (k.get m hm fun hu => (h.e m (hU m hm hu)).2.2 rfl).trans h.mp, h.am, fun i hi => ?_⟩
  · rcases hi with hi | rfl | rfl | hi
    · exact ⟨by omega, .inl (.inl hi)⟩
    · exact ⟨by omega, .inl (.inr (.inl rfl))⟩
    · exact ⟨by omega, .inl (.inr (.inr (.inl rfl)))⟩
    · exact ⟨(hE i hi).1, (hE i hi).2.imp (fun h => .inr (.inr (.inr h))) id⟩
  · rcases (hE i hi).2 with he | he
    · exact h.e i he
    · exact ⟨by omega, by omega, by omega⟩

theorem wp_moved (h : Col σ N0 S T A m E room tu tT W H s) (hW : W = wOf ts) (hH : H = hOf ts) (ht : ∀ t ∈ ts, splitOK t.1 = true ∧ (splitN t.1).toNat = t.2.length) (hl : W.length ≤ 100000) (hI : CInv W H ts s) (w : Int) (hw : 0 ≤ w) {Q : Value → AHeap → Prop}
    (hQ : ∀ σ', Frm σ σ' (fun j => N0 ≤ j ∧ j ≠ A ∧ ¬ E j) → Col σ' N0 S T A m E room tu tT W H (moveM W H s w).1 → Q (.int .u64 (moveM W H s w).2) σ') : WpF PROG ov0 39 [PV A, .int .u64 w] σ Q := by
  have hm := h.mlt
  have hn0 := h.n0
  refine WpF.of (T39_eq _ _) rfl ?_
  rw [T39]
  simp only [asSome_some]
  rw [wp_ldF h.mv rfl, asPtr_ptr, wp_call, WpF.eq (ev_place h.src w hw)]
  simp only [asTuple_tuple, asCons_cons, asInt_int, asBool_bool, asNil_nil]
  rw [wp_bif]
  unfold moveM at hQ
  cases hp : plB H w with
  | false =>
    rw [hp] at hQ
    rw [if_pos (by rfl), wp_ret]
    exact ⟨_, rfl, hQ σ (Frm.refl _ _) h⟩
  | true =>
    rw [hp, if_pos rfl] at hQ
    have hh := plB_head hp
    have ha := atI_nn w hw
    obtain ⟨k, hk⟩ : ∃ k : Nat, atI w = (k : Int) := ⟨(atI w).toNat, by omega⟩
    rw [hk] at hQ hh ⊢
    simp only [Int.toNat_natCast] at hQ hh
    rw [hH] at hh
    obtain ⟨_, t2⟩ := thing_at ts k ht hh
    rw [← hW] at t2
    have hrem := hI.rem
    rw [if_neg (by simp), wp_ldF h.mv rfl, asMap_map, wp_act]
    have hgm : σ.getMap m = some (esOf s.m) := by unfold AHeap.getMap; rw [h.mp]
    have hlk : lkp (.int .i64) (.int .u64 0) (some m) (.int .i64 (k : Int)) true σ = some (match look s.m (k : Int) with
        | some p => (.tuple #[.int .u64 p, .bool true], σ)
        | none => (.tuple #[.int .u64 0, .bool false], σ)) := by
      unfold lkp
      simp only [hgm, Option.map_some, mapFind_es]
      cases look s.m (k : Int) <;> rfl
    rw [hlk]
    cases hlo : look s.m (k : Int) with
    | some p =>
      rw [hlo] at hQ
      simp only [asTuple_tuple, asCons_cons, asInt_int, asBool_bool, asNil_nil]
      rw [wp_join, wp_bif, if_neg (by simp), wp_ret]
      simp only [T39k0, sw_same, asCons_cons, asInt_int, asNil_nil]
      rw [wp_ret]
      exact ⟨_, rfl, hQ σ (Frm.refl _ _) h⟩
    | none =>
      rw [hlo] at hQ
      simp only at hQ
      simp only [asTuple_tuple, asCons_cons, asInt_int, asBool_bool, asNil_nil]
      rw [wp_join, wp_bif, if_pos (by rfl), wp_ldF h.mv rfl, asPtr_ptr, wp_ldF h.mv rfl, asPtr_ptr]
      simp only [asSome_some]
      obtain ⟨h0, cw, ch, k1, k2⟩ := h.src
      obtain ⟨pw, capw, ph, caph, a1, a2, a3, a4, a5, a6⟩ := k1.blk
      obtain ⟨tw, q, qc, hth, hsl, htw, htn⟩ := ev_thing h.src k t2 hl
      obtain ⟨off, ss, rfl, hR⟩ := a2.rowOf (by intro e; have := congrArg List.length e; simp at this; subst this; simp at t2)
      have hwk := hR.ld (i := k) (v := .int .u64 (W.getD k 0)) (ints_get (by omega))
      rw [wp_ldF a1 rfl, asSlice_slice]
      simp only [asSome_some]
      rw [wp_grd]
      refine ⟨by simp; omega, ?_⟩
      rw [Int.toNat_natCast, wp_rowR (v := .int .u64 (W.getD k 0)) hR (ints_get (by omega)), asInt_int, wp_ldF h.mv rfl, asPtr_ptr, wp_call, WpF.eq hth, asSlice_slice, wp_get, wp_grd]
      refine ⟨?_, ?_⟩
      · have x1 : ld1 (aadd ⟨cw, off, some ss⟩ (k * 1)) σ = some (.int .u64 (W.getD k 0), σ) := by rw [Nat.mul_one]; exact hwk
        have x2 : ld1 (aadd (PA S) 2) σ = some (.slice (some ⟨cw, off, some ss⟩) W.length capw, σ) := a1.ldF rfl
        have x3 : ld1 (aadd (PA A) 0) σ = some (.pointer (some (PA S)), σ) := h.mv.ldF rfl
        have x4 : ld1 (aadd (PA A) 1) σ = some (.pointer (some (PA T)), σ) := h.mv.ldF rfl
        simp only [chks, chkAt, x1, x2, x3, x4, eqv_same, Bool.and_true]
      have htl : ((W.drop (k + 1)).take (splitN (W.getD k 0)).toNat).length = (splitN (W.getD k 0)).toNat := by
        rw [List.length_take, List.length_drop]
        omega
      have hAm : A ≠ m := by
        intro e
        have x := h.mv.2
        rw [e, h.mp] at x
        cases x
      have hput := wp_putH (R := tw) h.to hsl (fun _ => by
        by_cases hlt : tw < N0
        · exact .inl hlt
        · exact absurd ⟨by omega, htn⟩ htw) (by omega) (by omega) (W.getD k 0) (Q := fun v σ1 => v = .int .u64 (ptrW s.w.length) ∧ Frm σ σ1 (fun j => ¬ (j < N0 ∨ j = A ∨ j = m ∨ E j)) ∧ HP σ1 T (fun i => i < N0 ∨ i = A ∨ i = m ∨ E i) room tT (s.w ++ W.getD k 0 :: (W.drop (k + 1)).take (splitN (W.getD k 0)).toNat) (s.h ++ true :: List.replicate (splitN (W.getD k 0)).toNat false)) fun σ1 hF1 h1 => ⟨rfl, hF1, by rw [htl] at h1; exact h1⟩
      rw [htl] at hput
      rw [wp_call]
      refine WpF.mono hput ?_
      rintro v σ1 ⟨rfl, hF1, h1⟩
      have hn1 := hF1.n
      have hmv1 := hF1.st h.mv fun hn => hn (.inr (.inl rfl))
      have hmp1 : σ1.get m = some (.map (esOf s.m)) := (hF1.get m hm fun hn => hn (.inr (.inr (.inl rfl)))).trans h.mp
      simp only [asInt_int]
      rw [wp_ldF hmv1 rfl, asMap_map, wp_act]
      have hgm1 : σ1.getMap m = some (esOf s.m) := by unfold AHeap.getMap; rw [hmp1]
      have hmup : mup (.int .i64) (some m) (.int .i64 (k : Int)) (.int .u64 (ptrW s.w.length)) σ1 = some (.tuple #[], σ1.put m (.map (esOf (s.m ++ [((k : Int), ptrW s.w.length)])))) := by
        unfold mup
        simp only [hgm1, mapSet_es _ _ _ hlo]
      rw [hmup]
      simp only [asTuple_tuple, asNil_nil]
      have hF2 := Frm.put σ1 m (.map (esOf (s.m ++ [((k : Int), ptrW s.w.length)]))) (by omega)
      have hmp2 : (σ1.put m (.map (esOf (s.m ++ [((k : Int), ptrW s.w.length)])))).get m = some (.map (esOf (s.m ++ [((k : Int), ptrW s.w.length)]))) := get_put_same _ _ _
      have hn2 : (σ1.put m (.map (esOf (s.m ++ [((k : Int), ptrW s.w.length)])))).n = σ1.n := rfl
      generalize σ1.put m (.map (esOf (s.m ++ [((k : Int), ptrW s.w.length)]))) = σ2 at hF2 hmp2 hn2
      rw [wp_ret]
      simp only [T39k0, sw_same, asCons_cons, asInt_int, asNil_nil]
      rw [wp_ret]
      refine ⟨_, rfl, hQ σ2 (hF1.trans hF2 (fun j _ hj => ?_) fun j _ hj => ?_) ⟨by omega, ?_, ?_, hF2.st hmv1 fun e => hAm e, hmp2, h.am, h.e⟩⟩
      · refine ⟨?_, fun e => hj (.inr (.inl e)), fun e => hj (.inr (.inr (.inr e)))⟩
        by_cases hlt : j < N0
        · exact absurd (.inl hlt) hj
        · omega
      · rw [hj]
        exact ⟨h.am.2, fun e => hAm e.symm, fun e => (h.e m e).2.2 rfl⟩
      · have hs1 := h.src.step (Y' := fun i => N0 ≤ i ∧ i < σ1.n) hF1 (fun i hi hn => ⟨by
          by_cases hlt : i < N0
          · exact absurd (.inl hlt) hn
          · omega, hi⟩) fun i hi => ⟨hi.2, by omega⟩
        exact hs1.step hF2 (fun i hi e => ⟨by rw [e]; exact h.am.2, hi⟩) fun i hi => ⟨hi.2, .inl ⟨hi.1, by omega⟩⟩
      · exact h1.step hF2 (fun i _ e => .inr (.inr (.inl e))) fun i hi => ⟨by have := h1.1 i hi; omega, .inl hi⟩
end
end Go.Pg
