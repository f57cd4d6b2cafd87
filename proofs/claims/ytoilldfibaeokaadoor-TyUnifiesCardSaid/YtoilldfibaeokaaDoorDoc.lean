/- Texts of the seat, one behind the other: DocP.lean, DocA.lean, DocB.lean, DocC.lean, DocD.lean, DocE.lean, DocF.lean. -/
import Derived.Test.YtoilldfibaeokaaDoorUniF
import Derived.Test.YtoilldfibaeokaaDoorTRf
import Derived.Test.YtoilldfibaeokaaDoorTyOne
import Derived.KernelRfl
namespace Go.Pg
open Go.Proofs

/-! ### two that stand for the same, cells aside: plain. -/

theorem strip_k {t u : AT} (h : strip t = strip u) : t.k = u.k := congrArg TA.kind (strip_inj h).1
theorem strip_v {t u : AT} (h : strip t = strip u) : t.v = u.v := congrArg TA.var (strip_inj h).1
theorem strip_nm {t u : AT} (h : strip t = strip u) : t.nm = u.nm := congrArg TA.name (strip_inj h).1
theorem strip_args {t u : AT} (h : strip t = strip u) : stripL t.args = stripL u.args := (strip_inj h).2
theorem Ok.strip {t u : AT} (h : Ok t) (e : strip t = strip u) : Ok u := ⟨by rw [← aloneM_strip t u e]; exact h.al, by rw [cnt_strip u, ← e, ← cnt_strip t]; exact h.le⟩
theorem strip_var {t : AT} (h : Ok t) (h7 : t.k = 7) : strip t = strip (varT t.v) := by
  have ha := h.noArgs h7
  have hv := h.var
  have e := h.ta7 (Ok.varT hv) h7 rfl rfl
  obtain ⟨d, l⟩ := t
  have ha : l = [] := ha
  subst ha
  have e : d.1 = (⟨7, bs [], d.1.var⟩ : TA) := e
  show strip (.mk d []) = strip (varT d.1.var)
  unfold varT
  rw [strip, strip, stripL]
  congr 1

/-- The same variables stand for the same, cells aside. -/
def Sim (S R : SubL) : Prop := ∀ v, (lookS S v).map strip = (lookS R v).map strip
section
variable {S R : SubL}
theorem Sim.set (h : Sim S R) (v : Int) {t u : AT} (e : strip t = strip u) : Sim (setS S v t) (setS R v u) := fun w => by
  rw [look_set, look_set]
  by_cases hw : w = v
  · rw [if_pos hw, if_pos hw, Option.map_some, Option.map_some, e]
  · rw [if_neg hw, if_neg hw]
    exact h w
theorem Sim.free (h : Sim S R) {v : Int} (e : lookS S v = none) : lookS R v = none := by
  have := h v
  rw [e, Option.map_none] at this
  exact Option.map_eq_none_iff.1 this.symm
theorem Sim.look (h : Sim S R) {v : Int} {x : AT} (e : lookS S v = some x) : ∃ y, lookS R v = some y ∧ strip x = strip y := by
  have := h v
  rw [e, Option.map_some] at this
  obtain ⟨y, h1, h2⟩ := Option.map_eq_some_iff.1 this.symm
  exact ⟨y, h1, h2.symm⟩
theorem Sim.symm (h : Sim S R) : Sim R S := fun v => (h v).symm
/-- What it stands for is as it should be. -/
theorem Sim.ok (h : Sim S R) (hS : Inv S) {v : Int} {y : AT} (e : lookS R v = some y) : Ok y ∧ 0 ≤ v ∧ v ≤ 1999 := by
  obtain ⟨x, h1, h2⟩ := h.symm.look e
  exact ⟨(hS.ok _ (lookS_mem h1)).strip h2.symm, hS.rng _ (lookS_mem h1)⟩

theorem head_sim (hs : Sim S R) : ∀ (k : Nat) (t u h : AT), strip t = strip u → headM k S t = some h → ∃ g, headM k R u = some g ∧ strip h = strip g
  | 0, _, _, _, _, h => by cases h
  | k + 1, t, u, h, e, hh => by
    unfold headM at hh ⊢
    rw [← strip_k e, ← strip_v e]
    by_cases h7 : t.k = 7
    · rw [if_pos h7] at hh ⊢
      cases hx : lookS S t.v with
      | none =>
        rw [hx] at hh
        cases hh
        rw [hs.free hx]
        exact ⟨u, rfl, e⟩
      | some x =>
        rw [hx] at hh
        obtain ⟨y, hy, exy⟩ := hs.look hx
        rw [hy]
        exact head_sim hs k x y h exy hh
    · rw [if_neg h7] at hh ⊢
      cases hh
      exact ⟨u, rfl, e⟩
theorem aszL_sim {f g : AT → Option Int} (h : ∀ a b m, strip a = strip b → f a = some m → g b = some m) : ∀ {l m : List AT} {r : Int}, stripL l = stripL m → aszL f l = some r → aszL g m = some r
  | [], [], r, _, e => e
  | [], _ :: _, _, e, _ => by rw [stripL, stripL] at e; cases e
  | _ :: _, [], _, e, _ => by rw [stripL, stripL] at e; cases e
  | a :: l, b :: m, r, e, hr => by
    rw [stripL, stripL] at e
    injection e with e1 e2
    unfold aszL at hr ⊢
    split at hr
    · cases hr
    · rename_i x hx
      split at hr
      · cases hr
      · rename_i q hq
        rw [h a b x e1 hx, aszL_sim h e2 hq]
        exact hr
theorem asz_sim (hs : Sim S R) : ∀ (k : Nat) (t u : AT) (m : Int), strip t = strip u → aszM k S t = some m → aszM k R u = some m
  | 0, _, _, _, _, h => by cases h
  | k + 1, t, u, m, e, h => by
    unfold aszM at h ⊢
    split at h
    · cases h
    · rename_i x hx
      obtain ⟨y, hy, exy⟩ := head_sim hs k t u x e hx
      rw [hy]
      exact aszL_sim (asz_sim hs k) (strip_args exy) h
theorem appL_sim {f g : AT → Option (Tr TA)} (h : ∀ a b m, strip a = strip b → f a = some m → g b = some m) : ∀ {l m : List AT} {r : List (Tr TA)}, stripL l = stripL m → appL f l = some r → appL g m = some r
  | [], [], r, _, e => e
  | [], _ :: _, _, e, _ => by rw [stripL, stripL] at e; cases e
  | _ :: _, [], _, e, _ => by rw [stripL, stripL] at e; cases e
  | a :: l, b :: m, r, e, hr => by
    rw [stripL, stripL] at e
    injection e with e1 e2
    unfold appL at hr ⊢
    split at hr
    · cases hr
    · rename_i x hx
      split at hr
      · cases hr
      · rename_i q hq
        rw [h a b x e1 hx, appL_sim h e2 hq]
        exact hr
theorem app_sim (hs : Sim S R) : ∀ (k : Nat) (t u : AT) (T : Tr TA), strip t = strip u → appM k S t = some T → appM k R u = some T
  | 0, _, _, _, _, h => by cases h
  | k + 1, t, u, m, e, h => by
    unfold appM at h ⊢
    split at h
    · cases h
    · rename_i x hx
      obtain ⟨y, hy, exy⟩ := head_sim hs k t u x e hx
      rw [hy]
      simp only
      split at h
      · cases h
      · rename_i q hq
        rw [appL_sim (app_sim hs k) (strip_args exy) hq, ← (strip_inj exy).1]
        exact h
mutual
theorem occ_strip {v : Int} : ∀ (t u : AT), strip t = strip u → occM v t → occM v u
  | .mk d l, .mk e m, h, ho => by
    obtain ⟨h1, h2⟩ := strip_inj h
    have h1 : d.1 = e.1 := h1
    have h2 : stripL l = stripL m := h2
    rw [occM] at ho ⊢
    rw [← h1]
    exact ho.imp id (occ_stripL l m h2)
theorem occ_stripL {v : Int} : ∀ (l m : List AT), stripL l = stripL m → occL v l → occL v m
  | [], [], _, h => h
  | [], _ :: _, e, _ => by rw [stripL, stripL] at e; cases e
  | _ :: _, [], e, _ => by rw [stripL, stripL] at e; cases e
  | a :: l, b :: m, e, h => by
    rw [stripL, stripL] at e
    injection e with e1 e2
    rw [occL] at h ⊢
    exact h.imp (occ_strip a b e1) (occ_stripL l m e2)
end
theorem reach_sim (hs : Sim S R) {v : Int} {t u : AT} (e : strip t = strip u) (h : Reach S t v) : Reach R u v := by
  induction h generalizing u with
  | here h => exact .here (occ_strip _ _ e h)
  | step h hx _ ih =>
    obtain ⟨y, hy, exy⟩ := hs.look hx
    exact .step (occ_strip _ _ e h) hy (ih exy)

/-! ### within -/
theorem Reach.arg {v : Int} {t a : AT} (ha : a ∈ t.args) (h : Reach S a v) : Reach S t v := by
  cases h with
  | here h => exact .here (occ_arg ha h)
  | step h hx r => exact .step (occ_arg ha h) hx r
theorem Reach.ofArg {v : Int} {t : AT} (h7 : t.k ≠ 7) (h : Reach S t v) : ∃ a ∈ t.args, Reach S a v := by
  cases h with
  | here h =>
    obtain ⟨a, ha, h⟩ := occL_ex (occ_no7 h7 h)
    exact ⟨a, ha, .here h⟩
  | step h hx r =>
    obtain ⟨a, ha, h⟩ := occL_ex (occ_no7 h7 h)
    exact ⟨a, ha, .step h hx r⟩
theorem withinF_ex {k : Nat} {v : Int} : ∀ (l : List AT) (s s' : List Int), l.foldl (withinF k S v) (some (false, s)) = some (true, s') → ∃ a ∈ l, ∃ s1 s2, withinM k S v a s1 = some (true, s2)
  | [], _, _, h => by cases h
  | a :: l, s, s', h => by
    rw [List.foldl_cons, show withinF k S v (some (false, s)) a = withinM k S v a s from rfl] at h
    cases hw : withinM k S v a s with
    | none =>
      rw [hw, withinF_none] at h
      cases h
    | some r =>
      obtain ⟨b, s1⟩ := r
      cases b with
      | true => exact ⟨a, by simp, s, s1, hw⟩
      | false =>
        rw [hw] at h
        obtain ⟨a', h1, h2⟩ := withinF_ex l s1 s' h
        exact ⟨a', by simp [h1], h2⟩
theorem within_true {v : Int} : ∀ (k : Nat) (t : AT) (s s' : List Int), withinM k S v t s = some (true, s') → Reach S t v
  | 0, _, _, _, h => by cases h
  | k + 1, t, s, s', h => by
    unfold withinM at h
    by_cases h7 : t.k = 7
    · rw [if_pos h7] at h
      split at h
      · cases h
      split at h
      · rename_i hv
        exact .here (hv ▸ occ_self h7)
      split at h
      · cases h
      · rename_i x hx
        exact .step (occ_self h7) hx (within_true k x _ _ h)
    · rw [if_neg h7] at h
      obtain ⟨a, ha, s1, s2, hw⟩ := withinF_ex t.args s s' h
      exact .arg ha (within_true k a s1 s2 hw)
theorem within_iff (hS : ∀ p ∈ S, Ok p.2) {v : Int} {k : Nat} {t : AT} (ht : Ok t) {b : Bool} {s : List Int} (h : withinM k S v t [] = some (b, s)) : b = true ↔ Reach S t v := by
  cases b with
  | true => exact ⟨fun _ => within_true k t _ _ h, fun _ => rfl⟩
  | false => exact ⟨fun e => (Bool.false_ne_true e).elim, fun r => absurd r (not_reach hS ht h)⟩

def orL (f : AT → Option Bool) : List AT → Option Bool
  | [] => some false
  | a :: l => match f a with
    | none => none
    | some true => some true
    | some false => orL f l
/-- The document's within. -/
def withD : Nat → SubL → Int → AT → Option Bool
  | 0, _, _, _ => none
  | k + 1, R, v, t => match headM k R t with
    | none => none
    | some h => if h.k = 7 then some (h.v == v) else orL (withD k R v) h.args
theorem orL_tot {f : AT → Option Bool} : ∀ {l : List AT}, (∀ a ∈ l, ∃ b, f a = some b) → ∃ b, orL f l = some b
  | [], _ => ⟨false, rfl⟩
  | a :: l, h => by
    obtain ⟨b, hb⟩ := h a (by simp)
    unfold orL
    rw [hb]
    cases b with
    | true => exact ⟨true, rfl⟩
    | false => exact orL_tot fun x hx => h x (by simp [hx])
theorem orL_iff {f : AT → Option Bool} {P : AT → Prop} : ∀ {l : List AT} {b : Bool}, (∀ a ∈ l, ∀ b, f a = some b → (b = true ↔ P a)) → orL f l = some b → (b = true ↔ ∃ a ∈ l, P a)
  | [], b, _, h => by
    cases h
    simp
  | a :: l, b, hf, h => by
    unfold orL at h
    split at h
    · cases h
    · rename_i ha
      cases h
      exact ⟨fun _ => ⟨a, by simp, (hf a (by simp) true ha).1 rfl⟩, fun _ => rfl⟩
    · rename_i ha
      have h1 := orL_iff (fun x hx => hf x (by simp [hx])) h
      have h2 := hf a (by simp) false ha
      rw [h1]
      constructor
      · rintro ⟨x, hx, hp⟩
        exact ⟨x, by simp [hx], hp⟩
      · rintro ⟨x, hx, hp⟩
        rcases List.mem_cons.1 hx with rfl | hx
        · have := h2.2 hp
          cases this
        · exact ⟨x, hx, hp⟩
theorem withD_tot {v : Int} : ∀ (k : Nat) (t : AT) (m : Int), aszM k R t = some m → ∃ b, withD k R v t = some b
  | 0, _, _, h => by cases h
  | k + 1, t, m, h => by
    unfold aszM at h
    unfold withD
    split at h
    · cases h
    · rename_i x hx
      rw [hx]
      simp only
      split
      · exact ⟨_, rfl⟩
      · refine orL_tot fun a ha => ?_
        obtain ⟨q, hq, _⟩ := aszL_mem (f := aszM k R) (fun a m h => asz_pos h) h ha
        exact withD_tot k a q hq
theorem head_reach {v : Int} (hv : lookS R v = none) (hR : ∀ w y, lookS R w = some y → Ok y) : ∀ (k : Nat) (t h : AT), Ok t → headM k R t = some h → (Reach R t v ↔ Reach R h v) ∧ Ok h ∧ (h.k = 7 → lookS R h.v = none)
  | 0, _, _, _, h => by cases h
  | k + 1, t, h, ht, hh => by
    unfold headM at hh
    by_cases h7 : t.k = 7
    · rw [if_pos h7] at hh
      cases hx : lookS R t.v with
      | none =>
        rw [hx] at hh
        cases hh
        exact ⟨Iff.rfl, ht, fun _ => hx⟩
      | some x =>
        rw [hx] at hh
        obtain ⟨h1, h2⟩ := head_reach hv hR k x h (hR _ _ hx) hh
        refine ⟨?_, h2⟩
        rw [← h1]
        constructor
        · intro r
          cases r with
          | here ho =>
            rw [ht.occ7 h7 ho, hx] at hv
            cases hv
          | step ho hx' r =>
            rw [ht.occ7 h7 ho, hx] at hx'
            cases hx'
            exact r
        · exact fun r => .step (occ_self h7) hx r
    · rw [if_neg h7] at hh
      cases hh
      exact ⟨Iff.rfl, ht, fun h => absurd h h7⟩
theorem withD_iff {v : Int} (hv : lookS R v = none) (hR : ∀ w y, lookS R w = some y → Ok y) : ∀ (k : Nat) (t : AT) (b : Bool), Ok t → withD k R v t = some b → (b = true ↔ Reach R t v)
  | 0, _, _, _, h => by cases h
  | k + 1, t, b, ht, h => by
    unfold withD at h
    split at h
    · cases h
    · rename_i x hx
      obtain ⟨h1, h2, h3⟩ := head_reach hv hR k t x ht hx
      rw [h1]
      by_cases h7 : x.k = 7
      · rw [if_pos h7] at h
        cases h
        rw [beq_iff_eq]
        constructor
        · rintro rfl
          exact .here (occ_self h7)
        · intro r
          cases r with
          | here ho => exact (h2.occ7 h7 ho).symm
          | step ho hx' _ =>
            rw [h2.occ7 h7 ho, h3 h7] at hx'
            cases hx'
      · rw [if_neg h7] at h
        rw [orL_iff (fun a ha b hb => withD_iff hv hR k a b (h2.arg ha).1 hb) h]
        constructor
        · rintro ⟨a, ha, r⟩
          exact .arg ha r
        · exact Reach.ofArg h7
end

/-! ### the document's table of 2000 types, in the heap. -/

section
variable {σ σ' : AHeap} {B : Nat}
/-- A type that stays while blocks up to the table's are written. -/
def SB (B : Nat) (σ : AHeap) (u : AT) : Prop := ∀ σ', Frm σ σ' (· ≤ B) → AFull σ' u
theorem SB.full {u : AT} (h : SB B σ u) : AFull σ u := h σ (Frm.refl _ _)
theorem SB.low {u : AT} (h : SB B σ u) (f : Frm σ σ' (· ≤ B)) : SB B σ' u := fun _ g => h _ (f.seq g)
theorem SB.step {u : AT} (h : SB B σ u) (f : Frm σ σ' (· = B)) : SB B σ' u := h.low (f.mono fun _ _ e => Nat.le_of_eq e)
theorem SB.frm {u : AT} (h : SB B σ u) (f : Frm σ σ' NoB) : SB B σ' u := h.step f.no
theorem SB.arg {t u : AT} (h : SB B σ t) (hu : u ∈ t.args) : SB B σ u := fun σ' f => (h σ' f).arg hu

abbrev zA : AT := .mk (⟨0, bs [], 0⟩, tcells ⟨0, bs [], 0⟩ (.slice none 0 0)) []
theorem zA_full : AFull σ zA := AFull.of (p := none) (cap := 0) (by simp [Tr.args]) rfl RowOf.nil
def dcell (R : SubL) (v : Int) : AT := (lookS R v).getD zA
def dcs (R : SubL) : List (List Value) := (List.range 2000).map fun i : Nat => (dcell R i).c
def dtab (R : SubL) : List Value := (dcs R).flatten ++ [.int .i64 0]
theorem dcs_len (R : SubL) : (dcs R).length = 2000 := by simp [dcs]
theorem dcs_at (R : SubL) {i : Nat} (hi : i < (dcs R).length) : (dcs R)[i] = (dcell R i).c := by simp [dcs]
theorem dcell_full {R : SubL} (h : ∀ p ∈ R, AFull σ p.2) (v : Int) : AFull σ (dcell R v) := by
  unfold dcell
  cases hx : lookS R v with
  | none => exact zA_full
  | some x => exact h _ (lookS_mem hx)
theorem AFull.len4 {t : AT} (h : AFull σ t) : t.c.length = 4 := by
  obtain ⟨p, cap, e⟩ := h.cells
  rw [e]
  rfl
theorem dcs_4 {R : SubL} (h : ∀ p ∈ R, AFull σ p.2) : ∀ cs ∈ dcs R, cs.length = 4 := by
  intro cs hc
  unfold dcs at hc
  obtain ⟨i, _, rfl⟩ := List.mem_map.1 hc
  exact (dcell_full h i).len4

/-- The document's table, in the heap. -/
structure DubIn (σ : AHeap) (B : Nat) (R : SubL) : Prop where
  st : St σ B (dtab R)
  full : ∀ p ∈ R, SB B σ p.2
section
variable {R : SubL}
theorem DubIn.frm (h : DubIn σ B R) (f : Frm σ σ' NoB) : DubIn σ' B R := ⟨f.stN h.st, fun p hp => (h.full p hp).frm f⟩
theorem DubIn.all (h : DubIn σ B R) : ∀ p ∈ R, AFull σ p.2 := fun p hp => (h.full p hp).full
theorem DubIn.d4 (h : DubIn σ B R) : ∀ cs ∈ dcs R, cs.length = 4 := dcs_4 h.all
theorem DubIn.flat (h : DubIn σ B R) : (dcs R).flatten.length = 8000 := by rw [flat_len h.d4, dcs_len]
theorem DubIn.len (h : DubIn σ B R) : (dtab R).length = 8001 := by
  unfold dtab
  rw [List.length_append, h.flat]
  rfl
theorem DubIn.row (h : DubIn σ B R) {i : Nat} (hi : i < 2000) : ((dtab R).drop (i * 4)).take 4 = (dcell R i).c := by
  have hl := h.flat
  have hg := flat_get (css := dcs R) i (by rw [dcs_len]; exact hi) h.d4
  unfold dtab
  rw [List.drop_append_of_le_length (by omega), List.take_append_of_le_length (by rw [List.length_drop]; omega), hg, dcs_at]
theorem DubIn.ldc (h : DubIn σ B R) {i : Nat} (hi : i < 2000) : ldN 4 ⟨B, i * 4, some 0⟩ σ = some (.agg (dcell R i).c.toArray, σ) := by
  rw [h.st.ldN (by rw [h.len]; omega), h.row hi]
theorem DubIn.kind (h : DubIn σ B R) {i : Nat} (hi : i < 2000) : (dtab R)[i * 4]? = some (.int .i64 (dcell R i).k) := by
  have e := congrArg (fun l => l[0]?) (h.row hi)
  simp only [List.getElem?_take, List.getElem?_drop, Nat.add_zero] at e
  rw [if_pos (by omega)] at e
  rw [e]
  obtain ⟨p, cap, q⟩ := (dcell_full h.all i).cells
  rw [q]
  rfl
variable {P : Program} {ov : Ov} {Q : Post}
theorem wp_dat (h : DubIn σ B R) {v : Int} (hv : 0 ≤ v ∧ v ≤ 1999) {f : Value → Pg} :
    Wp P ov (asSome (some ⟨B, 0, some 0⟩) fun a => grd ((decide (0 ≤ v)) && (decide (v < 2000))) (.act (ldN 4 (aadd (aadd a 0) ((Int.toNat v) * 4))) f)) σ Q = Wp P ov (f (.agg (dcell R v).c.toArray)) σ Q := by
  have e : (decide (0 ≤ v) && decide (v < 2000)) = true := by simp; omega
  have hi : v.toNat < 2000 := by omega
  have hl := h.ldc hi
  rw [Int.toNat_of_nonneg hv.1] at hl
  rw [asSome_some, wp_grd, e, show aadd (aadd ⟨B, 0, some 0⟩ 0) (Int.toNat v * 4) = ⟨B, 0 + 0 + v.toNat * 4, some 0⟩ from rfl, Nat.zero_add, wp_act, hl]
  simp
theorem wp_dkind (h : DubIn σ B R) {v : Int} (hv : 0 ≤ v ∧ v ≤ 1999) {f : Value → Pg} :
    Wp P ov (asSome (some ⟨B, 0, some 0⟩) fun a => grd ((decide (0 ≤ v)) && (decide (v < 2000))) (.act (ld1 (aadd (aadd (aadd a 0) ((Int.toNat v) * 4)) 0)) f)) σ Q = Wp P ov (f (.int .i64 (dcell R v).k)) σ Q := by
  have e : (decide (0 ≤ v) && decide (v < 2000)) = true := by simp; omega
  have hi : v.toNat < 2000 := by omega
  have hl := h.st.ld (h.kind hi)
  rw [Int.toNat_of_nonneg hv.1] at hl
  rw [asSome_some, wp_grd, e, show aadd (aadd (aadd ⟨B, 0, some 0⟩ 0) (Int.toNat v * 4)) 0 = ⟨B, 0 + 0 + v.toNat * 4, some 0⟩ from rfl, Nat.zero_add, wp_act, hl]
  simp
theorem flat_set {c : Nat} : ∀ (css : List (List Value)) (i : Nat) (y : List Value), i < css.length → (∀ cs ∈ css, cs.length = c) → (css.set i y).flatten = css.flatten.take (i * c) ++ y ++ css.flatten.drop (i * c + c)
  | [], i, y, h, _ => by simp at h
  | cs :: css, 0, y, _, h => by
    have hc := h cs (by simp)
    rw [List.set_cons_zero, List.flatten_cons, List.flatten_cons, Nat.zero_mul, List.take_zero, Nat.zero_add, List.nil_append, List.drop_append_of_le_length (by omega), List.drop_of_length_le (by omega), List.nil_append]
  | cs :: css, i + 1, y, hi, h => by
    have hc := h cs (by simp)
    have e : (i + 1) * c = cs.length + i * c := by rw [hc, Nat.add_mul, Nat.one_mul, Nat.add_comm]
    rw [List.set_cons_succ, List.flatten_cons, List.flatten_cons, flat_set css i y (by simpa using hi) fun x hx => h x (by simp [hx]), e, Nat.add_assoc, List.drop_length_add_append, List.take_length_add_append]
    simp
theorem dcs_set (R : SubL) (i : Nat) (x : AT) : dcs (setS R i x) = (dcs R).set i x.c := by
  refine List.ext_getElem (by rw [List.length_set, dcs_len, dcs_len]) fun j h1 h2 => ?_
  rw [dcs_at, List.getElem_set]
  unfold dcell
  rw [look_set]
  by_cases hj : i = j
  · subst hj
    rw [if_pos rfl, if_pos rfl]
    rfl
  · rw [if_neg hj, if_neg (by omega), dcs_at]
    rfl
theorem St.wr {b o : Nat} {cs vs : List Value} (h : St σ b cs) (hl : o + vs.length ≤ cs.length) (hv : vs.all one = true) :
    σ.wrN ⟨b, o, some 0⟩ vs = some (σ.put b (.blk ⟨cs.take o ++ vs ++ cs.drop (o + vs.length), 0, [cs.length], 0⟩)) := by
  obtain ⟨_, h⟩ := h
  unfold AHeap.wrN
  simp only [h, Nat.zero_div]
  have : (Nat.beq (0 + 1) [cs.length].length && Nat.ble (o + vs.length) cs.length && vs.all one) = true := by simp [hv]; omega
  rw [this, cond_true]
theorem ones_full {t : AT} (h : AFull σ t) : t.c.all one = true := by
  obtain ⟨p, cap, e⟩ := h.cells
  rw [e]
  rfl
theorem wp_dset (h : DubIn σ B R) {v : Int} (hv : 0 ≤ v ∧ v ≤ 1999) {x : AT} (hx : SB B σ x) {p : Pg} (K : ∀ σ', Frm σ σ' (· = B) → σ'.n = σ.n → DubIn σ' B (setS R v x) → Wp P ov p σ' Q) :
    Wp P ov (asSome (some ⟨B, 0, some 0⟩) fun a => grd ((decide (0 ≤ v)) && (decide (v < 2000))) (.act (stC (aadd (aadd a 0) ((Int.toNat v) * 4)) x.c) fun w => asTuple w fun l => asNil l p)) σ Q := by
  have e : (decide (0 ≤ v) && decide (v < 2000)) = true := by simp; omega
  have hi : v.toNat < 2000 := by omega
  have h4 := hx.full.len4
  have hw := h.st.wr (o := v.toNat * 4) (vs := x.c) (by rw [h.len]; omega) (ones_full hx.full)
  have hF := Frm.put σ B (.blk ⟨(dtab R).take (v.toNat * 4) ++ x.c ++ (dtab R).drop (v.toNat * 4 + x.c.length), 0, [(dtab R).length], 0⟩) h.st.1
  have hset : dtab (setS R v x) = (dtab R).take (v.toNat * 4) ++ x.c ++ (dtab R).drop (v.toNat * 4 + x.c.length) := by
    have hl := h.flat
    have e1 := dcs_set R v.toNat x
    rw [Int.toNat_of_nonneg hv.1] at e1
    unfold dtab
    rw [e1, flat_set (c := 4) _ _ _ (by rw [dcs_len]; exact hi) h.d4, h4, List.take_append_of_le_length (by omega), List.drop_append_of_le_length (by omega)]
    simp
  have hlen : (dtab (setS R v x)).length = (dtab R).length := by
    rw [hset, List.length_append, List.length_append, List.length_take, List.length_drop, h.len, h4]
    omega
  rw [asSome_some, wp_grd, e, show aadd (aadd ⟨B, 0, some 0⟩ 0) (Int.toNat v * 4) = ⟨B, 0 + 0 + v.toNat * 4, some 0⟩ from rfl, Nat.zero_add, wp_act]
  refine ⟨rfl, ?_⟩
  unfold stC
  rw [hw]
  simp only [asTuple_tuple, asNil_nil]
  refine K _ hF rfl ⟨?_, fun p hp => ?_⟩
  · rw [← hset]
    exact h.st.put hlen
  · rcases setS_mem hp with rfl | hp
    · exact hx.step hF
    · exact (h.full p hp).step hF
end
end

/-! ### the great zeros -/
def oneN : List Value → Nat → Bool
  | [], 0 => true
  | x :: l, n + 1 => bif one x then oneN l n else false
  | _, _ => false
theorem oneN_ok : ∀ {l : List Value} {n : Nat}, oneN l n = true → l.length = n ∧ l.all one = true
  | [], 0, _ => ⟨rfl, rfl⟩
  | [], _ + 1, h => by cases h
  | _ :: _, 0, h => by cases h
  | x :: l, n + 1, h => by
    unfold oneN at h
    cases hx : one x with
    | false => rw [hx] at h; cases h
    | true =>
      rw [hx] at h
      obtain ⟨h1, h2⟩ := oneN_ok h
      exact ⟨by simp [h1], by simp [hx, h2]⟩
def zOk : Option Value → Bool
  | some z => oneN z.cells.toList 8000
  | none => false
set_option maxRecDepth 100000 in
theorem z33 : (known PROG 33 && Nat.beq 8000 (sz PROG 33) && zOk (zeroOf PROG 33)) = true := by kernel_rfl
def z4 (a b c d : Value) : Bool := match a, b, c, d with
  | .int .i64 x, .string s, .int .i64 y, .slice none 0 0 => x == 0 && (y == 0 && s.size == 0)
  | _, _, _, _ => false
def isZ (v : Value) : Bool := match v with
  | .int .i64 x => x == 0
  | _ => false
def chkD : Nat → List Value → Bool
  | 0, l => match l with
    | [v] => isZ v
    | _ => false
  | n + 1, l => match l with
    | a :: b :: c :: d :: l => bif z4 a b c d then chkD n l else false
    | _ => false
def chk35 (v : Value) : Bool := match v with
  | .agg cs => chkD 2000 cs.toList
  | _ => false
set_option maxRecDepth 100000 in
theorem z35 : chk35 (bigZ PROG 35) = true := by kernel_rfl
theorem alloc33 : ∃ l : List Value, l.length = 8000 ∧ ∀ σ, allocAct PROG 33 σ = some (.pointer (some ⟨σ.n, 0, some 0⟩), σ.newBlk l 0) := by
  have h := z33
  rw [Bool.and_eq_true] at h
  have h := h.2
  unfold allocAct
  cases hz : zeroOf PROG 33 with
  | none => rw [hz] at h; cases h
  | some z =>
    rw [hz] at h
    obtain ⟨h1, h2⟩ := oneN_ok (show oneN z.cells.toList 8000 = true from h)
    refine ⟨z.cells.toList, h1, fun σ => ?_⟩
    simp only
    unfold boxAct
    rw [h2, cond_true]
    rfl
theorem stAt33 {σ : AHeap} {a : Addr} {l : List Value} (hl : l.length = 8000) : stAt PROG 33 a (.agg l.toArray) σ = match σ.wrN a l with
    | some σ' => some (.tuple #[], σ')
    | none => none := by
  have h := z33
  rw [Bool.and_eq_true] at h
  have h := h.1
  unfold stAt
  have e : (Value.agg l.toArray).cells.size = 8000 := by
    show l.toArray.size = 8000
    simpa using hl
  rw [e, h, cond_true]
  rfl
section
variable {σ : AHeap} {B C : Nat} {R R1 : SubL} {ov : Ov} {Q : Post}
theorem DubIn.ones (h : DubIn σ B R) : (dcs R).flatten.all one = true := by
  rw [List.all_eq_true]
  intro v hv
  obtain ⟨cs, hc, hv⟩ := List.mem_flatten.1 hv
  unfold dcs at hc
  obtain ⟨i, _, rfl⟩ := List.mem_map.1 hc
  have := ones_full (dcell_full h.all i)
  rw [List.all_eq_true] at this
  exact this v hv
/-- The table is put by. -/
theorem wp_save (h : DubIn σ B R) {f : Addr → Pg} (K : ∀ σ', Frm σ σ' NoB → σ'.n = σ.n + 1 → St σ' σ.n (dcs R).flatten → Wp PROG ov (f ⟨σ.n, 0, some 0⟩) σ' Q) :
    Wp PROG ov (asSome (some ⟨B, 0, some 0⟩) fun a => .act (ldN 8000 (aadd a 0)) fun v => .act (allocAct PROG 33) fun w => asPtr w fun p => asSome p fun c => .act (stAt PROG 33 c v) fun u => asTuple u fun l => asNil l (f c)) σ Q := by
  obtain ⟨l, hl, ha⟩ := alloc33
  have hf := h.flat
  have e1 : ldN 8000 (aadd ⟨B, 0, some 0⟩ 0) σ = some (.agg (dcs R).flatten.toArray, σ) := by
    have := h.st.ldN (off := 0) (k := 8000) (by rw [h.len]; omega)
    rw [show aadd ⟨B, 0, some 0⟩ 0 = ⟨B, 0, some 0⟩ from rfl, this]
    unfold dtab
    rw [List.drop_zero, List.take_append_of_le_length (by omega), List.take_of_length_le (by omega)]
  have hst := St.new σ l
  have hw := hst.wr (o := 0) (vs := (dcs R).flatten) (by omega) h.ones
  rw [asSome_some, wp_act, e1]
  simp only
  rw [wp_act, ha]
  simp only [asPtr_ptr, asSome_some]
  rw [wp_act, stAt33 hf, hw]
  simp only [asTuple_tuple, asNil_nil]
  have e2 : l.take 0 ++ (dcs R).flatten ++ l.drop (0 + (dcs R).flatten.length) = (dcs R).flatten := by
    rw [List.drop_of_length_le (by omega)]
    simp
  rw [e2]
  refine K _ ((Frm.new σ l 0 NoB).fresh (Frm.put _ _ _ hst.1) fun j hj e => by omega) rfl ?_
  exact hst.put (by omega)
/-- The table is put back. -/
theorem wp_back {l : List Value} (hs : St σ B l) (hl : l.length = 8001) (hlast : l.drop 8000 = [.int .i64 0]) (hf : (dcs R).flatten.length = 8000) (ho : (dcs R).flatten.all one = true) (hC : St σ C (dcs R).flatten) {p : Pg} (K : ∀ σ', Frm σ σ' (· = B) → St σ' B (dtab R) → Wp PROG ov p σ' Q) :
    Wp PROG ov (.act (ldN 8000 ⟨C, 0, some 0⟩) fun v => asSome (some ⟨B, 0, some 0⟩) fun a => .act (stAt PROG 33 (aadd a 0) v) fun u => asTuple u fun l => asNil l p) σ Q := by
  rw [wp_ldAll hC 8000 hf.symm, asSome_some]
  have hw := hs.wr (o := 0) (vs := (dcs R).flatten) (by omega) ho
  rw [wp_act, stAt33 hf, show aadd ⟨B, 0, some 0⟩ 0 = ⟨B, 0, some 0⟩ from rfl, hw]
  simp only [asTuple_tuple, asNil_nil]
  have e2 : l.take 0 ++ (dcs R).flatten ++ l.drop (0 + (dcs R).flatten.length) = dtab R := by
    rw [hf, Nat.zero_add, hlast]
    simp [dtab]
  rw [e2]
  refine K _ (Frm.put _ _ _ hs.1) (hs.put ?_)
  unfold dtab
  rw [List.length_append, hf, hl]
  rfl
theorem DubIn.last (h : DubIn σ B R) : (dtab R).drop 8000 = [.int .i64 0] := by
  unfold dtab
  rw [List.drop_append_of_le_length (by rw [h.flat]; omega), List.drop_of_length_le (by rw [h.flat]; omega)]
  rfl
end

/-! ### a table of nothing -/
theorem z4_ok {a b c d : Value} (h : z4 a b c d = true) : [a, b, c, d] = tcells ⟨0, bs [], 0⟩ (.slice none 0 0) := by
  unfold z4 at h
  split at h
  · rename_i x s y
    simp only [Bool.and_eq_true, beq_iff_eq] at h
    obtain ⟨rfl, rfl, hs⟩ := h
    have : s = bs [] := by
      obtain ⟨⟨d⟩⟩ := s
      have : d.length = 0 := hs
      rw [List.length_eq_zero_iff.1 this]
      rfl
    subst this
    rfl
  · cases h
theorem chkD_ok : ∀ {n : Nat} {l : List Value}, chkD n l = true → l = (List.replicate n (tcells ⟨0, bs [], 0⟩ (.slice none 0 0))).flatten ++ [.int .i64 0]
  | 0, [v], h => by
    have h : isZ v = true := h
    unfold isZ at h
    split at h
    · rw [beq_iff_eq] at h
      subst h
      rfl
    · cases h
  | 0, [], h => by cases h
  | 0, _ :: _ :: _, h => by cases h
  | n + 1, a :: b :: c :: d :: l, h => by
    have h : (bif z4 a b c d then chkD n l else false) = true := h
    cases hz : z4 a b c d with
    | false => rw [hz] at h; cases h
    | true =>
      rw [hz, cond_true] at h
      rw [List.replicate_succ, List.flatten_cons, List.append_assoc, ← chkD_ok h, ← z4_ok hz]
      rfl
  | _ + 1, [], h => by cases h
  | _ + 1, [_], h => by cases h
  | _ + 1, [_, _], h => by cases h
  | _ + 1, [_, _, _], h => by cases h
theorem dtab_nil : dtab [] = (List.replicate 2000 (tcells ⟨0, bs [], 0⟩ (.slice none 0 0))).flatten ++ [.int .i64 0] := by
  have e : dcs [] = List.replicate 2000 (tcells ⟨0, bs [], 0⟩ (.slice none 0 0)) := by
    refine List.ext_getElem (by rw [dcs_len, List.length_replicate]) fun i h1 h2 => ?_
    rw [dcs_at, List.getElem_replicate]
    rfl
  unfold dtab
  rw [e]
theorem chk35_ok {v : Value} (h : chk35 v = true) : v.cells.toList = dtab [] := by
  cases v with
  | agg cs => exact (chkD_ok (show chkD 2000 cs.toList = true from h)).trans dtab_nil.symm
  | _ => cases h
theorem bigZ_cells : (bigZ PROG 35).cells.toList = dtab [] := chk35_ok z35
theorem ones_nil : (dtab []).all one = true := by
  rw [dtab_nil, List.all_append, Bool.and_eq_true]
  refine ⟨?_, rfl⟩
  rw [List.all_eq_true]
  intro v hv
  obtain ⟨l, hl, hv⟩ := List.mem_flatten.1 hv
  rw [List.mem_replicate] at hl
  rw [hl.2] at hv
  simp only [tcells, List.mem_cons, List.mem_nil_iff, or_false] at hv
  rcases hv with rfl | rfl | rfl | rfl <;> rfl
theorem box_of {v : Value} {l : List Value} (σ : AHeap) (h : v.cells.toList = l) (ho : l.all one = true) : boxAct v σ = some (.pointer (some ⟨σ.n, 0, some 0⟩), σ.newBlk l 0) := by
  unfold boxAct
  rw [h, ho, cond_true]
  rfl
theorem wp_bigZ {σ : AHeap} {ov : Ov} {Q : Post} {f : Addr → Pg} (K : ∀ σ', Frm σ σ' NoB → σ'.n = σ.n + 1 → DubIn σ' σ.n [] → Wp PROG ov (f ⟨σ.n, 0, some 0⟩) σ' Q) :
    Wp PROG ov (.act (boxAct (bigZ PROG 35)) fun v => asPtr v fun p => asSome p f) σ Q := by
  rw [wp_act, box_of σ bigZ_cells ones_nil]
  simp only [asPtr_ptr, asSome_some]
  exact K _ (Frm.new _ _ _ _) rfl ⟨St.new _ _, fun p hp => by cases hp⟩

/-! ### the document's head, size, within over its table. -/

/-- What variables stand for is as it should be. -/
def ROk (R : SubL) : Prop := ∀ v y, lookS R v = some y → Ok y
theorem Ok.kpos {t : AT} (h : Ok t) : 1 ≤ t.k := by
  have h1 := h.al
  rw [aloneM_eq] at h1
  simp only [Bool.and_eq_true, decide_eq_true_eq] at h1
  exact h1.1.1.1.1.1
theorem head_ok {R : SubL} (hR : ROk R) : ∀ {k : Nat} {t h : AT}, Ok t → headM k R t = some h → Ok h
  | 0, _, _, _, e => by cases e
  | k + 1, t, h, ht, e => by
    unfold headM at e
    split at e
    · split at e
      · cases e
        exact ht
      · rename_i x hx
        exact head_ok hR (hR _ _ hx) e
    · cases e
      exact ht

section
variable {σ : AHeap} {B : Nat} {R : SubL} {ov : Ov}
theorem wp_Dhead (hO : OvT ov) (hs : DubIn σ B R) (hR : ROk R) {k : Nat} {t h : AT} (ht : AFull σ t) (ho : Ok t) (hh : headM k R t = some h) :
    WpF PROG ov 51 [.pointer (some ⟨B, 0, some 0⟩), .agg t.c.toArray] σ fun v σ' => v = .agg h.c.toArray ∧ Frm σ σ' NoB := by
  obtain ⟨p, cap, hc⟩ := ht.cells
  rw [hc]
  refine WpF.of (T51_eq _ _ _ _ _ _ _) (hO _ (by decide) (by decide) (by decide)) ?_
  rw [T51]
  refine wp_newQ fun σ1 hF1 hn1 hS1 => ?_
  refine wp_newQ fun σ2 hF2 hn2 hS2 => ?_
  have hS1 : St σ2 σ.n t.c := by
    rw [hc]
    exact hF2.stN hS1
  have hF := hF1.seq hF2
  refine Wp.loop (fun m st σ' => st = [] ∧ Frm σ σ' NoB ∧ σ.n + 2 ≤ σ'.n ∧ ∃ cur : AT, St σ' σ.n cur.c ∧ (∃ z, St σ' σ1.n z ∧ z.length = 4) ∧ AFull σ cur ∧ Ok cur ∧ headM m R cur = some h) k ⟨rfl, hF, by omega, t, hS1, ⟨_, hS2, rfl⟩, ht, ho, hh⟩ ?_
  rintro m st σ3 ⟨rfl, hF3, hn3, cur, hS1, ⟨z, hS2, hz⟩, hcur, hco, hm⟩
  obtain ⟨q, qc, hcc⟩ := hcur.cells
  rw [hcc] at hS1
  have fin : h = cur → Wp PROG ov (T51k2 ⟨σ.n, 0, some 0⟩ ⟨σ1.n, 0, some 0⟩ (.exit 0) []) σ3 fun _ vs σ' => ∃ v, vs = [v] ∧ v = .agg h.c.toArray ∧ Frm σ σ' NoB := fun e => by
    subst e
    simp only [T51k2, sw_same, asNil_nil]
    rw [wp_ldAll hS1 4 rfl]
    simp only [asAgg_agg, asCons_cons, asInt_int, asStr_str, asSlice_slice, asNil_nil]
    refine wp_stQ hS2 (by rw [hz]; rfl) rfl fun σ4 hF4 hn4 hS4 => ?_
    rw [wp_ldAll hS4 4 rfl, wp_ret, hcc]
    exact ⟨_, rfl, rfl, hF3.fresh hF4 fun j hj h => by omega⟩
  simp only [T51b0, asNil_nil]
  rw [wp_join, wp_ldF hS1 rfl, asInt_int, wp_bif]
  cases m with
  | zero => cases hm
  | succ m =>
  unfold headM at hm
  by_cases h7 : cur.k = 7
  case neg =>
    rw [if_neg h7] at hm
    cases hm
    rw [if_neg (by simpa using h7), wp_ret]
    simp only [T51k1, sw_same, asCons_cons, asBool_bool, asNil_nil]
    rw [wp_bif, if_neg (by simp), wp_ret]
    exact fin rfl
  rw [if_pos h7] at hm
  have hs3 := hs.frm hF3
  have hv := hco.var
  rw [if_pos (by simpa using h7), wp_ldF hS1 rfl, asInt_int, wp_dkind hs3 hv, asInt_int, wp_ret]
  simp only [T51k1, sw_same, asCons_cons, asBool_bool, asNil_nil]
  rw [wp_bif]
  cases hlo : lookS R cur.v with
  | none =>
    have e : (dcell R cur.v).k = 0 := by
      unfold dcell
      rw [hlo]
      rfl
    rw [hlo] at hm
    cases hm
    rw [if_neg (by simpa using e), wp_ret]
    exact fin rfl
  | some x =>
    rw [hlo] at hm
    have e : dcell R cur.v = x := by
      unfold dcell
      rw [hlo]
      rfl
    have hx : AFull σ x := hs.all _ (lookS_mem hlo)
    have hxo := hR _ _ hlo
    have hk := hxo.kpos
    obtain ⟨xp, xc, hxc⟩ := hx.cells
    rw [e, if_pos (by simp; omega), wp_join, wp_ldF hS1 rfl, asInt_int, wp_dat hs3 hv, e, hxc]
    simp only [asAgg_agg, asCons_cons, asInt_int, asStr_str, asSlice_slice, asNil_nil]
    refine wp_stQ hS1 rfl rfl fun σ6 hF6 hn6 hS6 => ?_
    rw [wp_ret]
    simp only [T51k0, sw_same, asNil_nil]
    rw [wp_ret]
    exact ⟨m, by omega, rfl, hF3.fresh hF6 fun j hj h => by omega, by omega, x, by rw [hxc]; exact hS6, ⟨z, hF6.st hS2 (by omega), hz⟩, hx, hxo, hm⟩

theorem wp_Dsize (hO : OvT ov) (hR : ROk R) : ∀ (k : Nat) (σ : AHeap) (t : AT) (m : Int), DubIn σ B R → AFull σ t → Ok t → aszM k R t = some m →
    WpF PROG ov 52 [.pointer (some ⟨B, 0, some 0⟩), .agg t.c.toArray] σ fun v σ' => v = .int .i64 (min m 501) ∧ Frm σ σ' NoB := by
  intro k
  induction k with
  | zero => intro σ t m _ _ _ h; cases h
  | succ k ih =>
    intro σ t m hs ht ho hm
    unfold aszM at hm
    cases hh : headM k R t with
    | none => rw [hh] at hm; cases hm
    | some h =>
    rw [hh] at hm
    simp only at hm
    have hfull := headM_full hs.all ht hh
    have hho := head_ok hR ho hh
    obtain ⟨p, cap, hc⟩ := ht.cells
    obtain ⟨q, qc, hq, hrow⟩ := hfull.row
    have hlen := hfull.len
    have hwh := fun σ' (hF : Frm σ σ' NoB) => wp_Dhead hO (hs.frm hF) hR (ht.frm hF) ho hh
    rw [hc] at hwh ⊢
    refine WpF.of (T52_eq _ _ _ _ _ _ _) (hO _ (by decide) (by decide) (by decide)) ?_
    rw [T52]
    refine wp_newQ fun σ1 hF1 hn1 hS1 => ?_
    rw [wp_ldAll hS1 4 rfl]
    simp only [asAgg_agg, asCons_cons, asInt_int, asStr_str, asSlice_slice, asNil_nil]
    rw [wp_call]
    refine WpF.mono (hwh σ1 hF1) ?_
    rintro _ σ2 ⟨rfl, hF2⟩
    rw [hq]
    simp only [asAgg_agg, asCons_cons, asInt_int, asStr_str, asSlice_slice, asNil_nil]
    refine wp_stQ (hF2.stN hS1) rfl rfl fun σ3 hF3 hn3 hS3 => ?_
    have hF : Frm σ σ3 NoB := (hF1.seq hF2).fresh hF3 fun j hj h => by omega
    have hn2 := hF2.n
    have fin : ∀ (j : Nat) (a : Int) (σ' : AHeap), Frm σ σ' NoB → min a 501 = min m 501 → Wp PROG ov (T52k1 (.exit 0) [.int .i64 (j : Int), .int .i64 a]) σ' fun _ vs σ' => ∃ v, vs = [v] ∧ v = .int .i64 (min m 501) ∧ Frm σ σ' NoB := fun j a σ' hF' he => by
      simp only [T52k1, sw_same, asCons_cons, asInt_int, asNil_nil]
      rw [wp_bif]
      by_cases ha : a > 501
      · rw [if_pos (decide_eq_true ha), wp_ret]
        exact ⟨_, rfl, by congr 1; omega, hF'⟩
      · rw [if_neg (by rw [decide_eq_false ha]; simp), wp_ret]
        exact ⟨_, rfl, by congr 1; omega, hF'⟩
    refine Wp.count h.args.length (fun j st σ' => ∃ a : Int, st = [.int .i64 ((j : Nat) : Int), .int .i64 a] ∧ Frm σ3 σ' NoB ∧ 0 ≤ a ∧ a ≤ 1001 ∧ ∃ r, aszL (aszM k R) (h.args.drop j) = some r ∧ min (a + (r - 1)) 501 = min m 501) ⟨1, rfl, Frm.refl _ _, by omega, by omega, m, hm, by congr 1; omega⟩ ?_ ?_
    · rintro j st σ4 hj ⟨a, rfl, hF34, ha0, ha1, r, hr, he⟩
      have ej : wi64 ((j : Int) + 1) = ((j + 1 : Nat) : Int) := by rw [wi64_in (by omega)]; omega
      have hF4 := hF.seq hF34
      have hS4 := hF34.stN hS3
      have hrp := aszL_pos (fun a m h => asz_pos h) hr
      simp only [T52b0, asCons_cons, asInt_int, asNil_nil]
      rw [wp_ldF hS4 rfl, asSlice_slice, wp_bif]
      by_cases h5 : a ≤ 500
      case neg =>
        rw [if_neg (by rw [decide_eq_false h5]; simp), wp_ret]
        exact fin j a σ4 hF4 (by omega)
      rw [if_pos (by simp; omega), wp_join, wp_ldF hS4 rfl, asSlice_slice]
      have hr4 := hrow.stepM hF4 Maps.none (R' := fun cs (u : AT) => cs = u.c ∧ AFull σ4 u) fun _ _ h => ⟨h.1, h.2.frm hF4⟩
      refine wp_rowOf hr4 hj rfl fun cs hX => ?_
      have hxo := (hho.arg (List.getElem_mem hj)).1
      rw [List.drop_eq_getElem_cons hj] at hr
      generalize h.args[j] = x at hX hr hxo
      obtain ⟨rfl, hx⟩ := hX
      unfold aszL at hr
      split at hr
      · cases hr
      rename_i mx hmx
      split at hr
      · cases hr
      rename_i rr hrr
      cases hr
      have hmp := asz_pos hmx
      have hrrp := aszL_pos (fun a m h => asz_pos h) hrr
      have hxi := ih σ4 x mx (hs.frm hF4) hx hxo hmx
      obtain ⟨xp, xc, hxc⟩ := hx.cells
      rw [hxc] at hxi ⊢
      simp only [asAgg_agg, asCons_cons, asInt_int, asStr_str, asSlice_slice, asNil_nil]
      rw [wp_call]
      refine WpF.mono hxi ?_
      rintro _ σ7 ⟨rfl, hF7⟩
      rw [asInt_int, wp_ret]
      simp only [T52k0, sw_same, asCons_cons, asInt_int, asNil_nil]
      rw [wp_ret, ej, wi64_in (by omega)]
      exact ⟨_, rfl, hF34.seq hF7, by omega, by omega, rr, hrr, by omega⟩
    · rintro st σ4 ⟨a, rfl, hF34, ha0, ha1, r, hr, he⟩
      rw [List.drop_length] at hr
      cases hr
      simp only [T52b0, asCons_cons, asInt_int, asNil_nil]
      rw [wp_ldF (hF34.stN hS3) rfl, asSlice_slice, wp_bif, if_neg (by simp), wp_ret]
      exact fin _ a σ4 (hF.seq hF34) (by omega)

theorem wp_Dwithin (hO : OvT ov) (hR : ROk R) (v : Int) : ∀ (k : Nat) (σ : AHeap) (t : AT) (b : Bool), DubIn σ B R → AFull σ t → Ok t → withD k R v t = some b →
    WpF PROG ov 53 [.pointer (some ⟨B, 0, some 0⟩), .int .i64 v, .agg t.c.toArray] σ fun x σ' => x = .bool b ∧ Frm σ σ' NoB := by
  intro k
  induction k with
  | zero => intro σ t m _ _ _ h; cases h
  | succ k ih =>
    intro σ t b hs ht ho hm
    unfold withD at hm
    cases hh : headM k R t with
    | none => rw [hh] at hm; cases hm
    | some h =>
    rw [hh] at hm
    simp only at hm
    have hfull := headM_full hs.all ht hh
    have hho := head_ok hR ho hh
    obtain ⟨p, cap, hc⟩ := ht.cells
    obtain ⟨q, qc, hq, hrow⟩ := hfull.row
    have hlen := hfull.len
    have hwh := fun σ' (hF : Frm σ σ' NoB) => wp_Dhead hO (hs.frm hF) hR (ht.frm hF) ho hh
    rw [hc] at hwh ⊢
    refine WpF.of (T53_eq _ _ _ _ _ _ _ _) (hO _ (by decide) (by decide) (by decide)) ?_
    rw [T53]
    refine wp_newQ fun σ1 hF1 hn1 hS1 => ?_
    rw [wp_ldAll hS1 4 rfl]
    simp only [asAgg_agg, asCons_cons, asInt_int, asStr_str, asSlice_slice, asNil_nil]
    rw [wp_call]
    refine WpF.mono (hwh σ1 hF1) ?_
    rintro _ σ2 ⟨rfl, hF2⟩
    rw [hq]
    simp only [asAgg_agg, asCons_cons, asInt_int, asStr_str, asSlice_slice, asNil_nil]
    refine wp_stQ (hF2.stN hS1) rfl rfl fun σ3 hF3 hn3 hS3 => ?_
    have hF : Frm σ σ3 NoB := (hF1.seq hF2).fresh hF3 fun j hj h => by omega
    rw [wp_ldF hS3 rfl, asInt_int, wp_bif]
    by_cases h7 : h.k = 7
    · rw [if_pos h7] at hm
      cases hm
      rw [if_pos (by simpa using h7), wp_ldF hS3 rfl, asInt_int, wp_ret]
      exact ⟨_, rfl, rfl, hF⟩
    rw [if_neg h7] at hm
    rw [if_neg (by simpa using h7)]
    refine Wp.count h.args.length (fun j st σ' => ∃ c : Bool, st = [.int .i64 ((j : Nat) : Int), .bool c] ∧ Frm σ3 σ' NoB ∧ orL (withD k R v) (h.args.drop j) = some b) ⟨false, rfl, Frm.refl _ _, hm⟩ ?_ ?_
    · rintro j st σ4 hj ⟨c, rfl, hF34, hr⟩
      have ej : wi64 ((j : Int) + 1) = ((j + 1 : Nat) : Int) := by rw [wi64_in (by omega)]; omega
      have hF4 := hF.seq hF34
      have hS4 := hF34.stN hS3
      simp only [T53b0, asCons_cons, asInt_int, asBool_bool, asNil_nil]
      rw [wp_ldF hS4 rfl, asSlice_slice, wp_bif, if_pos (by simp; omega), wp_join, wp_ldF hS4 rfl, asSlice_slice]
      have hr4 := hrow.stepM hF4 Maps.none (R' := fun cs (u : AT) => cs = u.c ∧ AFull σ4 u) fun _ _ h => ⟨h.1, h.2.frm hF4⟩
      refine wp_rowOf hr4 hj rfl fun cs hX => ?_
      have hxo := (hho.arg (List.getElem_mem hj)).1
      rw [List.drop_eq_getElem_cons hj] at hr
      generalize h.args[j] = x at hX hr hxo
      obtain ⟨rfl, hx⟩ := hX
      unfold orL at hr
      cases hw : withD k R v x with
      | none => rw [hw] at hr; cases hr
      | some w =>
      rw [hw] at hr
      have hxi := ih σ4 x w (hs.frm hF4) hx hxo hw
      obtain ⟨xp, xc, hxc⟩ := hx.cells
      rw [hxc] at hxi ⊢
      simp only [asAgg_agg, asCons_cons, asInt_int, asStr_str, asSlice_slice, asNil_nil]
      rw [wp_call]
      refine WpF.mono hxi ?_
      rintro _ σ7 ⟨rfl, hF7⟩
      rw [asBool_bool, wp_bif]
      cases w with
      | true =>
        cases hr
        rw [if_pos rfl, wp_ret]
        simp only [T53k0, sw_same, asCons_cons, asBool_bool, asNil_nil]
        rw [wp_ret]
        simp only [T53k1, sw_re, sw_same, asCons_cons, asInt_int, asBool_bool, asNil_nil]
        rw [wp_ret]
        exact ⟨_, rfl, rfl, hF4.seq hF7⟩
      | false =>
        rw [if_neg (by simp), wp_ret]
        simp only [T53k0, sw_nr, sw_same, asCons_cons, asBool_bool, asNil_nil]
        rw [wp_ret, ej]
        exact ⟨c, rfl, hF34.seq hF7, hr⟩
    · rintro st σ4 ⟨c, rfl, hF34, hr⟩
      rw [List.drop_length] at hr
      cases hr
      simp only [T53b0, asCons_cons, asInt_int, asBool_bool, asNil_nil]
      rw [wp_ldF (hF34.stN hS3) rfl, asSlice_slice, wp_bif, if_neg (by simp), wp_ret]
      simp only [T53k1, sw_same, asCons_cons, asInt_int, asBool_bool, asNil_nil]
      rw [wp_ret]
      exact ⟨_, rfl, rfl, hF.seq hF34⟩
end

/-! ### the document's one. -/

section
variable {S : SubL}
theorem sizeF_mono {k : Nat} (h : ∀ a n m, sizeM k S a n = some m → sizeM (k + 1) S a n = some m) : ∀ (l : List AT) (a u : Int), l.foldl (sizeF k S) (some a) = some u → l.foldl (sizeF (k + 1) S) (some a) = some u
  | [], _, _, e => e
  | x :: l, a, u, e => by
    rw [List.foldl_cons] at e ⊢
    by_cases h5 : a > 500
    · rw [show sizeF k S (some a) x = some a by simp [sizeF, h5]] at e
      rw [show sizeF (k + 1) S (some a) x = some a by simp [sizeF, h5]]
      exact sizeF_mono h l a u e
    · cases hs : sizeM k S x a with
      | none =>
        rw [show sizeF k S (some a) x = none by simp [sizeF, h5, hs], sizeF_none] at e
        cases e
      | some c =>
        rw [show sizeF k S (some a) x = some c by simp [sizeF, h5, hs]] at e
        rw [show sizeF (k + 1) S (some a) x = some c by simp [sizeF, h5, h x a c hs]]
        exact sizeF_mono h l c u e
theorem size_mono : ∀ {k : Nat} {t : AT} {n m : Int}, sizeM k S t n = some m → sizeM (k + 1) S t n = some m
  | 0, _, _, _, h => by cases h
  | k + 1, t, n, m, h => by
    unfold sizeM at h ⊢
    split at h
    · cases h
    · rename_i x hx
      rw [head_mono hx]
      simp only [Option.map_eq_some_iff] at h ⊢
      obtain ⟨u, hu, e⟩ := h
      exact ⟨u, sizeF_mono (fun a n m h => size_mono h) x.args _ _ hu, e⟩
theorem size_le {k k' : Nat} {t : AT} {n m : Int} (e : sizeM k S t n = some m) (hk : k ≤ k') : sizeM k' S t n = some m := by
  obtain ⟨d, rfl⟩ := Nat.exists_eq_add_of_le hk
  induction d with
  | zero => exact e
  | succ d ih => exact size_mono (ih (by omega))
theorem small_val {k k' : Nat} {t : AT} {b : Bool} {m : Int} (h : smallM k S t = some b) (hm : aszM k' S t = some m) : b = decide (m ≤ 500) := by
  have h1 := small_asz (asz_le hm (Nat.le_max_right k k'))
  have h2 : smallM (max k k') S t = some b := by
    unfold smallM at h ⊢
    rw [Option.map_eq_some_iff] at h ⊢
    obtain ⟨n, hn, e⟩ := h
    exact ⟨n, size_le hn (Nat.le_max_left k k'), e⟩
  rw [h1] at h2
  exact (Option.some.inj h2).symm
theorem asz_head {k : Nat} {t h : AT} {m : Int} (hm : aszM (k + 1) S t = some m) (hh : headM k S t = some h) (hu : h.k = 7 → lookS S h.v = none) : aszM (k + 1) S h = some m := by
  unfold aszM at hm ⊢
  rw [hh] at hm
  have hk : 1 ≤ k := by
    cases k with
    | zero => cases hh
    | succ k => omega
  rw [head_le (head_self hu) hk]
  exact hm
/-- A variable is as large as what it stands for. -/
theorem asz_bound {k : Nat} {v : Int} {x : AT} {m : Int} (hl : lookS S v = some x) (hm : aszM (k + 1) S x = some m) : aszM (k + 2) S (varT v) = some m := by
  unfold aszM at hm ⊢
  have e : headM (k + 1) S (varT v) = headM k S x := by
    unfold headM
    rw [if_pos (show (varT v).k = 7 from rfl), show (varT v).v = v from rfl, hl]
    cases k <;> rfl
  rw [e]
  split at hm
  · cases hm
  · rename_i h hh
    exact aszL_mono (fun a m h => asz_mono h) hm
theorem look_mem {p : Int × AT} : ∀ {S : SubL}, p ∈ S → ∃ x, lookS S p.1 = some x
  | (k, u) :: r, h => by
    unfold lookS
    by_cases e : p.1 = k
    · rw [if_pos e]
      exact ⟨u, rfl⟩
    · rw [if_neg e]
      rcases List.mem_cons.1 h with rfl | h
      · exact absurd rfl e
      · exact look_mem h
end

theorem AFull.rowAt {σ : AHeap} {t : AT} (h : AFull σ t) {p : Option Addr} {cap : Nat} (hc : t.c = tcells t.a.1 (.slice p t.args.length cap)) : RowOf σ NoB 4 (fun cs (u : AT) => cs = u.c ∧ AFull σ u) p t.args := by
  obtain ⟨q, c, e, hr⟩ := h.row
  rw [hc] at e
  simp only [tcells, List.cons.injEq, Value.slice.injEq, true_and, and_true] at e
  rw [e.1]
  exact hr

section
variable {B : Nat} {ov : Ov}
/-- A variable is bound, if it does not stand in the other. -/
theorem wp_Dbind (hO : OvT ov) {σ : AHeap} {A A2 : Nat} {S R S' : SubL} {X' Y Y' : AT} {k : Nat} {e : Int} {Q : Post} (hS : Inv S) (hR : Sim S R) (hs : DubIn σ B R)
    (hA : St σ A X'.c) (hA2 : St σ A2 Y'.c) (hXf : AFull σ X') (hXo : Ok X') (hu : lookS S X'.v = none) (hYo : Ok Y) (hY' : SB B σ Y') (eY : strip Y = strip Y') (_hab : A ≠ B) (h : bindM k S X'.v Y = some (e, S'))
    (K : ∀ σ' R', Frm σ σ' (· = B) → Sim S' R' → DubIn σ' B R' → Q .ret [.int .i64 e] σ') :
    Wp PROG ov (T36k3 ⟨A, 0, some 0⟩ ⟨A2, 0, some 0⟩ (some ⟨B, 0, some 0⟩) .normal []) σ Q := by
  have hRo : ROk R := fun v y hy => (hR.ok hS hy).1
  have hYo' := hYo.strip eY
  obtain ⟨m, hm⟩ := hS.asz hYo
  obtain ⟨b, hb⟩ := withD_tot (v := X'.v) CF Y' m (asz_sim hR CF Y Y' m eY hm)
  have hbi := withD_iff (hR.free hu) hRo CF Y' b hYo' hb
  have kW := fun σ' (hF : Frm σ σ' NoB) => wp_Dwithin hO hRo X'.v CF σ' Y' b (hs.frm hF) (hY'.frm hF).full hYo' hb
  obtain ⟨px, cx, hxc⟩ := hXf.cells
  obtain ⟨py, cy, hyc⟩ := hY'.full.cells
  have hd := fun σ' (hs : DubIn σ' B R) (hY' : SB B σ' Y') p K => wp_dset (P := PROG) (ov := ov) (Q := Q) hs hXo.var hY' (p := p) K
  rw [hxc] at hA
  rw [hyc] at hA2 kW hd
  simp only [T36k3, sw_same, asNil_nil]
  rw [wp_ldF hA rfl, asInt_int, wp_ldAll hA2 4 rfl]
  simp only [asAgg_agg, asCons_cons, asInt_int, asStr_str, asSlice_slice, asNil_nil]
  rw [wp_call]
  refine WpF.mono (kW σ (Frm.refl _ _)) ?_
  rintro _ σ1 ⟨rfl, hF1⟩
  rw [asBool_bool, wp_bif]
  unfold bindM at h
  cases hw : withinM k S X'.v Y [] with
  | none => rw [hw] at h; cases h
  | some r =>
  obtain ⟨w, sn⟩ := r
  have hwi := within_iff hS.ok hYo hw
  have hbw : b = w := by
    have e1 : Reach S Y X'.v ↔ Reach R Y' X'.v := ⟨reach_sim hR eY, reach_sim hR.symm eY.symm⟩
    rw [Bool.eq_iff_iff, hbi, hwi, e1]
  subst hbw
  rw [hw] at h
  cases b with
  | true =>
    cases h
    rw [if_pos rfl, wp_ret]
    exact K σ1 R hF1.no hR (hs.frm hF1)
  | false =>
    cases h
    rw [if_neg (by simp), wp_ldF (hF1.stN hA) rfl, asInt_int, wp_ldAll (hF1.stN hA2) 4 rfl]
    simp only [asAgg_agg, asCons_cons, asInt_int, asStr_str, asSlice_slice, asNil_nil]
    refine hd σ1 (hs.frm hF1) (hY'.frm hF1) _ fun σ2 hF2 hn2 hD2 => ?_
    rw [wp_ret]
    exact K σ2 _ (hF1.no.seq hF2) (hR.set X'.v eY) hD2

set_option maxHeartbeats 1000000 in
theorem wp_Done (hO : OvT ov) : ∀ (k : Nat) (S R : SubL) (σ : AHeap) (x y x' y' : AT) (e : Int) (S' : SubL), Inv S → Sim S R → DubIn σ B R → SB B σ x' → SB B σ y' → Ok x → Ok y → strip x = strip x' → strip y = strip y' → oneM k S x y = some (e, S') →
    WpF PROG ov 36 [.pointer (some ⟨B, 0, some 0⟩), .agg x'.c.toArray, .agg y'.c.toArray] σ fun v σ' => v = .int .i64 e ∧ Frm σ σ' (· = B) ∧ ∃ R', Sim S' R' ∧ DubIn σ' B R' := by
  intro k
  induction k with
  | zero => intro S R σ x y x' y' e S' _ _ _ _ _ _ _ _ _ h; cases h
  | succ k ih =>
    intro S R σ x y x' y' e S' hS hR hs hx' hy' hxo hyo ex ey h
    have hRo : ROk R := fun v y hy => (hR.ok hS hy).1
    have hlt := hs.st.1
    obtain ⟨X, hX, hXo, hXu⟩ := hS.head hxo (k := 1002999) (by decide)
    obtain ⟨Y, hY, hYo, hYu⟩ := hS.head hyo (k := 1002999) (by decide)
    obtain ⟨X', hX', eX⟩ := head_sim hR _ x x' X ex hX
    obtain ⟨Y', hY', eY⟩ := head_sim hR _ y y' Y ey hY
    have bX : SB B σ X' := headM_pres (P := SB B σ) hs.full hx' hX'
    have bY : SB B σ Y' := headM_pres (P := SB B σ) hs.full hy' hY'
    have hXo' := hXo.strip eX
    have hYo' := hYo.strip eY
    obtain ⟨mx, hmx⟩ := hS.asz hxo
    obtain ⟨my, hmy⟩ := hS.asz hyo
    have hmX := asz_sim hR CF X X' mx eX (asz_head (k := 1002999) hmx hX hXu)
    have hmY := asz_sim hR CF Y Y' my eY (asz_head (k := 1002999) hmy hY hYu)
    have whA := fun σ' (hF : Frm σ σ' NoB) => wp_Dhead hO (hs.frm hF) hRo (hx'.frm hF).full (hxo.strip ex) hX'
    have whB := fun σ' (hF : Frm σ σ' NoB) => wp_Dhead hO (hs.frm hF) hRo (hy'.frm hF).full (hyo.strip ey) hY'
    have wsA := fun σ' (hF : Frm σ σ' NoB) => wp_Dsize hO hRo CF σ' X' mx (hs.frm hF) (bX.frm hF).full hXo' hmX
    have wsB := fun σ' (hF : Frm σ σ' NoB) => wp_Dsize hO hRo CF σ' Y' my (hs.frm hF) (bY.frm hF).full hYo' hmY
    obtain ⟨px, cx, hxc⟩ := hx'.full.cells
    obtain ⟨py, cy, hyc⟩ := hy'.full.cells
    obtain ⟨pX, cX, hXc⟩ := bX.full.cells
    obtain ⟨pY, cY, hYc⟩ := bY.full.cells
    rw [hxc] at whA ⊢
    rw [hyc] at whB ⊢
    rw [hXc] at whA wsA
    rw [hYc] at whB wsB
    refine WpF.of (T36_eq _ _ _ _ _ _ _ _ _ _ _ _ _) (hO _ (by decide) (by decide) (by decide)) ?_
    rw [T36]
    refine wp_newQ fun σ1 hF1 hn1 hS1 => ?_
    refine wp_newQ fun σ2 hF2 hn2 hS2 => ?_
    have hS1 := hF2.stN hS1
    have hF02 := hF1.seq hF2
    rw [wp_ldAll hS1 4 rfl]
    simp only [asAgg_agg, asCons_cons, asInt_int, asStr_str, asSlice_slice, asNil_nil]
    rw [wp_get, wp_call]
    refine WpF.mono (whA σ2 hF02) ?_
    rintro _ σ3 ⟨rfl, hF3⟩
    have hF03 := hF02.seq hF3
    simp only [asAgg_agg, asCons_cons, asInt_int, asStr_str, asSlice_slice, asNil_nil]
    rw [wp_ldAll (hF3.stN hS2) 4 rfl, wp_grd]
    refine ⟨past_ok (hS2.ldAll 4 rfl), ?_⟩
    simp only [asAgg_agg, asCons_cons, asInt_int, asStr_str, asSlice_slice, asNil_nil]
    rw [wp_call]
    refine WpF.mono (whB σ3 hF03) ?_
    rintro _ σ4 ⟨rfl, hF4⟩
    have hF04 := hF03.seq hF4
    have hF34 := hF3.seq hF4
    simp only [asAgg_agg, asCons_cons, asInt_int, asStr_str, asSlice_slice, asNil_nil]
    refine wp_stQ (hF34.stN hS1) rfl rfl fun σ5 hF5 hn5 hA5 => ?_
    refine wp_stQ (hF5.st (hF34.stN hS2) (by omega)) rfl rfl fun σ6 hF6 hn6 hB6 => ?_
    have hA6 := hF6.st hA5 (by omega)
    have hF06 : Frm σ σ6 NoB := (hF04.fresh hF5 fun j hj h => by omega).fresh hF6 fun j hj h => by omega
    clear hF5 hF6 hA5 hF34
    rw [wp_join, wp_ldAll hA6 4 rfl]
    simp only [asAgg_agg, asCons_cons, asInt_int, asStr_str, asSlice_slice, asNil_nil]
    rw [wp_call]
    refine WpF.mono (wsA σ6 hF06) ?_
    rintro _ σ7 ⟨rfl, hF7⟩
    have hF07 := hF06.seq hF7
    rw [asInt_int, wp_bif]
    unfold oneM at h
    cases hsx : smallM k S x with
    | none => rw [hsx] at h; cases h
    | some bx =>
    rw [hsx] at h
    have ebx := small_val hsx hmx
    have big : ∀ σ' : AHeap, Frm σ σ' NoB → e = 2 → S' = S → Wp PROG ov (T36k10 ⟨σ.n, 0, some 0⟩ ⟨σ1.n, 0, some 0⟩ (some ⟨B, 0, some 0⟩) .normal [.bool true]) σ' fun _ vs σ' => ∃ v, vs = [v] ∧ v = .int .i64 e ∧ Frm σ σ' (· = B) ∧ ∃ R', Sim S' R' ∧ DubIn σ' B R' := fun σ' hF he hS' => by
      simp only [T36k10, sw_same, asCons_cons, asBool_bool, asNil_nil]
      rw [wp_bif, if_pos rfl, wp_ret]
      subst he hS'
      exact ⟨_, rfl, rfl, hF.no, R, hR, hs.frm hF⟩
    by_cases h5 : mx ≤ 500
    case neg =>
      rw [decide_eq_false h5] at ebx
      subst ebx
      cases h
      rw [if_neg (by simp; omega), wp_ret]
      exact big σ7 hF07 rfl rfl
    rw [decide_eq_true h5] at ebx
    subst ebx
    simp only at h
    rw [if_pos (by simp; omega), wp_ldAll (hF7.stN hB6) 4 rfl]
    simp only [asAgg_agg, asCons_cons, asInt_int, asStr_str, asSlice_slice, asNil_nil]
    rw [wp_call]
    refine WpF.mono (wsB σ7 hF07) ?_
    rintro _ σ8 ⟨rfl, hF8⟩
    have hF08 := hF07.seq hF8
    have hF68 := hF7.seq hF8
    rw [asInt_int, wp_ret]
    cases hsy : smallM k S y with
    | none => rw [hsy] at h; cases h
    | some by' =>
    rw [hsy] at h
    have eby := small_val hsy hmy
    by_cases h5' : my ≤ 500
    case neg =>
      rw [decide_eq_false h5'] at eby
      subst eby
      cases h
      rw [show decide (min my 501 > 500) = true from decide_eq_true (by omega)]
      exact big σ8 hF08 rfl rfl
    rw [decide_eq_true h5'] at eby
    subst eby
    simp only at h
    rw [show decide (min my 501 > 500) = false from decide_eq_false (by omega)]
    clear big wsA wsB whA whB
    -- the heads
    cases hhx : headM k S x with
    | none => rw [hhx] at h; cases h
    | some X2 =>
    have := head_uniq hX hhx
    subst this
    cases hhy : headM k S y with
    | none => rw [hhx, hhy] at h; cases h
    | some Y2 =>
    have := head_uniq hY hhy
    subst this
    rw [hhx, hhy] at h
    simp only at h
    have hA := hF68.stN hA6
    have hB := hF68.stN hB6
    have hs8 := hs.frm hF08
    have bX8 := bX.frm hF08
    have bY8 := bY.frm hF08
    have hn08 := hF06.n
    have nA : σ.n ≠ B := by omega
    have nB : σ1.n ≠ B := by omega
    have kx : X.k = X'.a.1.kind := strip_k eX
    have ky : Y.k = Y'.a.1.kind := strip_k eY
    have vx := strip_v eX
    have vy := strip_v eY
    have ux : X.v = X'.a.1.var := vx
    have uy : Y.v = Y'.a.1.var := vy
    have fin9 : ∀ σ' R', Frm σ8 σ' (· = B) → Sim S' R' → DubIn σ' B R' → Wp PROG ov (T36k9 ⟨σ.n, 0, some 0⟩ ⟨σ1.n, 0, some 0⟩ (some ⟨B, 0, some 0⟩) .ret [.int .i64 e]) σ' fun _ vs σ' => ∃ v, vs = [v] ∧ v = .int .i64 e ∧ Frm σ σ' (· = B) ∧ ∃ R', Sim S' R' ∧ DubIn σ' B R' := fun σ' R' hF hR' hD' => by
      simp only [T36k9, sw_same, asCons_cons, asInt_int, asNil_nil]
      rw [wp_ret]
      exact ⟨_, rfl, rfl, hF08.no.seq hF, R', hR', hD'⟩
    have hd := fun (V Z : AT) (hV : Ok V) (hZ : SB B σ8 Z) p Q K => wp_dset (P := PROG) (ov := ov) (Q := Q) hs8 hV.var hZ (p := p) K
    have hdX := hd X' Y' hXo' bY8
    have hdY := hd Y' X' hYo' bX8
    rw [hYc] at hdX
    rw [hXc] at hdY
    simp only [T36k10, sw_same, asCons_cons, asBool_bool, asNil_nil]
    rw [wp_bif, if_neg (by simp), wp_join, wp_join, wp_ldF hA rfl, asInt_int, wp_bif]
    by_cases hx7 : X.k = 7
    · rw [if_pos hx7] at h
      rw [if_pos (by rw [beq_iff_eq, beq_iff_eq]; omega), wp_ldF hB rfl, asInt_int, wp_ret]
      by_cases hy7 : Y.k = 7
      · rw [if_pos hy7] at h
        rw [show (Y'.a.1.kind == 7) = true by rw [beq_iff_eq]; omega]
        simp only [T36k5, sw_same, asCons_cons, asBool_bool, asNil_nil]
        rw [wp_bif, if_pos rfl, wp_join, wp_ldF hA rfl, asInt_int, wp_ldF hB rfl, asInt_int, wp_join, wp_bif]
        by_cases hgt : X'.a.1.var > Y'.a.1.var
        · rw [if_pos (decide_eq_true hgt), wp_ldF hA rfl, asInt_int, wp_ldAll hB 4 rfl]
          simp only [asAgg_agg, asCons_cons, asInt_int, asStr_str, asSlice_slice, asNil_nil]
          refine hdX _ _ fun σ9 hF9 hn9 hD9 => ?_
          rw [wp_ret]
          simp only [T36k1, sw_same, asNil_nil]
          rw [wp_ret]
          simp only [T36k2, sw_same, asNil_nil]
          rw [wp_ret]
          rw [if_neg (by omega), show maxV X.v Y.v = X'.a.1.var by rw [maxV_eq]; omega, show minV X.v Y.v = Y'.a.1.var by rw [minV_eq]; omega] at h
          cases h
          exact fin9 σ9 _ hF9 (hR.set X'.v (strip_var hYo' (ky.symm.trans hy7)).symm) hD9
        · rw [if_neg (by rw [decide_eq_false hgt]; simp), wp_ldF hB rfl, asInt_int, wp_ldF hA rfl, asInt_int, wp_join, wp_bif]
          by_cases hlt' : Y'.a.1.var > X'.a.1.var
          · rw [if_pos (decide_eq_true hlt'), wp_ldF hB rfl, asInt_int, wp_ldAll hA 4 rfl]
            simp only [asAgg_agg, asCons_cons, asInt_int, asStr_str, asSlice_slice, asNil_nil]
            refine hdY _ _ fun σ9 hF9 hn9 hD9 => ?_
            rw [wp_ret]
            simp only [T36k0, sw_same, asNil_nil]
            rw [wp_ret]
            simp only [T36k1, sw_same, asNil_nil]
            rw [wp_ret]
            simp only [T36k2, sw_same, asNil_nil]
            rw [wp_ret]
            rw [if_neg (by omega), show maxV X.v Y.v = Y'.a.1.var by rw [maxV_eq]; omega, show minV X.v Y.v = X'.a.1.var by rw [minV_eq]; omega] at h
            cases h
            exact fin9 σ9 _ hF9 (hR.set Y'.v (strip_var hXo' (kx.symm.trans hx7)).symm) hD9
          · rw [if_neg (by rw [decide_eq_false hlt']; simp), wp_ret]
            simp only [T36k0, sw_same, asNil_nil]
            rw [wp_ret]
            simp only [T36k1, sw_same, asNil_nil]
            rw [wp_ret]
            simp only [T36k2, sw_same, asNil_nil]
            rw [wp_ret]
            rw [if_pos (by omega)] at h
            cases h
            exact fin9 σ8 _ (Frm.refl _ _) hR hs8
      · rw [if_neg hy7] at h
        rw [show (Y'.a.1.kind == 7) = false by rw [beq_eq_false_iff_ne]; omega]
        simp only [T36k5, sw_same, asCons_cons, asBool_bool, asNil_nil]
        rw [wp_bif, if_neg (by simp), wp_join, wp_ldF hA rfl, asInt_int, wp_bif, if_neg (by simp; omega), wp_ret]
        simp only [T36k4, sw_same, asCons_cons, asBool_bool, asNil_nil]
        rw [wp_bif, if_pos rfl, wp_ldF hB rfl, asInt_int, wp_join, wp_bif, if_neg (by rw [beq_iff_eq]; omega), wp_ret]
        rw [vx] at h
        refine wp_Dbind hO hS hR hs8 (by rw [hXc]; exact hA) (by rw [hYc]; exact hB) bX8.full hXo' (by rw [← vx]; exact hXu hx7) hYo bY8 eY nA h fun σ9 R' hF9 hR' hD' => ?_
        exact fin9 σ9 R' hF9 hR' hD'
    rw [if_neg hx7] at h
    rw [if_neg (by rw [beq_iff_eq, beq_iff_eq]; omega), wp_ret]
    simp only [T36k5, sw_same, asCons_cons, asBool_bool, asNil_nil]
    rw [wp_bif, if_neg (by simp), wp_join, wp_ldF hA rfl, asInt_int, wp_bif, if_pos (by simp; omega), wp_ldF hB rfl, asInt_int, wp_ret]
    by_cases hy7 : Y.k = 7
    · rw [if_pos hy7] at h
      rw [show (Y'.a.1.kind == 7) = true by rw [beq_iff_eq]; omega]
      simp only [T36k4, sw_same, asCons_cons, asBool_bool, asNil_nil]
      rw [wp_bif, if_pos rfl, wp_ldF hB rfl, asInt_int, wp_join, wp_bif, if_pos (by rw [beq_iff_eq]; omega), wp_ldAll hB 4 rfl]
      simp only [asAgg_agg, asCons_cons, asInt_int, asStr_str, asSlice_slice, asNil_nil]
      rw [wp_ldAll hA 4 rfl]
      simp only [asAgg_agg, asCons_cons, asInt_int, asStr_str, asSlice_slice, asNil_nil]
      refine wp_stQ hA rfl rfl fun σ9 hF9 hn9 hA9 => ?_
      refine wp_stQ (hF9.st hB (by omega)) rfl rfl fun σ10 hF10 hn10 hB10 => ?_
      have hA10 := hF10.st hA9 (by omega)
      have hF810 : Frm σ8 σ10 (fun j => j = σ.n ∨ j = σ1.n) := hF9.trans hF10 (fun _ _ h => .inl h) fun _ _ h => .inr h
      have hF010 : Frm σ σ10 NoB := hF08.fresh hF810 fun j hj h => by omega
      rw [wp_ret]
      rw [vy] at h
      refine wp_Dbind hO hS hR (hs.frm hF010) (by rw [hYc]; exact hA10) (by rw [hXc]; exact hB10) (bY.frm hF010).full hYo' (by rw [← vy]; exact hYu hy7) hXo (bX.frm hF010) eX nA h fun σ11 R' hF11 hR' hD' => ?_
      simp only [T36k9, sw_same, asCons_cons, asInt_int, asNil_nil]
      rw [wp_ret]
      exact ⟨_, rfl, rfl, hF010.no.seq hF11, R', hR', hD'⟩
    rw [if_neg hy7] at h
    rw [show (Y'.a.1.kind == 7) = false by rw [beq_eq_false_iff_ne]; omega]
    simp only [T36k4, sw_same, asCons_cons, asBool_bool, asNil_nil]
    rw [wp_bif, if_neg (by simp), wp_ret]
    simp only [T36k9, sw_nr, sw_same, asCons_cons, asInt_int, asNil_nil]
    rw [wp_join, wp_ldF hA rfl, asInt_int, wp_ldF hB rfl, asInt_int, wp_bif]
    have bad : e = 5 → S' = S → Wp PROG ov (T36k8 0 ⟨σ.n, 0, some 0⟩ ⟨σ1.n, 0, some 0⟩ (some ⟨B, 0, some 0⟩) .normal [.bool true]) σ8 fun _ vs σ' => ∃ v, vs = [v] ∧ v = .int .i64 e ∧ Frm σ σ' (· = B) ∧ ∃ R', Sim S' R' ∧ DubIn σ' B R' := fun he hS' => by
      simp only [T36k8, sw_same, asCons_cons, asBool_bool, asNil_nil]
      rw [wp_bif, if_pos rfl, wp_ret]
      subst he hS'
      exact ⟨_, rfl, rfl, hF08.no, R, hR, hs8⟩
    by_cases hkk : X.k = Y.k
    case neg =>
      rw [if_neg hkk] at h
      cases h
      rw [if_neg (by simp; omega), wp_ret]
      exact bad rfl rfl
    rw [if_pos hkk] at h
    rw [if_pos (by simp; omega), wp_ldF hA rfl, asStr_str, wp_ldF hB rfl, asStr_str, wp_bif]
    have nx := strip_nm eX
    have ny := strip_nm eY
    by_cases hnn : X.nm.toList = Y.nm.toList
    case neg =>
      rw [if_neg hnn] at h
      cases h
      rw [if_neg (by rw [nx, ny] at hnn; simpa using hnn), wp_ret]
      exact bad rfl rfl
    rw [if_pos hnn] at h
    have lX := hXo.len
    have lY := hYo.len
    rw [hkk, ← lY] at lX
    have lx' := stripL_len (strip_args eX)
    have ly' := stripL_len (strip_args eY)
    rw [if_pos (by rw [nx, ny] at hnn; simpa using hnn), wp_ldF hA rfl, asSlice_slice, wp_ldF hB rfl, asSlice_slice, wp_ret]
    rw [show (((X'.args.length : Nat) : Int) != ((Y'.args.length : Nat) : Int)) = false by simp; omega]
    simp only [T36k8, sw_same, asCons_cons, asBool_bool, asNil_nil]
    rw [wp_bif, if_neg (by simp)]
    have hlX := bX.full.len
    refine Wp.count X'.args.length (fun j st σ' => st = [.int .i64 ((j : Nat) : Int), .int .i64 0] ∧ Frm σ8 σ' (· = B) ∧ ∃ Sj Rj, Inv Sj ∧ Sim Sj Rj ∧ DubIn σ' B Rj ∧ pairsM (oneM k) Sj (X.args.drop j) (Y.args.drop j) = some (e, S')) ⟨rfl, Frm.refl _ _, S, R, hS, hR, hs8, h⟩ ?_ ?_
    · rintro j st σ9 hj ⟨rfl, hF9, Sj, Rj, hSj, hRj, hDj, hp⟩
      have ej : wi64 ((j : Int) + 1) = ((j + 1 : Nat) : Int) := by rw [wi64_in (by omega)]; omega
      have hA9 := hF9.st hA nA
      have hB9 := hF9.st hB nB
      have bX9 := bX8.step hF9
      have bY9 := bY8.step hF9
      have hjX : j < X.args.length := by omega
      have hjY : j < Y.args.length := by omega
      have hjY' : j < Y'.args.length := by omega
      simp only [T36b0, asCons_cons, asInt_int, asNil_nil]
      rw [wp_ldF hA9 rfl, asSlice_slice, wp_bif, if_pos (by simp; omega), wp_join, wp_ldF hA9 rfl, asSlice_slice]
      rw [List.drop_eq_getElem_cons hjX, List.drop_eq_getElem_cons hjY] at hp
      unfold pairsM at hp
      have sX : strip X.args[j] = strip X'.args[j] := by
        have := congrArg (fun l => l[j]?) (strip_args eX)
        rw [stripL_map, stripL_map] at this
        simpa [hjX, hj] using this
      have sY : strip Y.args[j] = strip Y'.args[j] := by
        have := congrArg (fun l => l[j]?) (strip_args eY)
        rw [stripL_map, stripL_map] at this
        simpa [hjY, hjY'] using this
      have oX := (hXo.arg (List.getElem_mem hjX)).1
      have oY := (hYo.arg (List.getElem_mem hjY)).1
      have bx9 := bX9.arg (List.getElem_mem hj)
      have by9 := bY9.arg (List.getElem_mem hjY')
      refine wp_rowOf (bX9.full.rowAt hXc) hj rfl fun cs hX1 => ?_
      obtain ⟨rfl, _⟩ := hX1
      obtain ⟨p1, c1, hc1⟩ := bx9.full.cells
      cases h1 : oneM k Sj X.args[j] Y.args[j] with
      | none => rw [h1] at hp; cases hp
      | some r =>
      obtain ⟨e1, S1⟩ := r
      rw [h1] at hp
      simp only at hp
      have hI1 := (one_succ k Sj _ _ e1 S1 hSj oX oY h1).1
      have hxi := ih Sj Rj σ9 X.args[j] Y.args[j] X'.args[j] Y'.args[j] e1 S1 hSj hRj hDj bx9 by9 oX oY sX sY h1
      rw [hc1] at hxi ⊢
      simp only [asAgg_agg, asCons_cons, asInt_int, asStr_str, asSlice_slice, asNil_nil]
      rw [wp_ldF hB9 rfl, asSlice_slice]
      refine wp_rowOf (bY9.full.rowAt hYc) hjY' rfl fun cs hY1 => ?_
      obtain ⟨rfl, _⟩ := hY1
      obtain ⟨p2, c2, hc2⟩ := by9.full.cells
      rw [hc2] at hxi ⊢
      simp only [asAgg_agg, asCons_cons, asInt_int, asStr_str, asSlice_slice, asNil_nil]
      rw [wp_call]
      refine WpF.mono hxi ?_
      rintro _ σ10 ⟨rfl, hF10, R1, hR1, hD1⟩
      rw [asInt_int, wp_bif]
      by_cases he : e1 = 0
      · rw [if_pos he] at hp
        rw [if_neg (by simpa using he), wp_ret]
        simp only [T36k6, sw_nr, sw_same, asCons_cons, asInt_int, asNil_nil]
        rw [wp_ret, ej]
        exact ⟨rfl, hF9.seq hF10, S1, R1, hI1, hR1, hD1, hp⟩
      · rw [if_neg he] at hp
        cases hp
        rw [if_pos (by simpa using he), wp_ret]
        simp only [T36k6, sw_same, asCons_cons, asInt_int, asNil_nil]
        rw [wp_ret]
        simp only [T36k7, sw_re, sw_same, asCons_cons, asInt_int, asNil_nil]
        rw [wp_ret]
        exact ⟨_, rfl, rfl, hF08.no.seq (hF9.seq hF10), R1, hR1, hD1⟩
    · rintro st σ9 ⟨rfl, hF9, Sj, Rj, hSj, hRj, hDj, hp⟩
      rw [List.drop_of_length_le (by omega)] at hp
      unfold pairsM at hp
      cases hp
      simp only [T36b0, asCons_cons, asInt_int, asNil_nil]
      rw [wp_ldF (hF9.st hA nA) rfl, asSlice_slice, wp_bif, if_neg (by simp), wp_ret]
      simp only [T36k7, sw_same, asCons_cons, asInt_int, asNil_nil]
      rw [wp_ret]
      exact ⟨_, rfl, rfl, hF08.no.seq hF9, Rj, hRj, hDj⟩
end

/-! ### the document's great, Unify, all, Apply. -/

section
variable {σ : AHeap} {B : Nat} {R S : SubL} {ov : Ov}
set_option maxRecDepth 100000 in
theorem wp_Dgreat (hO : OvT ov) (hS : Inv S) (hR : Sim S R) (hs : DubIn σ B R) {w : Bool} (hw : allSmall UF S S = some w) :
    WpF PROG ov 37 [.pointer (some ⟨B, 0, some 0⟩)] σ fun v σ' => v = .bool (!w) ∧ Frm σ σ' NoB := by
  have hRo : ROk R := fun v y hy => (hR.ok hS hy).1
  refine WpF.of (T37_eq _) (hO _ (by decide) (by decide) (by decide)) ?_
  rw [T37]
  obtain ⟨N, hN⟩ : ∃ N : Nat, N = 2000 := ⟨_, rfl⟩
  refine Wp.count N (fun j st σ' => ∃ c : Bool, st = [.int .i64 ((j : Nat) : Int), .bool c] ∧ Frm σ σ' NoB ∧ ∀ i : Nat, i < j → ∀ x m, lookS S (i : Int) = some x → aszM CF S x = some m → m ≤ 500) ⟨false, rfl, Frm.refl _ _, fun i hi => absurd hi (Nat.not_lt_zero _)⟩ ?_ ?_
  · rintro j st σ4 hj ⟨c, rfl, hF4, hfo⟩
    have ej : wi64 ((j : Int) + 1) = ((j + 1 : Nat) : Int) := by rw [wi64_in (by omega)]; omega
    have hs4 := hs.frm hF4
    have hjv : 0 ≤ (j : Int) ∧ (j : Int) ≤ 1999 := by omega
    simp only [T37b0, asCons_cons, asInt_int, asBool_bool, asNil_nil]
    rw [wp_bif, if_pos (by simp; omega), wp_join, wp_join, wp_dkind hs4 hjv, asInt_int, wp_bif]
    have go : ∀ σ5 : AHeap, Frm σ σ5 NoB → (∀ x m, lookS S (j : Int) = some x → aszM CF S x = some m → m ≤ 500) → ∀ i : Nat, i < j + 1 → ∀ x m, lookS S (i : Int) = some x → aszM CF S x = some m → m ≤ 500 := fun σ5 hF5 h i hi x m hx hm => by
      by_cases e : i = j
      · subst e
        exact h x m hx hm
      · exact hfo i (by omega) x m hx hm
    cases hlo : lookS S (j : Int) with
    | none =>
      have e : (dcell R (j : Int)).k = 0 := by
        unfold dcell
        rw [hR.free hlo]
        rfl
      rw [if_neg (by simpa using e), wp_ret]
      simp only [T37k0, sw_same, asCons_cons, asBool_bool, asNil_nil]
      rw [wp_bif, if_neg (by simp), wp_ret]
      simp only [T37k1, sw_nr, sw_same, asCons_cons, asBool_bool, asNil_nil]
      rw [wp_ret, ej]
      exact ⟨c, rfl, hF4, go σ4 hF4 fun x m hx => by rw [hlo] at hx; cases hx⟩
    | some x =>
      obtain ⟨y, hy, exy⟩ := hR.look hlo
      have e : dcell R (j : Int) = y := by
        unfold dcell
        rw [hy]
        rfl
      have hxo := hS.ok _ (lookS_mem hlo)
      have hyo := hxo.strip exy
      have hyk := hyo.kpos
      obtain ⟨m, hm⟩ := hS.asz hxo
      have hyf : AFull σ4 y := hs4.all _ (lookS_mem hy)
      have kS := wp_Dsize hO hRo CF σ4 y m hs4 hyf hyo (asz_sim hR CF x y m exy hm)
      obtain ⟨yp, yc, hyc⟩ := hyf.cells
      rw [hyc] at kS
      rw [e, if_pos (by simp; omega), wp_dat hs4 hjv, e, hyc]
      simp only [asAgg_agg, asCons_cons, asInt_int, asStr_str, asSlice_slice, asNil_nil]
      rw [wp_call]
      refine WpF.mono kS ?_
      rintro _ σ5 ⟨rfl, hF5⟩
      rw [asInt_int, wp_ret]
      simp only [T37k0, sw_same, asCons_cons, asBool_bool, asNil_nil]
      rw [wp_bif]
      by_cases h5 : m ≤ 500
      · rw [if_neg (by simp; omega), wp_ret]
        simp only [T37k1, sw_nr, sw_same, asCons_cons, asBool_bool, asNil_nil]
        rw [wp_ret, ej]
        refine ⟨c, rfl, hF4.seq hF5, go σ5 (hF4.seq hF5) fun x' m' hx' hm' => ?_⟩
        rw [hlo] at hx'
        cases hx'
        rw [hm] at hm'
        cases hm'
        exact h5
      · rw [if_pos (by simp; omega), wp_ret]
        simp only [T37k1, sw_same, asCons_cons, asBool_bool, asNil_nil]
        rw [wp_ret]
        simp only [T37k2, sw_re, sw_same, asCons_cons, asInt_int, asBool_bool, asNil_nil]
        rw [wp_ret]
        have : w = false := by
          cases w with
          | false => rfl
          | true => exact absurd (small_all hS hw (j : Int) (1002999 + 2) m (by rw [hlo]; rfl) (asz_bound hlo hm)) h5
        subst this
        exact ⟨_, rfl, rfl, hF4.seq hF5⟩
  · rintro st σ4 ⟨c, rfl, hF4, hfo⟩
    simp only [T37b0, asCons_cons, asInt_int, asBool_bool, asNil_nil]
    rw [wp_bif, if_neg (by simp; omega), wp_ret]
    simp only [T37k2, sw_same, asCons_cons, asInt_int, asBool_bool, asNil_nil]
    rw [wp_ret]
    have : w = true := by
      cases w with
      | true => rfl
      | false =>
        obtain ⟨p, hp, e⟩ := allSmall_false hw
        obtain ⟨x, hx⟩ := look_mem hp
        have hr := hS.rng p hp
        obtain ⟨m, hm⟩ := hS.asz (hS.ok _ (lookS_mem hx))
        have h1 := small_val e (asz_bound (k := 1002999) hx hm)
        have h2 := hfo p.1.toNat (by omega) x m (by rw [Int.toNat_of_nonneg hr.1]; exact hx) hm
        rw [decide_eq_true h2] at h1
        cases h1
    subst this
    exact ⟨_, rfl, rfl, hF4⟩

theorem wp_DUnify (hO : OvT ov) {x y x' y' : AT} (hS : Inv S) (hR : Sim S R) (hs : DubIn σ B R) (hx' : SB B σ x') (hy' : SB B σ y') (ex : strip x = strip x') (ey : strip y = strip y') :
    WpF PROG ov 13 [.pointer (some ⟨B, 0, some 0⟩), .agg x'.c.toArray, .agg y'.c.toArray] σ fun v σ' => v = .int .i64 (unifyM S x y).1 ∧ Frm σ σ' (· = B) ∧ ∃ R', Sim (unifyM S x y).2 R' ∧ DubIn σ' B R' := by
  have gx := fun σ' (hF : Frm σ σ' NoB) => wp_GoodR hO (hx'.frm hF).full
  have gy := fun σ' (hF : Frm σ σ' NoB) => wp_GoodR hO (hy'.frm hF).full
  have kO := fun σ' (hF : Frm σ σ' NoB) e S' (hgx : goodM x = true) (hgy : goodM y = true) => wp_Done hO UF S R σ' x y x' y' e S' hS hR (hs.frm hF) (hx'.frm hF) (hy'.frm hF) (ok_good hgx) (ok_good hgy) ex ey
  rw [← goodM_strip ex] at gx
  rw [← goodM_strip ey] at gy
  have hlt := hs.st.1
  obtain ⟨px, cx, hxc⟩ := hx'.full.cells
  obtain ⟨py, cy, hyc⟩ := hy'.full.cells
  rw [hxc] at gx kO ⊢
  rw [hyc] at gy kO ⊢
  refine WpF.of (T13_eq _ _ _ _ _ _ _ _ _ _ _ _ _) (hO _ (by decide) (by decide) (by decide)) ?_
  rw [T13]
  refine wp_newQ fun σ1 hF1 hn1 hS1 => ?_
  refine wp_newQ fun σ2 hF2 hn2 hS2 => ?_
  have hS1 := hF2.stN hS1
  have hF02 := hF1.seq hF2
  rw [wp_join, wp_ldAll hS1 4 rfl]
  simp only [asAgg_agg, asCons_cons, asInt_int, asStr_str, asSlice_slice, asNil_nil]
  rw [wp_call]
  refine WpF.mono (gx σ2 hF02) ?_
  rintro _ σ3 ⟨rfl, hF3⟩
  have hF03 := hF02.seq hF3
  rw [asBool_bool, wp_bif]
  have bad : ∀ σ' : AHeap, Frm σ σ' NoB → (goodM x && goodM y) = false → Wp PROG ov (T13k3 (some ⟨B, 0, some 0⟩) ⟨σ.n, 0, some 0⟩ ⟨σ1.n, 0, some 0⟩ .normal [.bool true]) σ' fun _ vs σ' => ∃ v, vs = [v] ∧ v = .int .i64 (unifyM S x y).1 ∧ Frm σ σ' (· = B) ∧ ∃ R', Sim (unifyM S x y).2 R' ∧ DubIn σ' B R' := fun σ' hF hg => by
    simp only [T13k3, sw_same, asCons_cons, asBool_bool, asNil_nil]
    rw [wp_bif, if_pos rfl, wp_ret]
    unfold unifyM
    rw [hg]
    exact ⟨_, rfl, rfl, hF.no, R, hR, hs.frm hF⟩
  cases hgx : goodM x with
  | false =>
    rw [if_neg (by simp), wp_ret]
    exact bad σ3 hF03 (by rw [hgx]; rfl)
  | true =>
  rw [if_pos (by simp), wp_ldAll (hF3.stN hS2) 4 rfl]
  simp only [asAgg_agg, asCons_cons, asInt_int, asStr_str, asSlice_slice, asNil_nil]
  rw [wp_call]
  refine WpF.mono (gy σ3 hF03) ?_
  rintro _ σ4 ⟨rfl, hF4⟩
  have hF04 := hF03.seq hF4
  rw [asBool_bool, wp_ret]
  cases hgy : goodM y with
  | false => exact bad σ4 hF04 (by rw [hgx, hgy]; rfl)
  | true =>
  clear bad
  obtain ⟨e, S', h1, h2, _⟩ := one_uf hS (ok_good hgx) (ok_good hgy)
  obtain ⟨w, hal⟩ := allSmall_uf h2
  have hu : unifyM S x y = bif decide (e = 0) then (bif w then (0, S') else (2, S)) else (e, S) := by
    unfold unifyM
    rw [hgx, hgy, h1]
    simp only [Bool.and_self, cond_true, hal]
    cases w <;> rfl
  have hA := hF4.stN (hF3.stN hS1)
  have hB := hF4.stN (hF3.stN hS2)
  simp only [T13k3, sw_same, asCons_cons, asBool_bool, asNil_nil, Bool.not_true]
  rw [wp_bif, if_neg (by simp)]
  refine wp_save (hs.frm hF04) fun σ5 hF5 hn5 hC5 => ?_
  have hF05 := hF04.seq hF5
  have hn4 := hF04.n
  rw [wp_ldAll (hF5.stN hA) 4 rfl]
  simp only [asAgg_agg, asCons_cons, asInt_int, asStr_str, asSlice_slice, asNil_nil]
  rw [wp_ldAll (hF5.stN hB) 4 rfl]
  simp only [asAgg_agg, asCons_cons, asInt_int, asStr_str, asSlice_slice, asNil_nil]
  rw [wp_call]
  refine WpF.mono (kO σ5 hF05 e S' hgx hgy h1) ?_
  rintro _ σ6 ⟨rfl, hF6, R', hR', hD6⟩
  have hC6 := hF6.st hC5 (by omega)
  have hF06 : Frm σ σ6 (· = B) := hF05.no.seq hF6
  have fin0 : ∀ (i : Int) (σ' : AHeap) (P : Prop), P → Frm σ σ' (· = B) → (P → ∃ R', Sim (unifyM S x y).2 R' ∧ DubIn σ' B R') → (unifyM S x y).1 = i → Wp PROG ov (T13k0 i .normal []) σ' fun _ vs σ' => ∃ v, vs = [v] ∧ v = .int .i64 (unifyM S x y).1 ∧ Frm σ σ' (· = B) ∧ ∃ R', Sim (unifyM S x y).2 R' ∧ DubIn σ' B R' := fun i σ' P hP hF hR hi => by
    simp only [T13k0, sw_same, asNil_nil]
    rw [wp_ret]
    exact ⟨_, rfl, by rw [hi], hF, hR hP⟩
  have fin : ∀ (i : Int) (σ' : AHeap), i ≠ 0 → Frm σ σ' (· = B) → DubIn σ' B R' → St σ' σ4.n (dcs R).flatten → unifyM S x y = (i, S) → Wp PROG ov (T13k1 ⟨σ4.n, 0, some 0⟩ (some ⟨B, 0, some 0⟩) .normal [.int .i64 i]) σ' fun _ vs σ' => ∃ v, vs = [v] ∧ v = .int .i64 (unifyM S x y).1 ∧ Frm σ σ' (· = B) ∧ ∃ R', Sim (unifyM S x y).2 R' ∧ DubIn σ' B R' := fun i σ' hi hF hD hC hui => by
    simp only [T13k1, sw_same, asCons_cons, asInt_int, asNil_nil]
    rw [wp_join, wp_bif, if_pos (by simpa using hi)]
    refine wp_back (R := R) hD.st hD.len hD.last hs.flat hs.ones hC fun σ'' hF' hst => ?_
    rw [wp_ret]
    have hFF := hF.seq hF'
    refine fin0 i σ'' True trivial hFF (fun _ => ⟨R, by rw [hui]; exact hR, hst, fun p hp => (hs.full p hp).step hFF⟩) (by rw [hui])
  rw [asInt_int, wp_join, wp_bif]
  by_cases he : e = 0
  · subst he
    rw [if_pos (by simp), wp_call]
    refine WpF.mono (wp_Dgreat hO h2 hR' hD6 hal) ?_
    rintro _ σ7 ⟨rfl, hF7⟩
    rw [asBool_bool, wp_ret]
    simp only [T13k2, sw_same, asCons_cons, asBool_bool, asNil_nil]
    rw [wp_join, wp_bif]
    have hF07 : Frm σ σ7 (· = B) := hF06.seq hF7.no
    cases w with
    | true =>
      rw [if_neg (by simp), wp_ret]
      simp only [T13k1, sw_same, asCons_cons, asInt_int, asNil_nil]
      rw [wp_join, wp_bif, if_neg (by simp), wp_ret]
      exact fin0 0 σ7 True trivial hF07 (fun _ => ⟨R', by rw [hu]; exact hR', hD6.frm hF7⟩) (by rw [hu]; rfl)
    | false =>
      rw [if_pos (by simp), wp_ret]
      exact fin 2 σ7 (by decide) hF07 (hD6.frm hF7) (hF7.stN hC6) (by rw [hu]; rfl)
  · rw [if_neg (by simpa using he), wp_ret]
    simp only [T13k2, sw_same, asCons_cons, asBool_bool, asNil_nil]
    rw [wp_join, wp_bif, if_neg (by simp), wp_ret]
    exact fin e σ6 he hF06 hD6 hC6 (by rw [hu, decide_eq_false he]; rfl)
end

/-! ### the document's all, Apply; types that are made anew. -/

section
variable {σ : AHeap} {B : Nat} {R S : SubL} {ov : Ov}
theorem wp_Dall (hO : OvT ov) (hR : ROk R) : ∀ (k : Nat) (σ : AHeap) (t : AT) (T : Tr TA), DubIn σ B R → AFull σ t → Ok t → appM k R t = some T →
    WpF PROG ov 40 [.pointer (some ⟨B, 0, some 0⟩), .agg t.c.toArray] σ fun v σ' => Frm σ σ' NoB ∧ ∃ cs', v = .agg cs'.toArray ∧ ∀ n, VIn L4 σ' (fun j => j < σ.n) n cs' T := by
  intro k
  induction k with
  | zero => intro σ t T _ _ _ h; cases h
  | succ k ih =>
    intro σ t T hs ht ho hT
    unfold appM at hT
    split at hT
    · cases hT
    rename_i h hh
    split at hT
    · cases hT
    rename_i Ts hTs
    cases hT
    obtain ⟨hTl, hTg⟩ := appL_get hTs
    have hhd := fun σ' (hF : Frm σ σ' NoB) => wp_Dhead hO (hs.frm hF) hR (ht.frm hF) ho hh
    have hfull := headM_full hs.all ht hh
    have hho := head_ok hR ho hh
    obtain ⟨p, cap, hc⟩ := ht.cells
    rw [hc] at hhd ⊢
    refine WpF.of (T40_eq _ _ _ _ _ _ _) (hO _ (by decide) (by decide) (by decide)) ?_
    rw [T40]
    refine wp_newQ fun σ1 hF1 hn1 hS1 => ?_
    refine wp_newQ fun σ2 hF2 hn2 hS2 => ?_
    have hS1 := hF2.stN hS1
    have hF02 := hF1.seq hF2
    rw [wp_ldAll hS1 4 rfl]
    simp only [asAgg_agg, asCons_cons, asInt_int, asStr_str, asSlice_slice, asNil_nil]
    rw [wp_call]
    refine WpF.mono (hhd σ2 hF02) ?_
    rintro _ σ3 ⟨rfl, hF3⟩
    have hlen := hfull.len
    obtain ⟨hp, hcap, hhc, hrow⟩ := hfull.row
    rw [hhc]
    simp only [asAgg_agg, asCons_cons, asInt_int, asStr_str, asSlice_slice, asNil_nil]
    have hF03 := hF02.seq hF3
    refine wp_stQ (hF3.stN hS1) rfl rfl fun σ4 hF4 hn4 hS4 => ?_
    have hS2 := hF4.st (hF3.stN hS2) (by omega)
    have hF04 : Frm σ σ4 NoB := hF03.fresh hF4 fun i hi h => by omega
    have hn3 := hF3.n
    rw [wp_ldF hS4 rfl, asInt_int, wp_ldF hS4 rfl, asStr_str, wp_ldF hS4 rfl, asInt_int]
    refine wp_newQ fun σ5 hF5 hn5 hS5 => ?_
    refine wp_stQ hS5 rfl rfl fun σ7 hF7 hn7 hS7 => ?_
    have hA7 := hF7.st (hF5.stN hS4) (by omega)
    have hB7 := hF7.st (hF5.stN hS2) (by omega)
    have hF07 : Frm σ σ7 NoB := (hF04.seq hF5).fresh hF7 fun i hi h => by omega
    obtain ⟨A, hA⟩ : ∃ A, σ4.n = A := ⟨_, rfl⟩
    rw [hA] at hF7 hS7 ⊢
    have hn7' : σ7.n = A + 1 := by omega
    have hAn : σ.n + 2 ≤ A := by omega
    refine Wp.count h.args.length (fun j st σ' => st = [.int .i64 ((j : Nat) : Int)] ∧ Frm σ σ' NoB ∧ A + 1 ≤ σ'.n ∧ (∃ v, St σ' σ1.n v ∧ v.length = 4) ∧ St σ' σ.n (tcells h.a.1 (.slice hp h.args.length hcap)) ∧
        ∃ q cap2 b css, St σ' A (tcells h.a.1 (.slice q j cap2)) ∧ SlE σ' b q cap2 4 css.flatten ∧ (q ≠ none → A + 1 ≤ b) ∧ Elts 4 (fun cs t => ∀ n, VIn L4 σ' (fun i => i < A + 1 ∨ (q ≠ none ∧ i = b)) n cs t) css (Ts.take j))
      ⟨rfl, hF07, by omega, ⟨_, hB7, rfl⟩, hA7, none, 0, 0, [], hS7, .inl ⟨rfl, rfl, rfl⟩, fun h => absurd rfl h, Elts.nil⟩ ?_ ?_
    · rintro j st σ8 hj ⟨rfl, hF8, hn8, ⟨v, hB, hvl⟩, hH, q, cap2, b', css, hW, hQ, hqb, hE⟩
      have ej : wi64 ((j : Int) + 1) = ((j + 1 : Nat) : Int) := by rw [wi64_in (by omega)]; omega
      simp only [T40b0, asCons_cons, asInt_int, asNil_nil]
      rw [wp_ldF hH rfl, asSlice_slice, wp_bif, if_pos (by simp; omega), wp_join, wp_ldF hW rfl, asSlice_slice, wp_ldF hH rfl, asSlice_slice]
      have hr8 := hrow.stepM hF8 Maps.none (R' := fun cs (u : AT) => cs = u.c ∧ AFull σ8 u) fun _ _ h => ⟨h.1, h.2.frm hF8⟩
      have hjT : j < Ts.length := by omega
      have hTj := hTg j hj hjT
      have htk := List.take_succ_eq_append_getElem hjT
      refine wp_rowOf hr8 hj rfl fun cs hX => ?_
      have hxo := (hho.arg (List.getElem_mem hj)).1
      generalize h.args[j] = x at hX hTj hxo
      generalize Ts[j] = X at hTj htk
      obtain ⟨rfl, hx⟩ := hX
      have hxi := fun σ' (hF : Frm σ8 σ' NoB) => ih σ' x X (hs.frm (hF8.seq hF)) (hx.frm hF) hxo hTj
      obtain ⟨xp, xc, hxc⟩ := hx.cells
      rw [hxc] at hxi ⊢
      simp only [asAgg_agg, asCons_cons, asInt_int, asStr_str, asSlice_slice, asNil_nil]
      rw [wp_call]
      refine WpF.mono (hxi σ8 (Frm.refl _ _)) ?_
      rintro _ σ11 ⟨hF11, cs', rfl, hV'⟩
      obtain ⟨_, e2, p2, c2, rfl⟩ := (hV' 0).cells
      simp only [asAgg_agg, asCons_cons, asInt_int, asStr_str, asSlice_slice, asNil_nil]
      have hF811 := hF11
      have hW11 := hF11.stN hW
      have hQ11 : SlE σ11 b' q cap2 4 css.flatten := hQ.frm hF811 fun _ h => h
      have hjl : css.flatten.length = j * 4 := by
        rw [flat_len hE.2.1, hE.1, List.length_take, Nat.min_eq_left (by omega)]
      refine wp_appC hQ11 hjl (by decide) (by decide) rfl (ones4 (e := none) rfl) (by omega) (by omega) (fun σ' hF' => ?_) fun σ12 b2 off s cap3 hF12 hb12 hR12 => ?_
      · exact chks_one ((hF'.stN hW11).ldF rfl)
      have hbl : q ≠ none → b' < σ8.n := fun h => hQ.lt h
      have hW12 := hF12.st hW11 (by rintro ⟨h, rfl⟩; have := hqb h; omega)
      have hF812 : Frm σ8 σ12 (fun j => q ≠ none ∧ j = b') := hF811.no.seq hF12
      have hn11 := hF811.n
      refine wp_st1Q hW12 (by simp) rfl fun σ13 hF13 hn13 hS13 => ?_
      rw [wp_ret]
      simp only [T40k0, sw_same, asNil_nil]
      rw [wp_ret, ej]
      have hb2 : A + 1 ≤ b2 := by
        rcases hb12 with ⟨h1, rfl⟩ | h1
        · exact hqb h1
        · omega
      have hF013 : Frm σ σ13 NoB := (hF8.fresh hF812 fun i hi h => by have := hqb h.1; omega).fresh hF13 fun i hi h => by omega
      have hn12 := hF812.n
      have hB13 := hF13.st (hF812.st hB (by rintro ⟨h, h'⟩; have := hqb h; omega)) (by omega)
      have hH13 := hF13.st (hF812.st hH (by rintro ⟨h, h'⟩; have := hqb h; omega)) (by omega)
      refine ⟨rfl, hF013, by omega, ⟨v, hB13, hvl⟩, hH13, some ⟨b2, off, some s⟩, cap3, b2, css ++ [L4.cells X.a e2 (.slice p2 X.args.length c2)], ?_, .inr ⟨off, s, rfl, hF13.row (by simpa using hR12) (by omega)⟩, fun _ => hb2, ?_⟩
      · simpa using hS13
      · rw [htk]
        have hstep : ∀ (Z : Nat → Prop) (cs : List Value) (t : Tr TA), (∀ n, VIn L4 σ11 Z n cs t) → (∀ i, i < σ11.n → (q ≠ none ∧ i = b') → Z i) → (∀ i, i < σ11.n → (i < A + 1 ∨ i = b2) → Z i) → ∀ n, VIn L4 σ13 (fun i => i < A + 1 ∨ ((some ⟨b2, off, some s⟩ : Option Addr) ≠ none ∧ i = b2)) n cs t := fun Z cs t h h1 h2 n => by
          have h3 : VIn L4 σ12 (fun i => i < A + 1 ∨ i = b2) n cs t := (h n).step hF12 h1 h2
          have h4 : VIn L4 σ13 (fun i => i < A + 1 ∨ i = b2) n cs t := h3.step hF13 (fun i hi h => by omega) (fun i hi h => h)
          exact h4.step (Frm.refl σ13 NoB) (fun i hi h => h.elim) (fun i hi h => h.imp id fun h => h.2)
        refine hE.snoc (fun cs t h => ?_) rfl ?_
        · refine hstep _ cs t (fun n => (h n).frm hF811) (fun i hi h => .inr h) fun i hi h => ?_
          rcases h with h | rfl
          · exact .inl h
          · rcases hb12 with ⟨h1, rfl⟩ | h1
            · exact .inr ⟨h1, rfl⟩
            · omega
        · refine hstep _ _ _ hV' (fun i hi h => by rw [h.2]; have := hbl h.1; show b' < σ8.n; omega) fun i hi h => ?_
          show i < σ8.n
          rcases h with h | rfl
          · omega
          · rcases hb12 with ⟨h1, rfl⟩ | h1
            · have := hbl h1
              omega
            · omega
    · rintro st σ8 ⟨rfl, hF8, hn8, ⟨v, hB, hvl⟩, hH, q, cap2, b', css, hW, hQ, hqb, hE⟩
      rw [List.take_of_length_le (by omega)] at hE
      simp only [T40b0, asCons_cons, asInt_int, asNil_nil]
      rw [wp_ldF hH rfl, asSlice_slice, wp_bif, if_neg (by simp), wp_ret]
      simp only [T40k1, sw_same, asCons_cons, asInt_int, asNil_nil]
      rw [wp_ldAll hW 4 rfl]
      simp only [asAgg_agg, asCons_cons, asInt_int, asStr_str, asSlice_slice, asNil_nil]
      refine wp_stQ hB (by simp [hvl]) rfl fun σ9 hF9 hn9 hS9 => ?_
      rw [wp_ldAll hS9 4 rfl, wp_ret]
      refine ⟨_, rfl, hF8.fresh hF9 fun i hi h => by omega, _, rfl, fun n => ?_⟩
      cases n with
      | zero => exact ⟨trivial, none, q, cap2, by simp [Tr.args, Tr.a, hTl]⟩
      | succ n =>
        refine ⟨trivial, none, q, cap2, by simp [Tr.args, Tr.a, hTl], ?_⟩
        have h1 : RowOf σ8 (fun j => j < A + 1) 4 (VIn L4 σ8 (fun i => i < A + 1) n) q Ts := SlE.rowOf hQ (fun h h' => by have := hqb h; omega) (by decide) (hE.mono fun cs t h => (h n).step (Frm.refl σ8 NoB) (fun i hi h => h.elim) (fun i hi h => .inl h))
        exact h1.step hF9 (fun i hi h => by omega) (fun i hi h => by omega) fun cs t h => h.step hF9 (fun i hi h => by omega) (fun i hi h => by omega)

/-- The document's Apply, of what is good. -/
theorem wp_DApply (hO : OvT ov) (hR : ROk R) {t : AT} {T : Tr TA} {k : Nat} (hs : DubIn σ B R) (ht : AFull σ t) (hg : goodM t = true) (hT : appM k R t = some T) (hN : NW T) :
    WpF PROG ov 18 [.pointer (some ⟨B, 0, some 0⟩), .agg t.c.toArray] σ fun v σ' => Frm σ σ' NoB ∧ ∃ u : AT, v = .agg u.c.toArray ∧ AFull σ' u ∧ strip u = T := by
  have hz := fun σ' (hF : Frm σ σ' NoB) => wp_GoodR hO (ht.frm hF)
  have hw := fun σ' (hF : Frm σ σ' NoB) => wp_Dall hO hR k σ' t T (hs.frm hF) (ht.frm hF) (ok_good hg) hT
  obtain ⟨p, cap, hc⟩ := ht.cells
  rw [hc] at hz hw ⊢
  refine WpF.of (T18_eq _ _ _ _ _ _ _) (hO _ (by decide) (by decide) (by decide)) ?_
  rw [T18]
  refine wp_newQ fun σ1 hF1 hn1 hS1 => ?_
  refine wp_newQ fun σ2 hF2 hn2 hS2 => ?_
  have hS1 := hF2.stN hS1
  have hF02 := hF1.seq hF2
  rw [wp_ldAll hS1 4 rfl]
  simp only [asAgg_agg, asCons_cons, asInt_int, asStr_str, asSlice_slice, asNil_nil]
  rw [wp_call]
  refine WpF.mono (hz σ2 hF02) ?_
  rintro _ σ3 ⟨rfl, hF3⟩
  have hF03 := hF02.seq hF3
  rw [asBool_bool, wp_bif, hg, if_neg (by simp), wp_ldAll (hF3.stN hS1) 4 rfl]
  simp only [asAgg_agg, asCons_cons, asInt_int, asStr_str, asSlice_slice, asNil_nil]
  rw [wp_call]
  refine WpF.mono (hw σ3 hF03) ?_
  rintro _ σ4 ⟨hF4, cs', rfl, hV⟩
  obtain ⟨_, e2, p2, c2, rfl⟩ := (hV 0).cells
  simp only [asAgg_agg, asCons_cons, asInt_int, asStr_str, asSlice_slice, asNil_nil]
  have hn3 := hF3.n
  have hn4 := hF4.n
  refine wp_stQ (hF4.stN (hF3.stN hS2)) rfl rfl fun σ5 hF5 hn5 hS5 => ?_
  rw [wp_ldAll hS5 4 rfl, wp_ret]
  obtain ⟨u, h1, h2, h3⟩ := full_T (σ := σ5) (Y := fun j => j < σ3.n) _ T _ (Nat.le_refl _) hN fun n => (hV n).step hF5 (fun i hi h => by omega) (fun i hi h => h)
  exact ⟨_, rfl, (hF03.seq hF4).fresh hF5 fun i hi h => by omega, u, by rw [h1], h2, h3⟩
end

theorem vin_full {σ : AHeap} : ∀ (n : Nat) (u : AT), AFull σ u → VIn L4 σ NoB n u.c (strip u)
  | 0, .mk d l, h => by
    obtain ⟨p, cap, e⟩ := h.cells
    refine ⟨trivial, none, p, cap, ?_⟩
    rw [e, strip, stripL_map]
    simp [Tr.args, Tr.a]
  | n + 1, .mk d l, h => by
    obtain ⟨p, cap, e, hr⟩ := h.row
    refine ⟨trivial, none, p, cap, ?_, ?_⟩
    · rw [e, strip, stripL_map]
      simp [Tr.args, Tr.a]
    · rw [strip, stripL_map]
      intro i hi
      have hi' : i < l.length := by simpa [Tr.args] using hi
      obtain ⟨x, cs, q1, q2, q3, q4, q5⟩ := hr i hi'
      refine ⟨x, cs, q1, q2, q3, ?_⟩
      rw [q4]
      simpa [Tr.args] using vin_full n l[i] q5
theorem fit_NW : ∀ (n : Nat) (T : Tr TA), SizeOf.sizeOf T ≤ n → NW T → fitT n T
  | 0, T, h, _ => by cases T; simp at h
  | n + 1, .mk a l, h, hw => by
    rw [NW] at hw
    refine ⟨Nat.le_trans hw.2.1 (by decide), hw.1, fun x hx => fit_NW n x ?_ (NWL_mem hw.2.2 x hx)⟩
    have := List.sizeOf_lt_of_mem (show x ∈ l from hx)
    simp only [Tr.mk.sizeOf_spec] at h
    omega
/-- As full_of, for a type that stays. -/
theorem full_ofK {σ : AHeap} {Y : Nat → Prop} : ∀ (n : Nat) (cs : List Value) (t : Tr TA), VIn L4 σ Y n cs t → fitT n t → ∃ u : AT, u.c = cs ∧ strip u = t ∧ ∀ σ' (Z : Nat → Prop), Frm σ σ' Z → (∀ j, j < σ.n → Z j → Y j) → AFull σ' u := by
  intro n
  induction n with
  | zero => intro cs t _ h; exact h.elim
  | succ n ih =>
    rintro cs ⟨a, args⟩ ⟨_, e, p, cap, rfl, hr⟩ ⟨hl4, _, hfit⟩
    simp only [Tr.a, Tr.args] at hr hl4 hfit ⊢
    obtain ⟨us, hul, hus⟩ := choose_list (α := AT) args.length (fun i u => ∃ h : i < args.length, ∃ x cs, p = some x ∧ Vis σ Y x ∧ σ.rdN (aadd x (i * 4)) 4 = some cs ∧ u.c = cs ∧ strip u = args[i] ∧ ∀ σ' (Z : Nat → Prop), Frm σ σ' Z → (∀ j, j < σ.n → Z j → Y j) → AFull σ' u) (fun i hi => by
      obtain ⟨x, cs, q1, q2, q3, q4⟩ := hr i hi
      obtain ⟨u, r1, r2, r3⟩ := ih cs _ q4 (hfit _ (List.getElem_mem hi))
      exact ⟨u, hi, x, cs, q1, q2, q3, r1, r2, r3⟩)
    refine ⟨.mk (a, L4.cells a e (.slice p args.length cap)) us, rfl, ?_, fun σ' Z hF hZ => ?_⟩
    · rw [strip, stripL_map]
      congr 1
      refine List.ext_getElem (by simp [hul]) fun i h1 h2 => ?_
      obtain ⟨hi', _, _, _, _, _, _, q6, _⟩ := hus i (by simpa using h1)
      rw [List.getElem_map, q6]
    · refine AFull.of (p := p) (cap := cap) (by simp only [Tr.args]; omega) (by simp only [Tr.args, hul, AT.c, Tr.a]) fun i hi => ?_
      obtain ⟨hi', x, cs, q1, q2, q3, q4, q5, q6⟩ := hus i hi
      refine ⟨x, cs, q1, ?_, ?_, q4.symm, q6 σ' Z hF hZ⟩
      · exact (q2.step (Y' := NoB) hF fun _ _ h => h.elim)
      · rw [rdN_keep hF q2 hZ]
        exact q3
section
variable {σ : AHeap} {ov : Ov}
/-- A type is told the document: it stays while what was there before is written. -/
theorem wp_told (hO : OvT ov) {n : Nat} {cs : List Value} {T : Tr TA} (h : VIn L4 σ NoB n cs T) (hf : fitT n T) :
    WpF PROG ov 14 [.agg cs.toArray] σ fun v σ' => Frm σ σ' NoB ∧ ∃ u : AT, v = .agg u.c.toArray ∧ strip u = T ∧ Stays σ' σ.n u := by
  refine WpF.mono (wp_ty1 hO n σ cs T h hf) ?_
  rintro v σ' ⟨hF, cs', rfl, hV⟩
  obtain ⟨u, h1, h2, h3⟩ := full_ofK n cs' T hV hf
  exact ⟨hF, u, by rw [h1], h2, fun σ'' Z hF' hZ => h3 σ'' Z hF' hZ⟩
theorem wp_toldA (hO : OvT ov) {u : AT} (h : AFull σ u) (hN : NA u) :
    WpF PROG ov 14 [.agg u.c.toArray] σ fun v σ' => Frm σ σ' NoB ∧ ∃ w : AT, v = .agg w.c.toArray ∧ strip w = strip u ∧ Stays σ' σ.n w :=
  wp_told hO (vin_full _ u h) (fit_NW _ _ (Nat.le_refl _) hN)
theorem Stays.sb {n B : Nat} {u : AT} (h : Stays σ n u) (hB : B < n) : SB B σ u := fun σ' f => h σ' (· ≤ B) f fun _j _ e => Nat.lt_of_le_of_lt e hB
end

/-! ### the law TyUnifies: the program's sub and the document's, side by side. -/
open Go.Lib

theorem awake1 (old : Addr → Option Value) (a : TA) (p : Option Addr) (n c : Nat) :
    WpF PROG ovL 9 [] ((startH (unO tabsD old)).newBlk (tcells a (.slice p n c)) 0) fun v σ' => v = .bool true ∧ σ'.old = unO tabsD old ∧ Fresh σ' ∧ St σ' 0 (tcells a (.slice p n c)) :=
  WpF.tabH TAB_ok 100000 (by kernel_rfl) (by kernel_rfl) ⟨Nat.le_of_ble_eq_true (by kernel_rfl), by kernel_rfl⟩

theorem past_ok2' {h : Act} {v : Value} {σ τ σ' τ' : AHeap} (e : h σ = some (v, τ)) (e' : h σ' = some (v, τ')) : past h v [σ, σ'] = true := by
  simp [past, chkAt, e, e', eqv_same]

/-- Both subs, that stand for the same. -/
structure DI (σB σ : AHeap) (b1 B : Nat) (S R : SubL) : Prop where
  one : OneI σB σ b1 none 0 [] S
  sim : Sim S R
  dub : DubIn σ B R
  lt : b1 < B
  base : σB.n ≤ b1
section
variable {σB σ σ' : AHeap} {b1 B : Nat} {S R : SubL}
theorem DI.step (h : DI σB σ b1 B S R) (f : Frm σ σ' NoB) : DI σB σ' b1 B S R := ⟨h.one.step f, h.sim, h.dub.frm f, h.lt, h.base⟩
theorem OneI.other {l : List Value} (h : OneI σB σ b1 none 0 [] S) (f : Frm σ σ' (· = B)) (hst : St σ B l) (hb : b1 ≠ B) (hB : σB.n ≤ B) : OneI σB σ' b1 none 0 [] S := by
  obtain ⟨r, b, h1, _, _⟩ := h.heap
  have hr : r ≠ B := fun e => by
    have h2 := h1.map
    rw [e, hst.2] at h2
    cases h2
  have hf : Frm σB σ' NoB := h.frm.fresh f fun j hj e => by omega
  refine ⟨hf, h.inv, h.na, h.full, h.good, h.pairs, r, 0, SubW.of (f.st h1.st hb) (Nat.lt_of_lt_of_le h1.lt f.n) ?_ fun p hp => (h.full p hp).frm hf, .inl ⟨rfl, rfl, rfl⟩, fun h => absurd rfl h⟩
  rw [f.get r h1.lt hr]
  exact h1.map
theorem DubIn.other (h : DubIn σ B R) (f : Frm σ σ' (· = b1)) (hb : b1 < B) : DubIn σ' B R :=
  ⟨f.st h.st (by omega), fun p hp => (h.full p hp).low (f.mono fun _ _ e => by omega)⟩
end

set_option maxHeartbeats 2000000 in
set_option maxRecDepth 100000 in
/-- A pair more. -/
theorem wp_pair {σB σ : AHeap} {b1 B : Nat} {S R : SubL} {p0 : Option Addr} {ts : List (Tr TA)} {ua : AT} {i : Nat} {Q : Post} (hI : DI σB σ b1 B S R) (hrow : RowOf σB NoB 4 (VIn L4 σB NoB 7) p0 ts) (hts : ts.length ≤ 30) (hlt : i + 1 < ts.length)
    (hA : St σB 0 ua.c) (hUa : AFull σB ua) (hNa : goodM ua = true → NA ua)
    (bad : ∀ σ', Q .ret [.bool true] σ') (K : ∀ σ' S' R', DI σB σ' b1 B S' R' → Q .normal [.bool false] σ') :
    Wp PROG ovL (.join (asSome p0 fun a49 => grd ((decide (0 ≤ ((i : Nat) : Int))) && (decide (((i : Nat) : Int) < ((ts.length : Nat) : Int)))) (.act (ldN 4 (aadd a49 ((Int.toNat ((i : Nat) : Int)) * 4))) fun v50 => asAgg v50 fun l51 => asCons l51 fun v52 l53 => asInt .i64 v52 fun i54 => asCons l53 fun v55 l56 => asStr v55 fun s57 => asCons l56 fun v58 l59 => asInt .i64 v58 fun i60 => asCons l59 fun v61 l62 => asSlice v61 fun p63 n64 n65 => asNil l62 (.call 10 [(.agg #[(.int .i64 i54), (.string s57), (.int .i64 i60), (.slice p63 n64 n65)]), (.int .i64 64)] fun v66 => asBool v66 fun b67 => bif (!b67) == false then (asSome p0 fun a68 => grd ((decide (0 ≤ ((i + 1 : Nat) : Int))) && (decide (((i + 1 : Nat) : Int) < ((ts.length : Nat) : Int)))) (.act (ldN 4 (aadd a68 ((Int.toNat ((i + 1 : Nat) : Int)) * 4))) fun v69 => asAgg v69 fun l70 => asCons l70 fun v71 l72 => asInt .i64 v71 fun i73 => asCons l72 fun v74 l75 => asStr v74 fun s76 => asCons l75 fun v77 l78 => asInt .i64 v77 fun i79 => asCons l78 fun v80 l81 => asSlice v80 fun p82 n83 n84 => asNil l81 (.call 10 [(.agg #[(.int .i64 i73), (.string s76), (.int .i64 i79), (.slice p82 n83 n84)]), (.int .i64 64)] fun v85 => asBool v85 fun b86 => .ret .normal [(.bool (!b86))]))) else (.ret .normal [(.bool true)])))) (T3k1 p0 ((i : Nat) : Int) ts.length (some ⟨b1, 0, some 0⟩) ⟨B, 0, some 0⟩ ⟨0, 0, some 0⟩ false)) σ Q := by
  have hO := ovL_T
  have e1 : wi64 (((i : Nat) : Int) + 1) = ((i + 1 : Nat) : Int) := by rw [wi64_in (by omega)]; omega
  have hi0 : i < ts.length := by omega
  have hfin : ∀ σ' : AHeap, Wp PROG ovL (T3k1 p0 ((i : Nat) : Int) ts.length (some ⟨b1, 0, some 0⟩) ⟨B, 0, some 0⟩ ⟨0, 0, some 0⟩ false .normal [.bool true]) σ' Q := fun σ' => by
    simp only [T3k1, sw_same, asCons_cons, asBool_bool, asNil_nil]
    rw [wp_bif, if_pos rfl, wp_ret]
    exact bad σ'
  obtain ⟨x, cs, hp0, hVx, hlx⟩ := row_given hrow hi0
  obtain ⟨x', cs', hp0', hVy, hly⟩ := row_given hrow hlt
  have hxx : x' = x := Option.some.inj (hp0'.symm.trans hp0)
  subst hxx
  rw [hp0] at hfin ⊢
  generalize hX : ts[i] = X at hVx
  generalize hY : ts[i + 1] = Y at hVy
  obtain ⟨_, ex, px, cx, rfl⟩ := hVx.cells
  obtain ⟨_, ey, py, cy, rfl⟩ := hVy.cells
  rw [wp_join, wp_at hi0 (hlx σ hI.one.frm)]
  simp only [asAgg_agg, asCons_cons, asInt_int, asStr_str, asSlice_slice, asNil_nil]
  rw [wp_call]
  have hsm0 := wp_small ovL_T 7 (Nat.le_refl _) σ _ _ (hVx.frm hI.one.frm)
  rw [lev7] at hsm0
  refine WpF.mono hsm0 ?_
  rintro _ σ5 ⟨rfl, hF5⟩
  rw [asBool_bool, wp_bif]
  cases hb0 : bigT 7 X with
  | true =>
    rw [if_neg (by simp), wp_ret]
    exact hfin σ5
  | false =>
  rw [if_pos (by simp)]
  have hI5 := hI.step hF5
  rw [wp_at hlt (hly σ5 hI5.one.frm)]
  simp only [asAgg_agg, asCons_cons, asInt_int, asStr_str, asSlice_slice, asNil_nil]
  rw [wp_call]
  have hsm1 := wp_small ovL_T 7 (Nat.le_refl _) σ5 _ _ (hVy.frm hI5.one.frm)
  rw [lev7] at hsm1
  refine WpF.mono hsm1 ?_
  rintro _ σ6 ⟨rfl, hF6⟩
  rw [asBool_bool, wp_ret]
  cases hb1' : bigT 7 Y with
  | true => exact hfin σ6
  | false =>
  have hI6 := hI5.step hF6
  have hfx := bigM_fits hb0
  have hfy := bigM_fits hb1'
  obtain ⟨u, huc, hU, hus⟩ := full_of 7 _ _ hVx hfx
  obtain ⟨w, hwc, hW, hws⟩ := full_of 7 _ _ hVy hfy
  have hfu : Fits nmA 7 u := fits_strip 7 u (by rw [hus]; exact hfx)
  have hfw : Fits nmA 7 w := fits_strip 7 w (by rw [hws]; exact hfy)
  have nu : goodM u = true → NA u := fun hg => NA.of 7 u hfu (ok_good hg)
  have nw : goodM w = true → NA w := fun hg => NA.of 7 w hfw (ok_good hg)
  simp only [T3k1, sw_same, asCons_cons, asBool_bool, asNil_nil, Bool.not_false, e1]
  rw [wp_bif, if_neg (by simp), wp_at hi0 (hlx σ6 hI6.one.frm)]
  simp only [asAgg_agg, asCons_cons, asInt_int, asStr_str, asSlice_slice, asNil_nil]
  rw [wp_at hlt (hly σ6 hI6.one.frm)]
  simp only [asAgg_agg, asCons_cons, asInt_int, asStr_str, asSlice_slice, asNil_nil]
  have kU := hI6.one.unify hI6.base hU hW nu nw (cnt_fit7 hfu) (cnt_fit7 hfw)
  rw [huc, hwc] at kU
  rw [wp_get, wp_call]
  refine WpF.mono kU ?_
  rintro _ σ7 ⟨rfl, hF7, hI7, _⟩
  have hD7 := hI6.dub.other hF7 hI6.lt
  rw [asInt_int, wp_at hi0 (hlx σ7 hI7.frm), wp_grd]
  refine ⟨past_ok (by rw [Int.toNat_natCast]; exact hlx σ6 hI6.one.frm), ?_⟩
  simp only [asAgg_agg, asCons_cons, asInt_int, asStr_str, asSlice_slice, asNil_nil]
  rw [wp_get, wp_call]
  refine WpF.mono (wp_told hO (hVx.frm hI7.frm) hfx) ?_
  rintro _ σ8 ⟨hF8, u', rfl, hu's, hu'⟩
  have hI8 := hI7.step hF8
  have hD8 := hD7.frm hF8
  obtain ⟨pu, cu, huc'⟩ := hu'.full.cells
  rw [huc']
  simp only [asAgg_agg, asCons_cons, asInt_int, asStr_str, asSlice_slice, asNil_nil]
  rw [wp_at hlt (hly σ8 hI8.frm), wp_grd]
  refine ⟨past_ok2' (by rw [Int.toNat_natCast]; exact hly σ7 hI7.frm) (by rw [Int.toNat_natCast]; exact hly σ6 hI6.one.frm), ?_⟩
  simp only [asAgg_agg, asCons_cons, asInt_int, asStr_str, asSlice_slice, asNil_nil]
  rw [wp_call]
  refine WpF.mono (wp_told hO (hVy.frm hI8.frm) hfy) ?_
  rintro _ σ9 ⟨hF9, w', rfl, hw's, hw'⟩
  have hI9 := hI8.step hF9
  have hD9 := hD8.frm hF9
  have hn7 := hD7.st.1
  have hn8 := hF8.n
  have kD := wp_DUnify hO (x := u) (y := w) hI6.one.inv hI6.sim hD9 ((hu'.sb hn7).frm hF9) (hw'.sb (by omega)) (by rw [hus, hu's]) (by rw [hws, hw's])
  obtain ⟨pw, cw, hwc'⟩ := hw'.full.cells
  rw [huc', hwc'] at kD
  rw [hwc']
  simp only [asAgg_agg, asCons_cons, asInt_int, asStr_str, asSlice_slice, asNil_nil]
  rw [wp_call]
  refine WpF.mono kD ?_
  rintro _ σ10 ⟨rfl, hF10, R', hR', hD10⟩
  have hI10 : DI σB σ10 b1 B (unifyM S u w).2 R' := ⟨hI9.other hF10 hD9.st (Nat.ne_of_lt hI6.lt) (Nat.le_trans hI6.base (Nat.le_of_lt hI6.lt)), hR', hD10, hI6.lt, hI6.base⟩
  rw [asInt_int, wp_bif, if_neg (by simp), wp_join]
  generalize (unifyM S u w).2 = S' at hI10
  clear hI9 hD9 hI8 hD8 hI7 hD7 hI6 hI5 hR' kU kD hF10 hF9 hF8 hF7
  have hA10 : ∀ σ', Frm σB σ' NoB → St σ' 0 ua.c := fun σ' f => f.stN hA
  obtain ⟨pa, ca, hac⟩ := hUa.cells
  have kG := wp_Good hO (hUa.frm hI10.one.frm)
  rw [hac] at hA10 kG
  rw [wp_ldAll (hA10 _ hI10.one.frm) 4 rfl]
  simp only [asAgg_agg, asCons_cons, asInt_int, asStr_str, asSlice_slice, asNil_nil]
  rw [wp_call]
  refine WpF.mono kG ?_
  rintro _ σ11 ⟨rfl, hF11⟩
  have hI11 := hI10.step hF11
  rw [asBool_bool, wp_bif]
  have done : ∀ σ', DI σB σ' b1 B S' R' → Wp PROG ovL (T3k0 false .normal [.bool false]) σ' Q := fun σ' h => by
    simp only [T3k0, sw_same, asCons_cons, asBool_bool, asNil_nil]
    rw [wp_bif, if_neg (by simp), wp_ret]
    exact K σ' S' R' h
  cases hg : goodM ua with
  | false =>
    rw [if_neg (by simp), wp_ret]
    exact done σ11 hI11
  | true =>
  have hoa := ok_good hg
  have hNA := hNa hg
  obtain ⟨T, hT⟩ := ap_tot hI11.one.inv hoa
  have hNT : NW T := app_NW hI11.one.na CF ua T hNA hT
  have kA := hI11.one.apply (hUa.frm hI11.one.frm) hg hNA hT
  rw [hac] at kA
  rw [if_pos (by simp), wp_ldAll (hA10 _ hI11.one.frm) 4 rfl]
  simp only [asAgg_agg, asCons_cons, asInt_int, asStr_str, asSlice_slice, asNil_nil]
  rw [wp_get, wp_call]
  refine WpF.mono kA ?_
  rintro _ σ12 ⟨hF12, v1, rfl, hv1s, hv1⟩
  have hI12 := hI11.step hF12
  have kT := wp_toldA hO hv1.full (by unfold NA; rw [hv1s]; exact hNT)
  obtain ⟨p1, c1, hc1⟩ := hv1.full.cells
  rw [hc1] at kT ⊢
  simp only [asAgg_agg, asCons_cons, asInt_int, asStr_str, asSlice_slice, asNil_nil]
  rw [wp_get, wp_call]
  refine WpF.mono kT ?_
  rintro _ σ13 ⟨hF13, v2, rfl, hv2s, hv2⟩
  have hI13 := hI12.step hF13
  obtain ⟨p2, c2, hc2⟩ := hv2.full.cells
  rw [hc2]
  simp only [asAgg_agg, asCons_cons, asInt_int, asStr_str, asSlice_slice, asNil_nil]
  rw [wp_ldAll (hA10 _ hI13.one.frm) 4 rfl, wp_grd]
  refine ⟨past_ok2' ((hA10 _ hI12.one.frm).ldAll 4 rfl) ((hA10 _ hI11.one.frm).ldAll 4 rfl), ?_⟩
  have kT2 := wp_toldA hO (hUa.frm hI13.one.frm) hNA
  rw [hac] at kT2
  simp only [asAgg_agg, asCons_cons, asInt_int, asStr_str, asSlice_slice, asNil_nil]
  rw [wp_call]
  refine WpF.mono kT2 ?_
  rintro _ σ14 ⟨hF14, v3, rfl, hv3s, hv3⟩
  have hI14 := hI13.step hF14
  have hRo : ROk R' := fun v y hy => (hI14.sim.ok hI14.one.inv hy).1
  have kDA := wp_DApply hO hRo hI14.dub hv3.full (by rw [goodM_strip hv3s]; exact hg) (app_sim hI14.sim CF ua v3 T hv3s.symm hT) hNT
  obtain ⟨p3, c3, hc3⟩ := hv3.full.cells
  rw [hc3] at kDA ⊢
  simp only [asAgg_agg, asCons_cons, asInt_int, asStr_str, asSlice_slice, asNil_nil]
  rw [wp_call]
  refine WpF.mono kDA ?_
  rintro _ σ15 ⟨hF15, v4, rfl, hv4, hv4s⟩
  have hI15 := hI14.step hF15
  have kS := wp_SameR hO _ σ15 v2 v4 (Nat.le_refl _) (hv2.full.frm (hF14.seq hF15)) hv4
  rw [same_strip (t := v2) (u := v4) (by rw [hv2s, hv1s, hv4s])] at kS
  obtain ⟨p4, c4, hc4⟩ := hv4.cells
  rw [hc2, hc4] at kS
  rw [hc4]
  simp only [asAgg_agg, asCons_cons, asInt_int, asStr_str, asSlice_slice, asNil_nil]
  rw [wp_call]
  refine WpF.mono kS ?_
  rintro _ σ16 ⟨rfl, hF16⟩
  rw [asBool_bool, wp_ret]
  exact done σ16 (hI15.step hF16)

set_option maxHeartbeats 2000000 in
set_option maxRecDepth 100000 in
theorem tyUnifies_law (p0 : Option Addr) (c0 : Nat) (l0 : List (tySh 7).D) (x1 : (tySh 7).D) (vs1 : List Value) (old0 : Addr → Option Value) (rd0 : RdR (unO tabsD old0) 4 (tySh 7) p0 l0) (ok0 : (Sh.row 4 (tySh 7)).ok l0) (av1 : AV (unO tabsD old0) (tySh 7) x1 vs1) (ok1 : Sh.ok (tySh 7) x1) :
    WpF PROG ovL 3 [.slice p0 l0.length c0, .agg vs1.toArray] (startH (unO tabsD old0)) fun v _ => v = .bool true := by
  have hO := ovL_T
  have hV1 : ∀ σ : AHeap, σ.old = unO tabsD old0 → VIn L4 σ NoB 7 vs1 (cT 7 x1) := fun σ hσ => av_T hσ 6 x1 vs1 av1 ok1
  have hR0 : ∀ σ : AHeap, σ.old = unO tabsD old0 → RowOf σ NoB 4 (VIn L4 σ NoB 7) p0 (l0.map (cT 7)) := fun σ hσ => row_T hσ 7 rd0 ok0
  have hll : l0.length = (l0.map (cT 7)).length := by simp
  rw [hll]
  generalize l0.map (cT 7) = ts at hR0
  obtain ⟨_, _, p1, c1, e1⟩ := (hV1 (startH (unO tabsD old0)) rfl).cells
  generalize cT 7 x1 = t1 at hV1 e1
  rw [e1]
  refine WpF.of (T3_eq _ _ _ _ _ _ _ _ _) (hO _ (by decide) (by decide) (by decide)) ?_
  rw [T3, wp_act, newC_eq]
  simp only [asPtr_ptr, asSome_some]
  rw [wp_call]
  refine WpF.mono (awake1 old0 t1.a p1 t1.args.length c1) ?_
  rintro _ σ1 ⟨rfl, ho1, hf1, hA1⟩
  have hV11 := hV1 σ1 ho1
  rw [e1] at hV11
  rw [show (startH (unO tabsD old0)).n = 0 from rfl]
  have hdone : ∀ σ' : AHeap, Wp PROG ovL (T3k4 ts.length p0 ⟨0, 0, some 0⟩ .normal [.bool true]) σ' fun _ vs _ => ∃ v, vs = [v] ∧ v = .bool true := fun σ' => by
    simp only [T3k4, sw_same, asCons_cons, asBool_bool, asNil_nil]
    rw [wp_bif, if_pos rfl, wp_ret]
    exact ⟨_, rfl, rfl⟩
  rw [asBool_bool, wp_bif, if_neg (by simp), wp_join, wp_bif]
  by_cases h12 : ts.length ≤ 30
  case neg =>
    rw [if_neg (by rw [decide_eq_true (by omega)]; simp), wp_ret]
    exact hdone σ1
  rw [if_pos (by rw [decide_eq_false (by omega)]; rfl), wp_ldAll hA1 4 rfl]
  simp only [asAgg_agg, asCons_cons, asInt_int, asStr_str, asSlice_slice, asNil_nil]
  rw [wp_call]
  have hsm0 := wp_small hO 7 (Nat.le_refl _) σ1 _ t1 hV11
  rw [lev7] at hsm0
  refine WpF.mono hsm0 ?_
  rintro _ σB ⟨rfl, hF2⟩
  rw [asBool_bool, wp_ret]
  cases hb0 : bigT 7 t1 with
  | true => exact hdone σB
  | false =>
  have hfit1 := bigM_fits hb0
  obtain ⟨ua, huac, hUa, hs1⟩ := full_of 7 _ t1 (hV11.frm hF2) hfit1
  have hfua : Fits nmA 7 ua := fits_strip 7 ua (by rw [hs1]; exact hfit1)
  have hNa : goodM ua = true → NA ua := fun hg => NA.of 7 ua hfua (ok_good hg)
  have hA : St σB 0 ua.c := by
    rw [huac]
    exact hF2.stN hA1
  have hoB : σB.old = unO tabsD old0 := by rw [hF2.old, ho1]
  have hrow := hR0 σB hoB
  simp only [T3k4, sw_same, asCons_cons, asBool_bool, asNil_nil, Bool.not_false, Bool.not_true]
  rw [wp_bif, if_neg (by simp), wp_call]
  refine WpF.mono (wp_New hO σB) ?_
  rintro _ σ6 ⟨rfl, hF6, hW6⟩
  rw [asPtr_ptr]
  refine wp_bigZ fun σ7 hF7 hn7 hD7 => ?_
  have hI6 : OneI σB σ6 (σB.n + 1) none 0 [] [] := ⟨hF6, Inv.nil, (fun p h => by cases h), (fun p h => by cases h), (fun w h => by cases h), Pairs.nil _, σB.n, 0, hW6, .inl ⟨rfl, rfl, rfl⟩, fun h => absurd rfl h⟩
  have hlt6 := hW6.st.1
  have hI : DI σB σ7 (σB.n + 1) σ6.n [] [] := ⟨hI6.step hF7, fun _ => rfl, hD7, hlt6, by omega⟩
  generalize σB.n + 1 = b1 at hI ⊢
  generalize σ6.n = B at hI ⊢
  refine Wp.loop (fun m st σ' => ∃ (i : Nat) (S R : SubL), m = ts.length + 2 - i ∧ i ≤ ts.length + 1 ∧ st = [.int .i64 ((i : Nat) : Int), .bool false] ∧ DI σB σ' b1 B S R) (ts.length + 2) ⟨0, [], [], by omega, by omega, rfl, hI⟩ ?_
  rintro m st σ8 ⟨i, S, R, rfl, hi, rfl, hI8⟩
  have e1' : wi64 (((i : Nat) : Int) + 1) = ((i + 1 : Nat) : Int) := by rw [wi64_in (by omega)]; omega
  have e2' : wi64 (((i : Nat) : Int) + 2) = ((i + 2 : Nat) : Int) := by rw [wi64_in (by omega)]; omega
  simp only [T3b0, asCons_cons, asInt_int, asBool_bool, asNil_nil, e1']
  rw [wp_bif]
  by_cases hlt : i + 1 < ts.length
  case neg =>
    rw [if_neg (by rw [decide_eq_false (by omega)]; simp), wp_ret]
    simp only [T3k3, sw_same, asCons_cons, asInt_int, asBool_bool, asNil_nil]
    rw [wp_ret]
    exact ⟨_, rfl, rfl⟩
  rw [if_pos (by rw [decide_eq_true (by omega)]), wp_join]
  refine wp_pair hI8 hrow h12 hlt hA hUa hNa (fun σ' => ?_) fun σ' S' R' hI' => ?_
  · simp only [T3k2, sw_same, asCons_cons, asBool_bool, asNil_nil]
    rw [wp_ret]
    simp only [T3k3, sw_re, sw_same, asCons_cons, asInt_int, asBool_bool, asNil_nil]
    rw [wp_ret]
    exact ⟨_, rfl, rfl⟩
  · simp only [T3k2, sw_nr, sw_same, asCons_cons, asBool_bool, asNil_nil]
    rw [wp_ret, e2']
    exact ⟨ts.length + 2 - (i + 2), by omega, i + 2, S', R', rfl, by omega, rfl, hI'⟩
end Go.Pg
