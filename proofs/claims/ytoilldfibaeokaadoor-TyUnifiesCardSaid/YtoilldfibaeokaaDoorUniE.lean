/- Layer 5: two that were made one stand for the same; what was one stays so. -/
import Derived.Test.YtoilldfibaeokaaDoorUniD
namespace Go.Pg
open Go.Proofs

theorem tlE_loop (s : ByteArray) : ∀ (d i : Nat) (r : List UInt8), s.size - i = d → ByteArray.toList.loop s i r = r.reverse ++ s.data.toList.drop i
  | 0, i, r, h => by
    unfold ByteArray.toList.loop
    rw [if_neg (by omega), List.drop_of_length_le (by have : s.data.toList.length = s.size := rfl
                                                      omega), List.append_nil]
  | d + 1, i, r, h => by
    have hl : i < s.data.toList.length := by
      have : s.data.toList.length = s.size := rfl
      omega
    unfold ByteArray.toList.loop
    rw [if_pos (by omega), tlE_loop s d (i + 1) _ (by omega), List.drop_eq_getElem_cons hl, List.reverse_cons, List.append_assoc]
    have e : s.get! i = s.data.toList[i] := by
      cases s with
      | mk a => simp only [ByteArray.get!]; rw [getElem!_pos a i (by simpa using hl)]; rfl
    rw [e]
    rfl
theorem tlE_data (s : ByteArray) : s.toList = s.data.toList := by
  unfold ByteArray.toList
  rw [tlE_loop s _ 0 [] rfl]
  rfl
theorem tlE_bs (l : List UInt8) : (bs l).toList = l := tlE_data _

abbrev ap (S : SubL) (t : AT) : Option (Tr TA) := appM CF S t
def Ext (S S' : SubL) : Prop := ∀ v x, lookS S v = some x → lookS S' v = some x
theorem Ext.refl (S : SubL) : Ext S S := fun _ _ h => h
theorem Ext.trans {S1 S2 S3 : SubL} (h : Ext S1 S2) (k : Ext S2 S3) : Ext S1 S3 := fun v x e => k v x (h v x e)
theorem Ext.set {S : SubL} {v : Int} {t : AT} (h : lookS S v = none) : Ext S (setS S v t) := fun w x e => by
  rw [look_set]
  by_cases hw : w = v
  · subst hw
    rw [h] at e
    cases e
  · rw [if_neg hw]
    exact e

section
variable {S S' : SubL}
theorem appL_mono {f g : AT → Option (Tr TA)} (h : ∀ a m, f a = some m → g a = some m) : ∀ {l : List AT} {r : List (Tr TA)}, appL f l = some r → appL g l = some r
  | [], _, e => e
  | a :: l, r, e => by
    unfold appL at e ⊢
    split at e
    · cases e
    · rename_i m hm
      split at e
      · cases e
      · rename_i q hq
        rw [h a m hm, appL_mono h hq]
        exact e
theorem app_mono : ∀ {k : Nat} {t : AT} {T : Tr TA}, appM k S t = some T → appM (k + 1) S t = some T
  | 0, _, _, h => by cases h
  | k + 1, t, T, h => by
    unfold appM at h ⊢
    split at h
    · cases h
    · rename_i x hx
      rw [head_mono hx]
      simp only
      split at h
      · cases h
      · rename_i q hq
        rw [appL_mono (fun a m h => app_mono h) hq]
        exact h
theorem head_ext (he : Ext S S') : ∀ (k : Nat) (t h : AT), headM k S t = some h → ∀ k' g, headM k' S' h = some g → headM (k + k') S' t = some g
  | 0, _, _, e, _, _, _ => by cases e
  | k + 1, t, h, e, k', g, hg => by
    unfold headM at e
    by_cases h7 : t.k = 7
    · rw [if_pos h7] at e
      cases hx : lookS S t.v with
      | none =>
        rw [hx] at e
        cases e
        exact head_le hg (by omega)
      | some x =>
        rw [hx] at e
        have := head_ext he k x h e k' g hg
        rw [show k + 1 + k' = (k + k') + 1 by omega]
        unfold headM
        rw [if_pos h7, he _ _ hx]
        exact this
    · rw [if_neg h7] at e
      cases e
      exact head_le hg (by omega)
theorem head_uniq {k k' : Nat} {t g h : AT} (h1 : headM k S t = some g) (h2 : headM k' S t = some h) : g = h := by
  have e1 := head_le h1 (Nat.le_max_left k k')
  have e2 := head_le h2 (Nat.le_max_right k k')
  rw [e1] at e2
  exact Option.some.inj e2
theorem head_self {h : AT} (hu : h.k = 7 → lookS S h.v = none) : headM 1 S h = some h := by
  unfold headM
  by_cases h7 : h.k = 7
  · rw [if_pos h7, hu h7]
  · rw [if_neg h7]
theorem ap_tot (hS : Inv S) {t : AT} (ht : Ok t) : ∃ T, ap S t = some T := by
  obtain ⟨m, hm⟩ := hS.asz ht
  exact app_of_asz _ _ _ hm
theorem ap_inv (hS : Inv S) {t : AT} (ht : Ok t) {T : Tr TA} (h : ap S t = some T) : ∃ (x : AT) (Ts : List (Tr TA)), headM 1002999 S t = some x ∧ Ok x ∧ (x.k = 7 → lookS S x.v = none) ∧ T = .mk x.a.1 Ts ∧ Ts.length = x.args.length ∧ ∀ i (h1 : i < x.args.length) (h2 : i < Ts.length), ap S x.args[i] = some Ts[i] := by
  have h : appM (1002999 + 1) S t = some T := h
  obtain ⟨x, q1, q2, q3⟩ := hS.head ht (k := 1002999) (by decide)
  unfold appM at h
  rw [q1] at h
  simp only at h
  split at h
  · cases h
  · rename_i Ts hTs
    cases h
    obtain ⟨g1, g2⟩ := appL_get hTs
    exact ⟨x, Ts, q1, q2, q3, rfl, g1, fun i h1 h2 => app_mono (g2 i h1 h2)⟩
/-- What it is, told by its head. -/
theorem ap_mk (hS : Inv S) {t x : AT} {k : Nat} (ht : Ok t) (hx : headM k S t = some x) (_hu : x.k = 7 → lookS S x.v = none) {Ts : List (Tr TA)} (hl : Ts.length = x.args.length) (ha : ∀ i (h1 : i < x.args.length) (h2 : i < Ts.length), ap S x.args[i] = some Ts[i]) : ap S t = some (.mk x.a.1 Ts) := by
  obtain ⟨T, hT⟩ := ap_tot hS ht
  obtain ⟨y, Us, q1, _, _, rfl, q4, q5⟩ := ap_inv hS ht hT
  have := head_uniq hx q1
  subst this
  rw [hT]
  congr 2
  refine List.ext_getElem (by omega) fun i h1 h2 => ?_
  have e1 := q5 i (by omega) h1
  have e2 := ha i (by omega) h2
  rw [e1] at e2
  exact Option.some.inj e2
theorem ap_heads (hS : Inv S) {t u x : AT} {k k' : Nat} (ht : Ok t) (hu : Ok u) (h1 : headM k S t = some x) (h2 : headM k' S u = some x) : ap S t = ap S u := by
  obtain ⟨T, hT⟩ := ap_tot hS ht
  obtain ⟨y, Us, q1, _, q3, rfl, q4, q5⟩ := ap_inv hS ht hT
  have := head_uniq h1 q1
  subst this
  rw [hT]
  exact (ap_mk hS hu h2 q3 q4 q5).symm

/-- What was one stays so. -/
theorem ap_ref (hS : Inv S) (hS' : Inv S') (he : Ext S S') : ∀ (n : Nat) (T : Tr TA), SizeOf.sizeOf T ≤ n → ∀ t u : AT, Ok t → Ok u → ap S t = some T → ap S u = some T → ap S' t = ap S' u := by
  intro n
  induction n with
  | zero => intro T h; cases T; simp at h
  | succ n ih =>
    intro T hT t u ht hu h1 h2
    obtain ⟨x, Ts, x1, x2, x3, x4, x5, x6⟩ := ap_inv hS ht h1
    obtain ⟨y, Us, y1, y2, y3, y4, y5, y6⟩ := ap_inv hS hu h2
    rw [x4] at y4
    injection y4 with e1 e2
    subst e2
    obtain ⟨x', g1, g2, g3⟩ := hS'.head x2 (k := 2001) (by decide)
    obtain ⟨y', f1, f2, f3⟩ := hS'.head y2 (k := 2001) (by decide)
    have ext := head_ext he _ _ _ x1 _ _ g1
    have eyt := head_ext he _ _ _ y1 _ _ f1
    have exx : ap S' t = ap S' x := ap_heads hS' ht x2 ext g1
    have eyy : ap S' u = ap S' y := ap_heads hS' hu y2 eyt f1
    rw [exx, eyy]
    have hkk : x.k = y.k := congrArg TA.kind e1
    have hvv : x.v = y.v := congrArg TA.var e1
    by_cases h7 : x.k = 7
    · have h7' : y.k = 7 := by omega
      have ax := x2.noArgs h7
      have ay := y2.noArgs h7'
      cases hl : lookS S' x.v with
      | none =>
        have r1 := ap_mk hS' x2 (head_self (fun _ => hl)) (fun _ => hl) (Ts := []) (by rw [ax]; rfl) (fun i h1 h2 => by simp at h2)
        have r2 := ap_mk hS' y2 (head_self (S := S') (h := y) (fun _ => by rw [← hvv]; exact hl)) (fun _ => by rw [← hvv]; exact hl) (Ts := []) (by rw [ay]; rfl) (fun i h1 h2 => by simp at h2)
        rw [r1, r2, e1]
      | some z =>
        have hz : Ok z := hS'.ok _ (lookS_mem hl)
        obtain ⟨z', w1, _, _⟩ := hS'.head hz (k := 2001) (by decide)
        have hb : ∀ q : AT, q.k = 7 → q.v = x.v → headM 2002 S' q = some z' := fun q hq hv => by
          rw [show (2002 : Nat) = 2001 + 1 from rfl]
          unfold headM
          rw [if_pos hq, hv, hl]
          exact w1
        exact ap_heads hS' x2 y2 (hb x h7 rfl) (hb y h7' hvv.symm)
    · have h7' : y.k ≠ 7 := by omega
      have hx1 : headM 1 S' x = some x := head_self fun h => absurd h h7
      have hy1 : headM 1 S' y = some y := head_self fun h => absurd h h7'
      obtain ⟨R, hR⟩ := ap_tot hS' x2
      obtain ⟨x'', Rs, p1, p2, p3, p4, p5, p6⟩ := ap_inv hS' x2 hR
      have := head_uniq hx1 p1
      subst this
      rw [hR, p4]
      refine (show ap S' y = some (.mk x.a.1 Rs) from ?_).symm
      rw [e1]
      refine ap_mk hS' y2 hy1 (fun h => absurd h h7') (by omega) fun i i1 i2 => ?_
      have i3 : i < x.args.length := by omega
      have i4 : i < Ts.length := by omega
      rw [← p6 i i3 i2]
      have hsz := List.sizeOf_lt_of_mem (List.getElem_mem i4)
      rw [x4] at hT
      simp only [Tr.mk.sizeOf_spec] at hT
      exact (ih Ts[i] (by omega) x.args[i] y.args[i] (x2.arg (List.getElem_mem i3)).1 (y2.arg (List.getElem_mem i1)).1 (x6 i i3 i4) (y6 i i1 i4)).symm
theorem ap_ref' (hS : Inv S) (hS' : Inv S') (he : Ext S S') {t u : AT} (ht : Ok t) (hu : Ok u) (h : ap S t = ap S u) : ap S' t = ap S' u := by
  obtain ⟨T, hT⟩ := ap_tot hS ht
  exact ap_ref hS hS' he _ T (Nat.le_refl _) t u ht hu hT (by rw [← h]; exact hT)

theorem Ok.name7 {t : AT} (h : Ok t) (h4 : t.k ≠ 4) : t.nm.data.toList = [] := by
  have h1 := h.al
  rw [aloneM_eq] at h1
  simp only [Bool.and_eq_true, decide_eq_true_eq, beq_iff_eq] at h1
  have hnm := h1.1.1.2
  rw [show (t.k == 4) = false by simpa using h4, tlE_data, tlE_bs] at hnm
  simpa using hnm
theorem Ok.v0 {t : AT} (h : Ok t) (h7 : t.k ≠ 7) : t.v = 0 := by
  have h1 := h.al
  rw [aloneM_eq] at h1
  simp only [Bool.and_eq_true, Bool.not_eq_true'] at h1
  have hv := h1.1.2.2
  rw [show (t.k != 7) = true by simpa using h7, Bool.and_true] at hv
  simpa using hv
theorem ta_ext {a b : TA} (h1 : a.kind = b.kind) (h2 : a.name.data.toList = b.name.data.toList) (h3 : a.var = b.var) : a = b := by
  obtain ⟨k, ⟨n⟩, v⟩ := a
  obtain ⟨k', ⟨n'⟩, v'⟩ := b
  simp only at h1 h2 h3
  have : n = n' := Array.ext' h2
  rw [h1, this, h3]
theorem Ok.ta7 {t u : AT} (ht : Ok t) (hu : Ok u) (h7 : t.k = 7) (h7' : u.k = 7) (hv : t.v = u.v) : t.a.1 = u.a.1 :=
  ta_ext (by rw [show t.a.1.kind = 7 from h7, show u.a.1.kind = 7 from h7']) (by rw [show t.a.1.name.data.toList = [] from ht.name7 (by omega), show u.a.1.name.data.toList = [] from hu.name7 (by omega)]) hv
/-- A variable that is bound, and what it is bound to. -/
theorem ap_bound (hS' : Inv S') {x z : AT} (hx : Ok x) (h7 : x.k = 7) (hl : lookS S' x.v = some z) : ap S' x = ap S' z := by
  have hz : Ok z := hS'.ok _ (lookS_mem hl)
  obtain ⟨z', w1, _, _⟩ := hS'.head hz (k := 2001) (by decide)
  refine ap_heads hS' hx hz (k := 2002) ?_ w1
  rw [show (2002 : Nat) = 2001 + 1 from rfl]
  unfold headM
  rw [if_pos h7, hl]
  exact w1
theorem ap_unbound (hS' : Inv S') {x : AT} (hx : Ok x) (h7 : x.k = 7) (hl : lookS S' x.v = none) : ap S' x = some (.mk x.a.1 []) :=
  ap_mk hS' hx (head_self fun _ => hl) (fun _ => hl) (by rw [hx.noArgs h7]; rfl) fun i h1 h2 => by simp at h2

theorem pairs_succ {k : Nat} (f : ∀ S x y e S', Inv S → Ok x → Ok y → oneM k S x y = some (e, S') → Inv S' ∧ Ext S S' ∧ (e = 0 → ap S' x = ap S' y)) :
    ∀ (l m : List AT) (S : SubL) (e : Int) (S' : SubL), Inv S → (∀ a ∈ l, Ok a) → (∀ b ∈ m, Ok b) → l.length = m.length → pairsM (oneM k) S l m = some (e, S') → Inv S' ∧ Ext S S' ∧ (e = 0 → ∀ i (h1 : i < l.length) (h2 : i < m.length), ap S' l[i] = ap S' m[i])
  | [], m, S, e, S', hS, _, _, _, h => by
    unfold pairsM at h
    cases h
    exact ⟨hS, Ext.refl _, fun _ i h1 => by simp at h1⟩
  | a :: l, [], _, _, _, _, _, _, h, _ => by simp at h
  | a :: l, b :: m, S, e, S', hS, hl, hm, hlen, h => by
    unfold pairsM at h
    split at h
    · cases h
    · rename_i e1 S1 h1
      obtain ⟨q1, q2, q3⟩ := f S a b e1 S1 hS (hl a (by simp)) (hm b (by simp)) h1
      by_cases he : e1 = 0
      · rw [if_pos he] at h
        obtain ⟨r1, r2, r3⟩ := pairs_succ f l m S1 e S' q1 (fun x hx => hl x (by simp [hx])) (fun x hx => hm x (by simp [hx])) (by simpa using hlen) h
        refine ⟨r1, q2.trans r2, fun e0 i i1 i2 => ?_⟩
        cases i with
        | zero => exact ap_ref' q1 r1 r2 (hl a (by simp)) (hm b (by simp)) (q3 he)
        | succ i => exact r3 e0 i (by simpa using i1) (by simpa using i2)
      · rw [if_neg he] at h
        cases h
        exact ⟨q1, q2, fun e0 => absurd e0 he⟩
theorem not_reach_var {S : SubL} {a b : Int} (hab : a ≠ b) (hb : lookS S b = none) : ¬ Reach S (varT b) a := fun r => by
  have hoc : ∀ w, occM w (varT b) → w = b := fun w hw => by
    unfold varT at hw
    rw [occM] at hw
    rcases hw with ⟨_, h⟩ | h
    · exact h.symm
    · exact absurd h occL_nil
  cases r with
  | here h => exact hab (hoc _ h)
  | step h hz _ =>
    rw [hoc _ h, hb] at hz
    cases hz
theorem bind_succ {S S' : SubL} (hS : Inv S) {k : Nat} {X Y : AT} {e : Int} (hX : Ok X) (hY : Ok Y) (h7 : X.k = 7) (hu : lookS S X.v = none) (h : bindM k S X.v Y = some (e, S')) : Inv S' ∧ Ext S S' ∧ (e = 0 → ap S' X = ap S' Y) := by
  unfold bindM at h
  split at h
  · cases h
  · cases h
    exact ⟨hS, Ext.refl _, fun h => by cases h⟩
  · rename_i sn hw
    cases h
    obtain ⟨q1, _⟩ := hS.bind hu hX.var hY (not_reach hS.ok hY hw)
    exact ⟨q1, Ext.set hu, fun _ => ap_bound q1 hX h7 (by rw [look_set, if_pos rfl])⟩
theorem one_succ : ∀ (k : Nat) (S : SubL) (x y : AT) (e : Int) (S' : SubL), Inv S → Ok x → Ok y → oneM k S x y = some (e, S') → Inv S' ∧ Ext S S' ∧ (e = 0 → ap S' x = ap S' y)
  | 0, _, _, _, _, _, _, _, _, h => by cases h
  | k + 1, S, x, y, e, S', hS, hx, hy, h => by
    unfold oneM at h
    split at h
    · cases h
    · cases h
      exact ⟨hS, Ext.refl _, fun h => by cases h⟩
    split at h
    · cases h
    · cases h
      exact ⟨hS, Ext.refl _, fun h => by cases h⟩
    split at h
    case h_2 => cases h
    rename_i X Y hX hY
    obtain ⟨X', hX', hXo, hXu⟩ := hS.head hx (k := 2001) (by decide)
    have := head_uniq hX hX'
    subst this
    obtain ⟨Y', hY', hYo, hYu⟩ := hS.head hy (k := 2001) (by decide)
    have := head_uniq hY hY'
    subst this
    suffices hs : Inv S' ∧ Ext S S' ∧ (e = 0 → ap S' X = ap S' Y) by
      obtain ⟨s1, s2, s3⟩ := hs
      refine ⟨s1, s2, fun e0 => ?_⟩
      obtain ⟨x', g1, _, _⟩ := s1.head hXo (k := 2001) (by decide)
      obtain ⟨y', f1, _, _⟩ := s1.head hYo (k := 2001) (by decide)
      rw [ap_heads s1 hx hXo (head_ext s2 _ _ _ hX _ _ g1) g1, ap_heads s1 hy hYo (head_ext s2 _ _ _ hY _ _ f1) f1]
      exact s3 e0
    by_cases hx7 : X.k = 7
    · rw [if_pos hx7] at h
      by_cases hy7 : Y.k = 7
      · rw [if_pos hy7] at h
        by_cases hv : X.v = Y.v
        · rw [if_pos hv] at h
          cases h
          refine ⟨hS, Ext.refl _, fun _ => ?_⟩
          rw [ap_unbound hS hXo hx7 (hXu hx7), ap_unbound hS hYo hy7 (hYu hy7), hXo.ta7 hYo hx7 hy7 hv]
        · rw [if_neg hv] at h
          have ux := hXu hx7
          have uy := hYu hy7
          have hmax : maxV X.v Y.v = X.v ∧ minV X.v Y.v = Y.v ∨ maxV X.v Y.v = Y.v ∧ minV X.v Y.v = X.v := by
            rw [maxV_eq, minV_eq]
            omega
          rcases hmax with ⟨e1, e2⟩ | ⟨e1, e2⟩
          · rw [e1, e2] at h
            cases h
            obtain ⟨q1, _⟩ := hS.bind ux hXo.var (Ok.varT hYo.var) (not_reach_var hv uy)
            refine ⟨q1, Ext.set ux, fun _ => ?_⟩
            have uy' : lookS (setS S X.v (varT Y.v)) Y.v = none := by rw [look_set, if_neg (fun e => hv e.symm)]; exact uy
            rw [ap_bound q1 hXo hx7 (by rw [look_set, if_pos rfl]), ap_unbound q1 (Ok.varT hYo.var) rfl uy', ap_unbound q1 hYo hy7 uy', (Ok.varT hYo.var).ta7 hYo rfl hy7 rfl]
          · rw [e1, e2] at h
            cases h
            obtain ⟨q1, _⟩ := hS.bind uy hYo.var (Ok.varT hXo.var) (not_reach_var (fun e => hv e.symm) ux)
            refine ⟨q1, Ext.set uy, fun _ => ?_⟩
            have ux' : lookS (setS S Y.v (varT X.v)) X.v = none := by rw [look_set, if_neg hv]; exact ux
            rw [ap_bound q1 hYo hy7 (by rw [look_set, if_pos rfl]), ap_unbound q1 (Ok.varT hXo.var) rfl ux', ap_unbound q1 hXo hx7 ux', (Ok.varT hXo.var).ta7 hXo rfl hx7 rfl]
      · rw [if_neg hy7] at h
        exact bind_succ hS hXo hYo hx7 (hXu hx7) h
    rw [if_neg hx7] at h
    by_cases hy7 : Y.k = 7
    · rw [if_pos hy7] at h
      obtain ⟨q1, q2, q3⟩ := bind_succ hS hYo hXo hy7 (hYu hy7) h
      exact ⟨q1, q2, fun e0 => (q3 e0).symm⟩
    rw [if_neg hy7] at h
    by_cases hkk : X.k = Y.k
    case neg =>
      rw [if_neg hkk] at h
      cases h
      exact ⟨hS, Ext.refl _, fun h => by cases h⟩
    rw [if_pos hkk] at h
    by_cases hnn : X.nm.toList = Y.nm.toList
    case neg =>
      rw [if_neg hnn] at h
      cases h
      exact ⟨hS, Ext.refl _, fun h => by cases h⟩
    rw [if_pos hnn] at h
    have hlen : X.args.length = Y.args.length := by
      have h1 := hXo.len
      have h2 := hYo.len
      rw [hkk] at h1
      omega
    obtain ⟨q1, q2, q3⟩ := pairs_succ (fun S x y e S' a b c d => one_succ k S x y e S' a b c d) X.args Y.args S e S' hS (fun a ha => (hXo.arg ha).1) (fun a ha => (hYo.arg ha).1) hlen h
    refine ⟨q1, q2, fun e0 => ?_⟩
    have hta : X.a.1 = Y.a.1 := ta_ext hkk (by
      have := hnn
      rw [tlE_data, tlE_data] at this
      exact this) (by
      have h1 := hXo.v0 hx7
      have h2 := hYo.v0 hy7
      exact h1.trans h2.symm)
    have hX1 : headM 1 S' X = some X := head_self fun h => absurd h hx7
    have hY1 : headM 1 S' Y = some Y := head_self fun h => absurd h hy7
    obtain ⟨R, hR⟩ := ap_tot q1 hXo
    obtain ⟨X', Rs, p1, p2, p3, p4, p5, p6⟩ := ap_inv q1 hXo hR
    have := head_uniq hX1 p1
    subst this
    rw [hR, p4]
    refine (show ap S' Y = some (.mk X.a.1 Rs) from ?_).symm
    rw [hta]
    refine ap_mk q1 hYo hY1 (fun h => absurd h hy7) (by omega) fun i i1 i2 => ?_
    rw [← q3 e0 i (by omega) i1]
    exact p6 i (by omega) i2

/-- Applied twice. -/
theorem ap_idem (hS : Inv S) : ∀ (n : Nat) (T : Tr TA), SizeOf.sizeOf T ≤ n → ∀ t u : AT, Ok t → Ok u → ap S t = some T → strip u = T → ap S u = some T := by
  intro n
  induction n with
  | zero => intro T h; cases T; simp at h
  | succ n ih =>
    intro T hT t u ht hu h1 hs
    obtain ⟨x, Ts, x1, x2, x3, x4, x5, x6⟩ := ap_inv hS ht h1
    obtain ⟨d, l⟩ := u
    rw [x4, strip, stripL_map] at hs
    injection hs with e1 e2
    have hux : AT.k (.mk d l) = 7 → lookS S (AT.v (.mk d l)) = none := fun h => by
      have h7 : x.k = 7 := by
        show x.a.1.kind = 7
        rw [← e1]
        exact h
      have := x3 h7
      have hv : AT.v (.mk d l) = x.v := by
        show d.1.var = x.a.1.var
        rw [e1]
      rw [hv]
      exact this
    rw [x4, ← e1]
    refine ap_mk hS hu (head_self hux) hux (by rw [← e2]; simp [Tr.args]) fun i i1 i2 => ?_
    have i1' : i < l.length := i1
    have hTi : Ts[i] = strip l[i] := by
      simp only [← e2, List.getElem_map]
    have hsz := List.sizeOf_lt_of_mem (List.getElem_mem i2)
    rw [x4] at hT
    simp only [Tr.mk.sizeOf_spec] at hT
    exact ih Ts[i] (by omega) x.args[i] l[i] (x2.arg (List.getElem_mem (by omega))).1 (hu.arg (t := .mk d l) (List.getElem_mem i1')).1 (x6 i (by omega) i2) hTi.symm
end
mutual
theorem same_self : ∀ t : AT, sameM t t = true
  | .mk d l => by
    rw [sameM, headEq]
    have := same_selfL l
    simp only [Tr.a, Tr.args, beq_self_eq_true, Bool.and_self, Bool.true_and]
    exact this
theorem same_selfL : ∀ l : List AT, sameL l l = true
  | [] => by rw [sameL]
  | a :: l => by rw [sameL, same_self a, same_selfL l]; rfl
end
theorem same_strip {t u : AT} (h : strip t = strip u) : sameM t u = true := by
  rw [sameM_strip t u u u h rfl]
  exact same_self u
/-- What was refused changed nothing; what was made one stands for the same. -/
theorem unify_fail {S : SubL} {x y : AT} (hS : Inv S) (h : (unifyM S x y).1 ≠ 0) : (unifyM S x y).2 = S := by
  unfold unifyM at h ⊢
  cases hg : (goodM x && goodM y) with
  | false => rfl
  | true =>
    rw [hg] at h
    simp only [cond_true] at h ⊢
    rw [Bool.and_eq_true] at hg
    obtain ⟨e, S', h1, h2, _⟩ := one_uf hS (ok_good hg.1) (ok_good hg.2)
    rw [h1] at h ⊢
    simp only at h ⊢
    by_cases he : e = 0
    · subst he
      simp only [decide_true, cond_true] at h ⊢
      obtain ⟨w, hw⟩ := allSmall_uf h2
      rw [hw] at h ⊢
      cases w with
      | true => exact absurd rfl h
      | false => rfl
    · rw [decide_eq_false he]
      rfl
end Go.Pg
