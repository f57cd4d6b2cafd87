/- Layer 5: what one binds is what it was given, and variables. -/
import Derived.Test.YtoilldfibaeokaaDoorUniG
namespace Go.Pg
section
variable {P : AT → Prop}
theorem headM_pres : ∀ {k : Nat} {S : SubL} {t h : AT}, (∀ p ∈ S, P p.2) → P t → headM k S t = some h → P h
  | 0, _, _, _, _, _, h => by cases h
  | k + 1, S, t, h, hS, ht, e => by
    unfold headM at e
    split at e
    · split at e
      · cases e
        exact ht
      · rename_i x hx
        exact headM_pres hS (hS _ (lookS_mem hx)) e
    · cases e
      exact ht
theorem bindM_pres {k : Nat} {S : SubL} {v : Int} {t : AT} {e : Int} {S' : SubL} (hS : ∀ p ∈ S, P p.2) (ht : P t) (h : bindM k S v t = some (e, S')) : ∀ p ∈ S', P p.2 := by
  unfold bindM at h
  split at h
  · cases h
  · cases h
    exact hS
  · cases h
    exact fun p hp => (setS_mem hp).elim (fun e => by subst e; exact ht) (hS p)
theorem pairsM_pres {f : SubL → AT → AT → Option (Int × SubL)} (hf : ∀ S x y e S', (∀ p ∈ S, P p.2) → P x → P y → f S x y = some (e, S') → ∀ p ∈ S', P p.2) :
    ∀ (l m : List AT) (S : SubL) (e : Int) (S' : SubL), (∀ p ∈ S, P p.2) → (∀ u ∈ l, P u) → (∀ u ∈ m, P u) → pairsM f S l m = some (e, S') → ∀ p ∈ S', P p.2
  | [], m, S, e, S', hS, _, _, h => by
    unfold pairsM at h
    cases h
    exact hS
  | _ :: _, [], S, e, S', hS, _, _, h => by
    unfold pairsM at h
    cases h
  | a :: l, b :: m, S, e, S', hS, hl, hm, h => by
    unfold pairsM at h
    split at h
    · cases h
    · rename_i e1 S1 h1
      have k1 := hf S a b e1 S1 hS (hl a (by simp)) (hm b (by simp)) h1
      split at h
      · exact pairsM_pres hf l m S1 e S' k1 (fun u hu => hl u (by simp [hu])) (fun u hu => hm u (by simp [hu])) h
      · cases h
        exact k1
theorem oneM_pres (hP : ∀ t, P t → ∀ u ∈ t.args, P u) (hv : ∀ n, P (varT n)) : ∀ (k : Nat) (S : SubL) (x y : AT) (e : Int) (S' : SubL), (∀ p ∈ S, P p.2) → P x → P y → oneM k S x y = some (e, S') → ∀ p ∈ S', P p.2
  | 0, _, _, _, _, _, _, _, _, h => by cases h
  | k + 1, S, x, y, e, S', hS, hx, hy, h => by
    unfold oneM at h
    split at h
    · cases h
    · cases h
      exact hS
    · split at h
      · cases h
      · cases h
        exact hS
      · split at h
        · rename_i X Y hX hY
          have hX := headM_pres hS hx hX
          have hY := headM_pres hS hy hY
          split at h
          · split at h
            · split at h
              · cases h
                exact hS
              · cases h
                exact fun p hp => (setS_mem hp).elim (fun e => by subst e; exact hv _) (hS p)
            · exact bindM_pres hS hY h
          · split at h
            · exact bindM_pres hS hX h
            · split at h
              · split at h
                · exact pairsM_pres (fun S x y e S' a b c d => oneM_pres hP hv k S x y e S' a b c d) _ _ S e S' hS (hP X hX) (hP Y hY) h
                · cases h
                  exact hS
              · cases h
                exact hS
        · cases h
end
end Go.Pg
