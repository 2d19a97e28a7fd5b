/- Spots of one's own: one is set. -/
import Derived.Test.YtbbkgibopicaeaaRootClone
import Derived.Test.YtbbkgibopicaeaaOwn3
namespace Go.Proofs.Ytbbkgibopicaeaa
set_option linter.unusedVariables false
set_option linter.unusedSimpArgs false
open Go.RowKit

theorem flat_set3 (a b c : Value) : ∀ (css : List (List Value)) (i : Nat), (∀ cs ∈ css, cs.length = 3) → i < css.length → (css.set i [a, b, c]).flatten = ((css.flatten.set (i * 3) a).set (i * 3 + 1) b).set (i * 3 + 2) c
  | [], i, _, h => by simp at h
  | cs :: css, 0, h, _ => by
    have h3 := h cs (by simp)
    match cs, h3 with
    | [x, y, z], _ => rfl
  | cs :: css, i + 1, h, hi => by
    have h3 := h cs (by simp)
    have ih := flat_set3 a b c css i (fun d hd => h d (by simp [hd])) (by simpa using hi)
    match cs, h3 with
    | [x, y, z], _ =>
      rw [show (([x, y, z] :: css).set (i + 1) [a, b, c]) = [x, y, z] :: css.set i [a, b, c] from rfl, List.flatten_cons, ih, List.flatten_cons]
      rw [show (i + 1) * 3 + 2 = i * 3 + 2 + 1 + 1 + 1 by omega, show (i + 1) * 3 + 1 = i * 3 + 1 + 1 + 1 + 1 by omega, show (i + 1) * 3 = i * 3 + 1 + 1 + 1 by omega]
      rfl

theorem own_open {α : Type} {E : En α} {e : TypeId} {w : World} {base g n c : Nat} {l : List α} (h : Own E e w base (.slice (some ⟨g, 0, none⟩) n c) l) :
    ∃ (css : List (List Value)) (cur : Array Value), css.length = l.length ∧ (∀ (j : Nat) x cs, l[j]? = some x → css[j]? = some cs → E.ok w base x cs) ∧ base ≤ g ∧ Box w g cur e ∧ n = l.length ∧ n ≤ c ∧ c ≤ maxLen ∧ cur.size = c * E.k ∧ cur.toList.take (n * E.k) = css.flatten ∧ css.flatten.length = n * E.k := by
  have hn : n = l.length := by
    obtain ⟨_, _, e1, _, _⟩ := h.shape
    injection e1
  obtain ⟨css, h1, h2, h3, h4⟩ := h
  rcases h4 with ⟨h4, _⟩ | ⟨g', cap, cur, e1, q1, q2, q3, q4, q5, q6⟩
  · cases h4
  · cases e1
    exact ⟨css, cur, h1, h2, q1, q2, rfl, q3, q4, q5, q6, h3⟩

theorem own_close {α : Type} {E : En α} {e : TypeId} {w : World} {base g c : Nat} {l : List α} {css : List (List Value)} {cur : Array Value} (h1 : css.length = l.length) (h2 : ∀ (j : Nat) x cs, l[j]? = some x → css[j]? = some cs → E.ok w base x cs) (hb : base ≤ g) (hx : Box w g cur e)
    (hc : l.length ≤ c) (hm : c ≤ maxLen) (hs : cur.size = c * E.k) (ht : cur.toList.take (l.length * E.k) = css.flatten) : Own E e w base (.slice (some ⟨g, 0, none⟩) l.length c) l := by
  have hall := ok_of_all h1 h2
  exact ⟨css, h1, h2, by rw [flat_len css (fun cs hcs => (hall cs hcs).1), h1], .inr ⟨g, c, cur, rfl, hb, hx, hc, hm, hs, ht⟩⟩

theorem own_spot_set {e : TypeId} {w : World} {base g n c i : Nat} {l : List Spot} {x : Spot} {a b u : Value} (h : Own spotE e w base (.slice (some ⟨g, 0, none⟩) n c) l) (hi : i < l.length) (hx : spotE.ok w base x [a, b, u]) :
    Own spotE e (((w.setCell ⟨g, i * 3, none⟩ a).setCell ⟨g, i * 3 + 1, none⟩ b).setCell ⟨g, i * 3 + 2, none⟩ u) base (.slice (some ⟨g, 0, none⟩) n c) (l.set i x) := by
  obtain ⟨css, cur, h1, h2, h3, h4, h5, h6, h7, h8, h9, h10⟩ := own_open h
  have hall := ok_of_all h1 h2
  have hbel : Below base w (((w.setCell ⟨g, i * 3, none⟩ a).setCell ⟨g, i * 3 + 1, none⟩ b).setCell ⟨g, i * 3 + 2, none⟩ u) := (((Below.refl _ _).setCell h3 _).setCell h3 _).setCell h3 _
  have hl : (l.set i x).length = n := by rw [List.length_set, h5]
  have key : Own spotE e (((w.setCell ⟨g, i * 3, none⟩ a).setCell ⟨g, i * 3 + 1, none⟩ b).setCell ⟨g, i * 3 + 2, none⟩ u) base (.slice (some ⟨g, 0, none⟩) (l.set i x).length c) (l.set i x) := by
    refine own_close (css := css.set i [a, b, u]) (by simp [h1]) (fun j y cs hy hc => ?_) h3 (((h4.set (i * 3) a).set (i * 3 + 1) b).set (i * 3 + 2) u) (by rw [hl]; exact h6) h7 (by simpa using h8) ?_
    · by_cases hj : i = j
      · subst hj
        rw [List.getElem?_set_self hi] at hy
        rw [List.getElem?_set_self (by omega)] at hc
        cases hy
        cases hc
        exact spotE.keep hx hbel (Nat.le_refl _)
      · rw [List.getElem?_set_ne hj] at hy hc
        exact spotE.keep (h2 j y cs hy hc) hbel (Nat.le_refl _)
    · rw [hl, flat_set3 a b u css i (fun cs hcs => (hall cs hcs).1) (by omega), ← h9]
      simp only [Array.toList_setIfInBounds, List.take_set]
  rw [hl] at key
  exact key
end Go.Proofs.Ytbbkgibopicaeaa
