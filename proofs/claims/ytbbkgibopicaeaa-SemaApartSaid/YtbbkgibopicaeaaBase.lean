/- Rows of elements in memory: how a slice value tells a list; what stays when memory only grows. No program here. -/
import Derived.WalkKit
import Derived.KernelRfl
import Derived.BigQuiet
import Derived.Deep.QuietTactic
import Derived.Deep.LoopGhost
namespace Go.Proofs.Ytbbkgibopicaeaa
set_option linter.unusedVariables false
set_option linter.unusedSimpArgs false
open Go.RowKit

theorem hid {p : Prop} (h : p) : Hid p := h

/-- How an element lies in memory: k cells, and what they hold. -/
structure En (α : Type) where
  k : Nat
  ok : World → Nat → α → List Value → Prop
  len : ∀ {w B x cs}, ok w B x cs → cs.length = k
  one : ∀ {w B x cs}, ok w B x cs → ∀ u ∈ cs, u.oneCell' = true
  keep : ∀ {w w' B B' x cs}, ok w B x cs → Below B w w' → B ≤ B' → ok w' B' x cs

/-- The slice value v tells the list l; all of it lies below block B. -/
def Row {α : Type} (E : En α) (w : World) (B : Nat) (v : Value) (l : List α) : Prop :=
  ∃ A c, v = .slice A l.length c ∧ l.length ≤ c ∧ c ≤ maxLen ∧ (A = none → c = 0) ∧
    ∀ (i : Nat) x, l[i]? = some x → ∃ b o cs, A = some ⟨b, o, none⟩ ∧ b < B ∧ E.ok w B x cs ∧ ∀ j u, cs[j]? = some u → w.cell? ⟨b, o + i * E.k + j, none⟩ = some u

theorem Row.keep {α : Type} {E : En α} {w w' : World} {B B' : Nat} {v : Value} {l : List α} (h : Row E w B v l) (hb : Below B w w') (hB : B ≤ B') : Row E w' B' v l := by
  obtain ⟨A, c, h1, h2, h3, h4, h5⟩ := h
  refine ⟨A, c, h1, h2, h3, h4, fun i x hx => ?_⟩
  obtain ⟨b, o, cs, g1, g2, g3, g4⟩ := h5 i x hx
  exact ⟨b, o, cs, g1, by omega, E.keep g3 hb hB, fun j u hu => (hb.cell (p := ⟨b, _, none⟩) g2).trans (g4 j u hu)⟩

theorem Row.nil {α : Type} (E : En α) (w : World) (B : Nat) : Row E w B (.slice none 0 0) [] :=
  ⟨none, 0, rfl, Nat.le_refl _, Nat.zero_le _, fun _ => rfl, fun i x h => by simp at h⟩

theorem Row.below {α : Type} {E : En α} {w w' : World} {B : Nat} {v : Value} {l : List α} (h : Row E w B v l) (hb : Below B w w') : Row E w' B v l := h.keep hb (Nat.le_refl _)

/-- Whole numbers. -/
def intE : En Int where
  k := 1
  ok _ _ x cs := cs = [.int .i64 x]
  len h := by subst h; rfl
  one h := by subst h; simp [Value.oneCell']
  keep h _ _ := h

/-- Rows of rows. -/
def rowE {α : Type} (E : En α) : En (List α) where
  k := 1
  ok w B x cs := ∃ v, cs = [v] ∧ Row E w B v x
  len h := by obtain ⟨v, rfl, _⟩ := h; rfl
  one h := by obtain ⟨v, rfl, A, c, rfl, _⟩ := h; simp [Value.oneCell']
  keep h hb hB := by obtain ⟨v, rfl, hr⟩ := h; exact ⟨v, rfl, hr.keep hb hB⟩

/-- What an element at a place lies at. -/
theorem Row.at {α : Type} {E : En α} {w : World} {B n c : Nat} {A : Option Addr} {l : List α} (h : Row E w B (.slice A n c) l) (i : Nat) (x : α) (hx : l[i]? = some x) :
    ∃ b o cs, A = some ⟨b, o, none⟩ ∧ b < B ∧ E.ok w B x cs ∧ ∀ j u, cs[j]? = some u → w.cell? ⟨b, o + i * E.k + j, none⟩ = some u := by
  obtain ⟨A', c', h1, h2, h3, h4, h5⟩ := h
  injection h1 with e1 e2 e3
  subst e1
  exact h5 i x hx

theorem Row.int {w : World} {B n c : Nat} {A : Option Addr} {l : List Int} (h : Row intE w B (.slice A n c) l) (i : Nat) (hi : i < l.length) :
    ∃ b o, A = some ⟨b, o, none⟩ ∧ b < B ∧ w.cell? ⟨b, o + i, none⟩ = some (.int .i64 l[i]) := by
  obtain ⟨b, o, cs, e, hb, rfl, hc⟩ := h.at i l[i] (by simp [hi])
  exact ⟨b, o, e, hb, by simpa [intE] using hc 0 _ rfl⟩

theorem Row.len_eq {α : Type} {E : En α} {w : World} {B n c : Nat} {A : Option Addr} {l : List α} (h : Row E w B (.slice A n c) l) : n = l.length ∧ n ≤ c ∧ c ≤ maxLen ∧ (A = none → c = 0) := by
  obtain ⟨A', c', h1, h2, h3, h4, _⟩ := h
  injection h1 with e1 e2 e3
  subst e1 e2 e3
  exact ⟨rfl, h2, h3, h4⟩

theorem Row.open {α : Type} {E : En α} {w : World} {B : Nat} {v : Value} {l : List α} (h : Row E w B v l) :
    ∃ A c, v = .slice A l.length c ∧ l.length ≤ c ∧ c ≤ maxLen := by
  obtain ⟨A, c, h1, h2, h3, _⟩ := h
  exact ⟨A, c, h1, h2, h3⟩

theorem bcell {W w1 : World} {B : Nat} (hb : Below B W w1) : (∀ b o, b < B → w1.cell? ⟨b, o, none⟩ = W.cell? ⟨b, o, none⟩) ∧ (∀ b o, b < B → w1.frozen? ⟨b, o, none⟩ = W.frozen? ⟨b, o, none⟩) :=
  ⟨fun b o h => hb.cell (p := ⟨b, o, none⟩) h, fun b o h => hb.frozen (p := ⟨b, o, none⟩) h⟩

theorem ret_int {k : IntKind} {a b : Int} (h : a = b) : Ending.returned (.int k a) = .returned (.int k b) := by rw [h]
theorem ret_bool {a b : Bool} (h : a = b) : Ending.returned (.bool a) = .returned (.bool b) := by rw [h]

end Go.Proofs.Ytbbkgibopicaeaa
