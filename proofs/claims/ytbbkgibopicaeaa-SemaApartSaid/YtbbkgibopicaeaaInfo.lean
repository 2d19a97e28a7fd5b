/- What the program's table says of the types of elements. -/
import Derived.Test.YtbbkgibopicaeaaProg
import Derived.Test.YtbbkgibopicaeaaOwn
import Derived.Test.YtbbkgibopicaeaaSpec
namespace Go.Proofs.Ytbbkgibopicaeaa
set_option linter.unusedVariables false
set_option linter.unusedSimpArgs false
open Go.RowKit
theorem info_int : (Try.prog.info? 3).map (fun i => (i.zero, i.size, i.bytes)) = some (some (.int .i64 0), 1, 8) := by kernel_rfl

/-- A call that hands back a row. -/
def RowPost {α : Type} (E : En α) (l : List α) (w : World) (e : Ending) (w' : World) : Prop := ∃ v, e = .returned v ∧ Row E w' w'.heap.size v l ∧ Below w.heap.size w w'

/-- A call that hands back a row and an error. -/
def RowErrPost {α : Type} (E : En α) (l : List α) (n : Int) (w : World) (e : Ending) (w' : World) : Prop := ∃ v, e = .returned (.tuple #[v, .int .i64 n]) ∧ Row E w' w'.heap.size v l ∧ Below w.heap.size w w'

theorem errNil {α : Type} {E : En α} {l : List α} {n k : Int} {w w' : World} (hl : l = []) (hn : n = k) (hb : Below w.heap.size w w') : RowErrPost E l n w (.returned (.tuple #[.slice none 0 0, .int .i64 k])) w' := by
  subst hl hn
  exact ⟨_, rfl, Row.nil _ _ _, hb⟩

/-- '[][]T{a, b}'. -/
theorem row_two {α : Type} {E : En α} {w : World} {v1 v2 : Value} {l1 l2 : List α} (t : TypeId) (b : Nat) (hb : b = w.heap.size) (h1 : Row E w w.heap.size v1 l1) (h2 : Row E w w.heap.size v2 l2) :
    Row (rowE E) (w.alloc (.cells #[v1, v2] t)) (w.alloc (.cells #[v1, v2] t)).heap.size (.slice (some ⟨b, 0, none⟩) 2 2) [l1, l2] := by
  subst hb
  have hbel : Below w.heap.size w (w.alloc (.cells #[v1, v2] t)) := (Below.refl _ _).alloc (Nat.le_refl _) _
  refine ⟨some ⟨w.heap.size, 0, none⟩, 2, rfl, Nat.le_refl _, by unfold maxLen; omega, (fun h => by cases h), fun i x hx => ?_⟩
  match i, hx with
  | 0, hx =>
    simp at hx; subst hx
    refine ⟨_, _, [v1], rfl, by simp, ⟨v1, rfl, h1.keep hbel (by simp)⟩, fun j u hu => ?_⟩
    match j, hu with
    | 0, hu => simp at hu; subst hu; simp [rowE]
  | 1, hx =>
    simp at hx; subst hx
    refine ⟨_, _, [v2], rfl, by simp, ⟨v2, rfl, h2.keep hbel (by simp)⟩, fun j u hu => ?_⟩
    match j, hu with
    | 0, hu => simp at hu; subst hu; simp [rowE]

/-- '[]int{x}'. -/
theorem row_one (w : World) (x : Int) (t : TypeId) (b : Nat) (hb : b = w.heap.size) : Row intE (w.alloc (.cells #[.int .i64 x] t)) (w.alloc (.cells #[.int .i64 x] t)).heap.size (.slice (some ⟨b, 0, none⟩) 1 1) [x] := by
  subst hb
  refine ⟨some ⟨w.heap.size, 0, none⟩, 1, rfl, Nat.le_refl _, by unfold maxLen; omega, (fun h => by cases h), fun i y hx => ?_⟩
  match i, hx with
  | 0, hx =>
    simp at hx; subst hx
    refine ⟨_, _, [.int .i64 x], rfl, by simp, rfl, fun j u hu => ?_⟩
    match j, hu with
    | 0, hu => simp at hu; subst hu; simp [intE]
end Go.Proofs.Ytbbkgibopicaeaa
