/- What reads as data is a row in memory: arguments are opened. -/
import Derived.Test.YtbbkgibopicaeaaR09
import Derived.Deep.Slices
import Derived.ChangeArms
import Derived.ChangeSame
import Derived.ChangeOld
import Derived.WideShapes
namespace Go.Proofs.Ytbbkgibopicaeaa
set_option linter.unusedVariables false
set_option linter.unusedSimpArgs false
open Go.RowKit Go.ChangeShapes Go.WideShapes Go.Deep

/-- Cells that read as data are an element. -/
def Reading {α : Type} (E : En α) (e : TypeId) : Prop :=
  ∀ (H : Type) (enc : TypeId × Value → H) (w : World) (n : Nat) (cs : List Value) (y : DataW H × List MemPlace), DataW.trod enc Try.prog w 0 (fun _ => true) true n e cs = some y → ∃ x : α, E.ok w w.heap.size x cs

theorem reading_slice {α : Type} {E : En α} {t e : TypeId} (hR : Reading E e) (ht : (Try.prog).underlying t = some (.slice e)) (hk : (Try.prog).cellsOf e = E.k) (hp : 0 < E.k) {H : Type} {enc : TypeId × Value → H} {w : World} {n : Nat} {cs : List Value} {y : DataW H × List MemPlace}
    (h : DataW.trod enc Try.prog w 0 (fun _ => true) true n t cs = some y) : ∃ v l, cs = [v] ∧ Row E w w.heap.size v l := by
  rcases open_slice ht h with ⟨rfl, _⟩ | ⟨a, len, cap, m, n', D, Pl, rfl, hb, hl, hm, hmm, _, hx⟩
  · exact ⟨_, [], rfl, Row.nil _ _ _⟩
  · simp only [if_true] at hmm
    subst hmm
    have each : ∀ i : Fin len, ∃ x : α, ∃ cs', w.cells? 0 (a.add (i * E.k)) E.k = some cs' ∧ E.ok w w.heap.size x cs' := fun i => by
      obtain ⟨cs', h1, h2⟩ := hx i (by omega)
      rw [hk] at h1
      obtain ⟨x, hok⟩ := hR H enc w n' cs' _ h2
      exact ⟨x, cs', h1, hok⟩
    obtain ⟨f, hf⟩ := Classical.axiomOfChoice each
    refine ⟨_, List.ofFn f, rfl, some a, m, by rw [List.length_ofFn], by rw [List.length_ofFn]; exact hl, hm, (fun h => by cases h), fun i x hx => ?_⟩
    have hi : i < len := by have := (List.getElem?_eq_some_iff.1 hx).1; rwa [List.length_ofFn] at this
    simp only [List.getElem?_ofFn, hi, dite_true, Option.some.injEq] at hx
    have hz : w.cell? (a.add (0 * E.k)) ≠ none := by
      obtain ⟨cs0, h0, _⟩ := hf ⟨0, by omega⟩
      obtain ⟨_, hlen0, hcell0⟩ := World.cells?_some h0
      have e := hcell0 0 hp
      rw [Addr.add] at e
      simp only [if_true] at e
      rw [e, List.getElem?_eq_getElem (by omega)]
      simp
    rw [Nat.zero_mul, Addr.add, if_pos rfl] at hz
    obtain ⟨cs', h1, hok⟩ := hf ⟨i, hi⟩
    rw [hx] at hok
    obtain ⟨_, hlen, hcell⟩ := World.cells?_some h1
    obtain ⟨b, o, sp⟩ := a
    have hsp : sp = none := by
      cases sp with
      | none => rfl
      | some s => exact absurd (by unfold World.cell?; split <;> simp) hz
    subst hsp
    have hlt : b < w.heap.size := by
      cases hq : w.cell? ⟨b, o, none⟩ with
      | none => exact absurd hq hz
      | some v => exact World.block_lt_of_cell? w _ hq
    refine ⟨b, o, cs', rfl, hlt, hok, fun j u hu => ?_⟩
    have hj : j < E.k := by have := (List.getElem?_eq_some_iff.1 hu).1; omega
    have := hcell j hj
    rw [Addr.add_lit, Addr.add_lit] at this
    rw [this, hu]

theorem reading_int : Reading intE 3 := fun H enc w n cs y h => by
  obtain ⟨x, rfl, _, _⟩ := DataW.trod_int Try.underlying3 h
  exact ⟨x, rfl⟩

theorem reading_ints {H : Type} {enc : TypeId × Value → H} {w : World} {n : Nat} {cs : List Value} {y : DataW H × List MemPlace} (h : DataW.trod enc Try.prog w 0 (fun _ => true) true n 36 cs = some y) : ∃ v l, cs = [v] ∧ Row intE w w.heap.size v l :=
  reading_slice reading_int Try.underlying36 (by kernel_rfl) (by decide) h

set_option maxRecDepth 100000 in
theorem reading_spot : Reading spotE 42 := fun H enc w n cs y h => by
  obtain ⟨xs, m, _, _, hl, hxl, hf⟩ := DataW.trod_struct Try.underlying42 h
  have hC : (Try.prog).cellsOf 42 = 3 := by kernel_rfl
  rw [hC] at hl
  have hxl : xs.length = 3 := hxl
  have ci : (Try.prog).cellsOf 3 = 1 := by kernel_rfl
  have cs' : (Try.prog).cellsOf 36 = 1 := by kernel_rfl
  match cs, hl, xs, hxl with
  | [a, b, c], _, [x0, x1, x2], _ =>
    have g0 := hf 0 _ rfl
    have g1 := hf 1 _ rfl
    have g2 := hf 2 _ rfl
    simp [ci, cs'] at g0 g1 g2
    obtain ⟨a', e0, _, _⟩ := DataW.trod_int Try.underlying3 g0
    obtain ⟨b', e1, _, _⟩ := DataW.trod_int Try.underlying3 g1
    obtain ⟨v, l, e2, hr⟩ := reading_ints g2
    simp at e0 e1 e2
    subst e0 e1 e2
    exact ⟨⟨a', b', l⟩, _, rfl, hr⟩

theorem reading_spots {H : Type} {enc : TypeId × Value → H} {w : World} {n : Nat} {cs : List Value} {y : DataW H × List MemPlace} (h : DataW.trod enc Try.prog w 0 (fun _ => true) true n 33 cs = some y) : ∃ v l, cs = [v] ∧ Row spotE w w.heap.size v l :=
  reading_slice reading_spot Try.underlying33 (by kernel_rfl) (by decide) h

set_option maxRecDepth 100000 in
/-- An argument that is a table. -/
theorem open_spots {H : Type} {enc : TypeId × Value → H} {w : World} {r : Reach} {b0 : Nat} {v : Value} {d : DataW H} {ps : List MemPlace} (hv : Value.okWide Try.prog w r b0 33 v) (h : DataW.Trod enc Try.prog w 0 (fun _ => true) true 33 v d ps) : ∃ l, Row spotE w w.heap.size v l := by
  obtain ⟨a, len, cap, rfl⟩ := okWide_slice Try.underlying33 hv
  obtain ⟨n, hn⟩ := h
  obtain ⟨v', l, e, hr⟩ := reading_spots hn
  simp [Value.cells] at e
  exact ⟨l, e ▸ hr⟩

set_option maxRecDepth 100000 in
theorem open_ints' {H : Type} {enc : TypeId × Value → H} {w : World} {r : Reach} {b0 : Nat} {v : Value} {d : DataW H} {ps : List MemPlace} (hv : Value.okWide Try.prog w r b0 36 v) (h : DataW.Trod enc Try.prog w 0 (fun _ => true) true 36 v d ps) : ∃ l, Row intE w w.heap.size v l := by
  obtain ⟨a, len, cap, rfl⟩ := okWide_slice Try.underlying36 hv
  obtain ⟨n, hn⟩ := h
  obtain ⟨v', l, e, hr⟩ := reading_ints hn
  simp [Value.cells] at e
  exact ⟨l, e ▸ hr⟩

set_option maxRecDepth 100000 in
/-- An argument that is a spot. -/
theorem open_spot {H : Type} {enc : TypeId × Value → H} {w : World} {r : Reach} {b0 : Nat} {v : Value} {d : DataW H} {ps : List MemPlace} (hv : Value.okWide Try.prog w r b0 42 v) (h : DataW.Trod enc Try.prog w 0 (fun _ => true) true 42 v d ps) :
    ∃ (s : Spot) (u : Value), v = .agg #[.int .i64 s.addr, .int .i64 s.count, u] ∧ Row intE w w.heap.size u s.line := by
  obtain ⟨cs, rfl, _⟩ := okWide_struct Try.underlying42 hv
  obtain ⟨n, hn⟩ := h
  obtain ⟨s, u, e, hr⟩ := reading_spot H enc w n _ _ hn
  simp only [Value.cells] at e
  refine ⟨s, u, ?_, hr⟩
  rw [← e]
end Go.Proofs.Ytbbkgibopicaeaa
