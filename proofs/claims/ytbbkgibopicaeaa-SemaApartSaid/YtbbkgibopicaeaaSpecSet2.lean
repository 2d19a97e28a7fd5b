/- Tables: a spot is set and got; tables that answer alike are one. No program here. -/
import Derived.Test.YtbbkgibopicaeaaSpecSet
namespace Go.Proofs.Ytbbkgibopicaeaa
set_option linter.unusedVariables false
set_option linter.unusedSimpArgs false

theorem others_sub (t : List Spot) (a : Int) : (others t a).Sublist t := List.filter_sublist

theorem insAt_rise (s : Spot) (l : List Spot) (h : l.Pairwise (fun x y => addrLess x.addr y.addr = true)) (hn : ∀ x ∈ l, x.addr ≠ s.addr) : (insAt s l).Pairwise (fun x y => addrLess x.addr y.addr = true) := by
  have hlow : ∀ x ∈ l.take (l.findIdx fun x => addrLess s.addr x.addr), addrLess x.addr s.addr = true := by
    intro x hx
    obtain ⟨j, hj, rfl⟩ := List.getElem_of_mem hx
    rw [List.length_take] at hj
    rw [List.getElem_take]
    have h1 := List.not_of_lt_findIdx (show j < l.findIdx (fun x => addrLess s.addr x.addr) by omega)
    rcases addrLess_total l[j].addr s.addr with h2 | h2 | h2
    · exact h2
    · exact absurd h2 (hn _ (by simp))
    · simp [h2] at h1
  have hhigh : ∀ x ∈ l.drop (l.findIdx fun x => addrLess s.addr x.addr), addrLess s.addr x.addr = true := by
    intro x hx
    obtain ⟨j, hj, rfl⟩ := List.getElem_of_mem hx
    rw [List.length_drop] at hj
    rw [List.getElem_drop]
    have hlt : l.findIdx (fun x => addrLess s.addr x.addr) < l.length := by omega
    have h1 : addrLess s.addr (l[l.findIdx (fun x => addrLess s.addr x.addr)]).addr = true := List.findIdx_getElem (p := fun x : Spot => addrLess s.addr x.addr) (w := hlt)
    by_cases hz : j = 0
    · subst hz; exact h1
    · exact addrLess_trans h1 (List.pairwise_iff_getElem.1 h _ _ hlt (by omega) (by omega))
  unfold insAt
  rw [List.pairwise_append, List.pairwise_cons]
  refine ⟨h.sublist (List.take_sublist _ _), ⟨hhigh, h.sublist (List.drop_sublist _ _)⟩, fun x hx y hy => ?_⟩
  rcases List.mem_cons.1 hy with rfl | hy
  · exact hlow x hx
  · exact addrLess_trans (hlow x hx) (hhigh y hy)

theorem mem_tabSet {t : List Spot} {s x : Spot} : x ∈ tabSet t s ↔ (x = s ∧ spotEmpty s = false) ∨ (x ∈ t ∧ x.addr ≠ s.addr) := by
  cases h : spotEmpty s with
  | true => rw [tabSet_empty t s h, mem_others]; simp
  | false => rw [tabSet_full t s h, mem_insAt, mem_others]; simp

theorem tabSet_ok {t : List Spot} {s : Spot} (h : TabOk t) (hs : spotRight s = true) (hl : (tabSet t s).length ≤ 64) : TabOk (tabSet t s) := by
  refine ⟨fun x hx => ?_, ?_, hl⟩
  · rcases mem_tabSet.1 hx with ⟨rfl, he⟩ | ⟨hx, _⟩
    · exact ⟨hs, he⟩
    · exact h.each x hx
  · cases he : spotEmpty s with
    | true => rw [tabSet_empty t s he]; exact h.rise.sublist (others_sub t _)
    | false => rw [tabSet_full t s he]; exact insAt_rise s _ (h.rise.sublist (others_sub t _)) (fun x hx => (mem_others.1 hx).2)

theorem rise_addr {t : List Spot} (h : t.Pairwise (fun x y => addrLess x.addr y.addr = true)) {x y : Spot} (hx : x ∈ t) (hy : y ∈ t) (e : x.addr = y.addr) : x = y := by
  obtain ⟨i, hi, rfl⟩ := List.getElem_of_mem hx
  obtain ⟨j, hj, rfl⟩ := List.getElem_of_mem hy
  rcases Nat.lt_trichotomy i j with hij | hij | hij
  · have := List.pairwise_iff_getElem.1 h i j hi hj hij
    rw [e, addrLess_irrefl] at this
    cases this
  · subst hij; rfl
  · have := List.pairwise_iff_getElem.1 h j i hj hi hij
    rw [e, addrLess_irrefl] at this
    cases this

theorem tabGet_mem {t : List Spot} (h : t.Pairwise (fun x y => addrLess x.addr y.addr = true)) {s : Spot} (hs : s ∈ t) : tabGet t s.addr = s := by
  induction t with
  | nil => simp at hs
  | cons x t ih =>
    unfold tabGet
    by_cases e : x.addr = s.addr
    · rw [if_pos e]
      exact rise_addr h (by simp) hs e
    · rw [if_neg e]
      rw [List.pairwise_cons] at h
      rcases List.mem_cons.1 hs with rfl | hs
      · exact absurd rfl e
      · exact ih h.2 hs

theorem tabGet_or (t : List Spot) (a : Int) : (tabGet t a ∈ t ∧ (tabGet t a).addr = a) ∨ ((∀ x ∈ t, x.addr ≠ a) ∧ tabGet t a = ⟨a, 0, []⟩) := by
  induction t with
  | nil => exact .inr ⟨by simp, rfl⟩
  | cons x t ih =>
    unfold tabGet
    by_cases e : x.addr = a
    · rw [if_pos e]; exact .inl ⟨by simp, e⟩
    · rw [if_neg e]
      rcases ih with ⟨h1, h2⟩ | ⟨h1, h2⟩
      · exact .inl ⟨List.mem_cons_of_mem _ h1, h2⟩
      · refine .inr ⟨fun y hy => ?_, h2⟩
        rcases List.mem_cons.1 hy with rfl | hy
        · exact e
        · exact h1 y hy

theorem tabGet_addr (t : List Spot) (a : Int) : (tabGet t a).addr = a := by
  rcases tabGet_or t a with ⟨_, h⟩ | ⟨_, h⟩
  · exact h
  · rw [h]

theorem spotEmpty_eq {s : Spot} (h : spotEmpty s = true) : s = ⟨s.addr, 0, []⟩ := by
  obtain ⟨a, c, l⟩ := s
  simp [spotEmpty] at h
  obtain ⟨rfl, rfl⟩ := h
  rfl

theorem tabGet_set {t : List Spot} {s : Spot} (h : TabOk t) (hs : spotRight s = true) (hl : (tabSet t s).length ≤ 64) (a : Int) : tabGet (tabSet t s) a = if a = s.addr then s else tabGet t a := by
  have hok := tabSet_ok h hs hl
  split
  · rename_i e
    subst e
    cases he : spotEmpty s with
    | false => exact tabGet_mem hok.rise (mem_tabSet.2 (.inl ⟨rfl, he⟩))
    | true =>
      rcases tabGet_or (tabSet t s) s.addr with ⟨h1, h2⟩ | ⟨_, h2⟩
      · rcases mem_tabSet.1 h1 with ⟨_, e⟩ | ⟨_, e⟩
        · rw [he] at e; cases e
        · exact absurd h2 e
      · rw [h2]; exact (spotEmpty_eq he).symm
  · rename_i e
    rcases tabGet_or t a with ⟨h1, h2⟩ | ⟨h1, h2⟩
    · have := tabGet_mem hok.rise (s := tabGet t a) (mem_tabSet.2 (.inr ⟨h1, by rw [h2]; exact e⟩))
      rwa [h2] at this
    · rw [h2]
      rcases tabGet_or (tabSet t s) a with ⟨h3, h4⟩ | ⟨_, h4⟩
      · rcases mem_tabSet.1 h3 with ⟨e5, _⟩ | ⟨h5, _⟩
        · rw [e5] at h4; exact absurd h4.symm e
        · exact absurd h4 (h1 _ h5)
      · exact h4

/-- What a table has: what it answers, where that is not empty. -/
theorem mem_iff_get {t : List Spot} (h : TabOk t) (s : Spot) : s ∈ t ↔ tabGet t s.addr = s ∧ spotEmpty s = false := by
  constructor
  · intro hs
    exact ⟨tabGet_mem h.rise hs, (h.each s hs).2⟩
  · rintro ⟨h1, h2⟩
    rcases tabGet_or t s.addr with ⟨h3, _⟩ | ⟨_, h3⟩
    · rwa [h1] at h3
    · rw [h1] at h3
      rw [h3] at h2
      simp [spotEmpty] at h2

theorem rise_ext : ∀ (t u : List Spot), t.Pairwise (fun x y => addrLess x.addr y.addr = true) → u.Pairwise (fun x y => addrLess x.addr y.addr = true) → (∀ x, x ∈ t ↔ x ∈ u) → t = u
  | [], [], _, _, _ => rfl
  | [], y :: u, _, _, h => by have := (h y).2 (by simp); simp at this
  | x :: t, [], _, _, h => by have := (h x).1 (by simp); simp at this
  | x :: t, y :: u, ht, hu, h => by
    rw [List.pairwise_cons] at ht hu
    have e : x = y := by
      rcases List.mem_cons.1 ((h x).1 (by simp)) with e | hx
      · exact e
      · rcases List.mem_cons.1 ((h y).2 (by simp)) with e | hy
        · exact e.symm
        · have := addrLess_trans (hu.1 x hx) (ht.1 y hy)
          rw [addrLess_irrefl] at this
          cases this
    subst e
    congr 1
    refine rise_ext t u ht.2 hu.2 fun z => ⟨fun hz => ?_, fun hz => ?_⟩
    · rcases List.mem_cons.1 ((h z).1 (List.mem_cons_of_mem _ hz)) with e | hz'
      · subst e
        have := ht.1 z hz
        rw [addrLess_irrefl] at this
        cases this
      · exact hz'
    · rcases List.mem_cons.1 ((h z).2 (List.mem_cons_of_mem _ hz)) with e | hz'
      · subst e
        have := hu.1 z hz
        rw [addrLess_irrefl] at this
        cases this
      · exact hz'

/-- Tables that answer alike are one. -/
theorem tab_ext {t u : List Spot} (ht : TabOk t) (hu : TabOk u) (h : ∀ a, tabGet t a = tabGet u a) : t = u :=
  rise_ext t u ht.rise hu.rise fun x => by rw [mem_iff_get ht, mem_iff_get hu, h]

/-- Two spots of unlike addresses: their order makes no difference. -/
theorem tabSet_comm {t : List Spot} {a b : Spot} (ht : TabOk t) (ha : spotRight a = true) (hb : spotRight b = true) (h1 : (tabSet t a).length ≤ 64) (h2 : (tabSet t b).length ≤ 64) (h3 : (tabSet (tabSet t a) b).length ≤ 64) (h4 : (tabSet (tabSet t b) a).length ≤ 64) (hne : a.addr ≠ b.addr) :
    tabSet (tabSet t a) b = tabSet (tabSet t b) a := by
  have ka := tabSet_ok ht ha h1
  have kb := tabSet_ok ht hb h2
  refine tab_ext (tabSet_ok ka hb h3) (tabSet_ok kb ha h4) fun x => ?_
  rw [tabGet_set ka hb h3, tabGet_set ht ha h1, tabGet_set kb ha h4, tabGet_set ht hb h2]
  by_cases e1 : x = b.addr
  · subst e1
    rw [if_pos rfl, if_neg (fun e => hne e.symm), if_pos rfl]
  · rw [if_neg e1]
    by_cases e2 : x = a.addr
    · rw [if_pos e2, if_pos e2]
    · rw [if_neg e2, if_neg e2, if_neg e1]

theorem tabSet_has {t : List Spot} {s : Spot} : (∃ x ∈ tabSet t s, x.addr = s.addr) ↔ spotEmpty s = false := by
  constructor
  · rintro ⟨x, hx, e⟩
    rcases mem_tabSet.1 hx with ⟨_, h⟩ | ⟨_, h⟩
    · exact h
    · exact absurd e h
  · exact fun h => ⟨s, mem_tabSet.2 (.inl ⟨rfl, h⟩), rfl⟩
end Go.Proofs.Ytbbkgibopicaeaa
