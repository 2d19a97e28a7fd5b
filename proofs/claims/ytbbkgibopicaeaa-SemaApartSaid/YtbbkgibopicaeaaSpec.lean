/- The plain functions that the program and its references come to, on lists and numbers. No program here. -/
namespace Go.Proofs.Ytbbkgibopicaeaa
set_option linter.unusedVariables false
set_option linter.unusedSimpArgs false

/-- How many are ahead of one; -1: it is not there. -/
def place (l : List Int) (who : Int) : Int :=
  match l with
  | [] => -1
  | x :: r => if x = who then 0 else if place r who < 0 then -1 else 1 + place r who

theorem place_lt (l : List Int) (who : Int) : place l who < l.length ∧ -1 ≤ place l who := by
  induction l with
  | nil => simp [place]
  | cons x r ih => unfold place; split <;> (try split) <;> simp <;> omega

theorem place_neg (l : List Int) (who : Int) : place l who < 0 ↔ who ∉ l := by
  induction l with
  | nil => simp [place]
  | cons x r ih =>
    have := place_lt r who
    unfold place
    split
    · rename_i h; subst h; simp
    · rename_i h
      have h' : ¬ who = x := fun e => h e.symm
      split
      · rename_i h2; simp [h', ih.1 h2]
      · rename_i h2; simp only [List.mem_cons, h', false_or]; rw [← ih]; omega

/-- The first place is k. -/
theorem place_eq (l : List Int) (who : Int) (k : Nat) (hk : k < l.length) (h : l[k] = who) (hn : ∀ j (hj : j < l.length), j < k → l[j] ≠ who) : place l who = k := by
  induction l generalizing k with
  | nil => simp at hk
  | cons x r ih =>
    unfold place
    cases k with
    | zero => simp at h; simp [h]
    | succ k =>
      have h0 := hn 0 (by simp) (by omega)
      simp at h0
      have := ih k (by simpa using hk) (by simpa using h) (fun j hj hjk => hn (j + 1) (by simpa using hj) (by omega))
      rw [if_neg h0, this, if_neg (by omega)]
      omega

theorem place_none (l : List Int) (who : Int) (hn : ∀ j (hj : j < l.length), l[j] ≠ who) : place l who = -1 := by
  have h : who ∉ l := by
    intro hm
    obtain ⟨j, hj, e⟩ := List.getElem_of_mem hm
    exact hn j hj e
  have := (place_neg l who).2 h
  have := place_lt l who
  omega

/-- May a line be? -/
def lineRight (l : List Int) : Bool := decide ((∀ x ∈ l, 0 ≤ x) ∧ l.Nodup ∧ l.length ≤ 64)


theorem lineRight_neg (l : List Int) (k : Nat) (hk : k < l.length) (h : l[k] < 0) : lineRight l = false := by
  unfold lineRight
  rw [decide_eq_false_iff_not]
  intro ⟨h1, _, _⟩
  have := h1 l[k] (by simp)
  omega

theorem lineRight_dup (l : List Int) (k : Nat) (hk : k < l.length) (h : l[k] ∈ l.take k) : lineRight l = false := by
  unfold lineRight
  rw [decide_eq_false_iff_not]
  intro ⟨_, h2, _⟩
  obtain ⟨j, hj, e⟩ := List.getElem_of_mem h
  rw [List.length_take] at hj
  rw [List.getElem_take] at e
  exact List.pairwise_iff_getElem.1 h2 j k (by omega) hk (by omega) e

theorem nodup_step (l : List Int) (k : Nat) (hk : k < l.length) (h : (l.take k).Nodup) (hn : l[k] ∉ l.take k) : (l.take (k + 1)).Nodup := by
  rw [List.take_succ_eq_append_getElem hk]
  rw [List.nodup_append]
  exact ⟨h, by simp, fun a ha b hb => by simp at hb; subst hb; intro e; subst e; exact hn ha⟩

theorem lineRight_end (l : List Int) (h1 : ∀ j (hj : j < l.length), 0 ≤ l[j]) (h2 : (l.take l.length).Nodup) : lineRight l = decide (l.length ≤ 64) := by
  unfold lineRight
  rw [List.take_length] at h2
  congr 1
  apply propext
  constructor
  · intro h; exact h.2.2
  · intro h
    refine ⟨fun x hx => ?_, h2, h⟩
    obtain ⟨j, hj, rfl⟩ := List.getElem_of_mem hx
    exact h1 j hj

theorem not_mem_take (l : List Int) (k : Nat) (x : Int) (hk : k ≤ l.length) (h : ∀ j (hj : j < l.length), j < k → x ≠ l[j]) : x ∉ l.take k := by
  intro hm
  obtain ⟨j, hj, e⟩ := List.getElem_of_mem hm
  rw [List.length_take] at hj
  rw [List.getElem_take] at e
  exact h j (by omega) (by omega) e.symm

theorem mem_take_at (l : List Int) (k j : Nat) (x : Int) (hj : j < l.length) (hjk : j < k) (h : x = l[j]) : x ∈ l.take k := by
  subst h
  rw [List.mem_take_iff_getElem]
  exact ⟨j, by omega, rfl⟩

end Go.Proofs.Ytbbkgibopicaeaa
