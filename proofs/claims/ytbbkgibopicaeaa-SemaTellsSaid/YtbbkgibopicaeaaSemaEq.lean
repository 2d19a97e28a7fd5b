/- Layer 10: the program's answers are the reference's. -/
import Derived.Test.YtbbkgibopicaeaaR10b
namespace Go.Proofs.Ytbbkgibopicaeaa
set_option linter.unusedVariables false
set_option linter.unusedSimpArgs false

theorem setErr_ref {t : List Spot} {s : Spot} (hT : tabRight t = true) (hs : spotRight s = true) : setErr t s = rsetE t s ∧ setRow t s = rsetL t s := by
  have h1 : setOk t s = true := by unfold setOk; rw [hT, hs]; rfl
  have e : setErr t s = rsetE t s := by unfold setErr rsetE; rw [if_pos h1]
  refine ⟨e, ?_⟩
  unfold setRow
  rw [e]
  unfold rsetE rsetL
  by_cases h : 64 < (tabSet t s).length
  · rw [if_pos h, if_pos h, if_neg (by decide)]
  · rw [if_neg h, if_neg h, if_pos rfl]

/-- A spot in the place of another one. -/
theorem tabSet_len_in {t : List Spot} {s : Spot} (h : ∃ x ∈ t, x.addr = s.addr) : (tabSet t s).length ≤ t.length := by
  obtain ⟨x, hx, e⟩ := h
  have h1 : (others t s.addr).length < t.length := by
    unfold others
    have h2 : (t.filter fun y => !(y.addr == s.addr)).length + (t.filter fun y => y.addr == s.addr).length = t.length := by
      clear hx
      induction t with
      | nil => rfl
      | cons y t ih => simp only [List.filter_cons]; by_cases hy : y.addr = s.addr <;> simp [hy] <;> omega
    have h3 : 0 < (t.filter fun y => y.addr == s.addr).length := List.length_pos_of_mem (List.mem_filter.2 ⟨hx, by simpa using e⟩)
    omega
  cases he : spotEmpty s with
  | true => rw [tabSet_empty t s he]; omega
  | false => rw [tabSet_full t s he, insAt_len]; omega

structure GotSpot (t : List Spot) (a : Int) : Prop where
  tab : TabOk t
  isT : tabRight t = true
  getS : Go.Proofs.Ytbbkgibopicaeaa.getS t a = tabGet t a
  getE : Go.Proofs.Ytbbkgibopicaeaa.getE t a = 0
  addr : isAddr (tabGet t a).addr = true
  c0 : 0 ≤ (tabGet t a).count
  c1 : (tabGet t a).count ≤ 2147483647
  line : lineRight (tabGet t a).line = true
  one : (tabGet t a).count = 0 ∨ (tabGet t a).line = []
  here : spotEmpty (tabGet t a) = false → ∃ x ∈ t, x.addr = (tabGet t a).addr

theorem got {t : List Spot} {a : Int} (h : getOk t a = true) : GotSpot t a := by
  have h0 := h
  unfold getOk at h
  rw [Bool.and_eq_true] at h
  have hok := (tabRight_iff t).1 h.1
  have hr := tabGet_right hok h.2
  have hr0 := hr
  unfold spotRight at hr
  simp only [Bool.and_eq_true, Bool.or_eq_true, decide_eq_true_eq, List.length_eq_zero_iff] at hr
  refine ⟨hok, h.1, by unfold Go.Proofs.Ytbbkgibopicaeaa.getS; rw [if_pos h0], by unfold Go.Proofs.Ytbbkgibopicaeaa.getE; rw [if_pos h0], hr.1.1.1.1, hr.1.1.1.2, hr.1.1.2, hr.1.2, hr.2, fun he => ?_⟩
  rcases tabGet_or t a with ⟨h1, h2⟩ | ⟨_, h2⟩
  · exact ⟨_, h1, rfl⟩
  · rw [h2] at he; simp [spotEmpty] at he

theorem lineRight_tail {l : List Int} (h : lineRight l = true) : lineRight l.tail = true := by
  unfold lineRight at *
  simp only [decide_eq_true_eq] at *
  cases l with
  | nil => exact h
  | cons x l =>
    simp only [List.tail_cons]
    exact ⟨fun y hy => h.1 y (by simp [hy]), (List.nodup_cons.1 h.2.1).2, by have := h.2.2; simp at this; omega⟩

theorem rel_eq {t : List Spot} {a : Int} (h : getOk t a = true) : relE t a = rrelE t a ∧ relL t a = rrelL t a ∧ relW t a = rrelW t a := by
  have g := got h
  have gt := g.tab.len
  unfold relE rrelE relL rrelL relW rrelW relE relS
  rw [g.getS, g.getE]
  have g1 := g.addr; have g2 := g.c0; have g3 := g.c1; have g4 := g.line; have g5 := g.one; have g6 := g.here; have g7 := g.isT
  clear g h
  generalize tabGet t a = s at *
  obtain ⟨ad, c, l⟩ := s
  simp only at g1 g2 g3 g4 g5 g6 ⊢
  cases l with
  | cons x l =>
    have hp : popE (x :: l) = 0 := by simp [popE, g4]
    have hc : c = 0 := by simpa using g5
    have hsr : spotRight ⟨ad, c, l⟩ = true := by
      have := lineRight_tail g4
      simp only [List.tail_cons] at this
      unfold spotRight; simp [g1, hc, this]
    have hle : (tabSet t ⟨ad, c, l⟩).length ≤ 64 := Nat.le_trans (tabSet_len_in (g6 (by simp [spotEmpty]))) gt
    have hE := (setErr_ref g7 hsr).1
    have hL := (setErr_ref g7 hsr).2
    have hE0 : rsetE t ⟨ad, c, l⟩ = 0 := by unfold rsetE; rw [if_neg (by omega)]
    have hL0 : rsetL t ⟨ad, c, l⟩ = tabSet t ⟨ad, c, l⟩ := by unfold rsetL; rw [if_neg (by omega)]
    simp [hp, hE, hL, hE0, hL0]
  | nil =>
    have hp : popE [] = 4 := by simp [popE, lineRight]
    by_cases hm : c = 2147483647
    · simp [hp, hm]
    · have hsr : spotRight ⟨ad, c + 1, []⟩ = true := by unfold spotRight; simp [g1, lineRight]; omega
      have hE := (setErr_ref g7 hsr).1
      have hL := (setErr_ref g7 hsr).2
      simp only [hp, hE, hL, hm]
      by_cases hz : rsetE t ⟨ad, c + 1, []⟩ = 0
      · simp [hz, hE, hL]
      · have hL0 : rsetL t ⟨ad, c + 1, []⟩ = [] := by unfold rsetE at hz; unfold rsetL; split at hz <;> simp_all
        simp [hz, hL0, hE, hL]

theorem acq_eq {t : List Spot} {a who : Int} {first : Bool} (h : getOk t a = true) (hw : 0 ≤ who) : acqE t a who first = racqE t a who first ∧ acqL t a who first = racqL t a who first ∧ acqT t a who first = racqT t a who := by
  have g := got h
  have gt := g.tab.len
  unfold acqE racqE acqL racqL acqT racqT acqE acqS
  rw [g.getS, g.getE]
  have g1 := g.addr; have g2 := g.c0; have g3 := g.c1; have g4 := g.line; have g5 := g.one; have g6 := g.here; have g7 := g.isT
  clear g h
  generalize tabGet t a = s at *
  obtain ⟨ad, c, l⟩ := s
  simp only at g1 g2 g3 g4 g5 g6 ⊢
  have hw' : ¬ who < 0 := by omega
  by_cases hp : 0 ≤ place l who
  · simp [hp, hw']
  · by_cases hc : 0 < c
    · have hl : l = [] := by rcases g5 with h | h; · omega
                             · exact h
      subst hl
      have hsr : spotRight ⟨ad, c - 1, []⟩ = true := by unfold spotRight; simp [g1, lineRight]; omega
      have hle : (tabSet t ⟨ad, c - 1, []⟩).length ≤ 64 := Nat.le_trans (tabSet_len_in (g6 (by simp [spotEmpty]; omega))) gt
      have hE := (setErr_ref g7 hsr).1
      have hL := (setErr_ref g7 hsr).2
      have hE0 : rsetE t ⟨ad, c - 1, []⟩ = 0 := by unfold rsetE; rw [if_neg (by omega)]
      simp [hp, hw', hc, hE, hL, hE0]
    · have hc0 : c = 0 := by omega
      subst hc0
      by_cases h64 : l.length = 64
      · have hq : pushE l who first = 5 := by unfold pushE; rw [if_neg (by simp [g4, hw']), if_neg hp, if_pos h64]
        simp [hp, hw', h64, hq]
      · have hq : pushE l who first = 0 := by unfold pushE; rw [if_neg (by simp [g4, hw']), if_neg hp, if_neg h64]
        have hpl : pushL l who first = if first = true then who :: l else l ++ [who] := by unfold pushL; rw [if_pos hq]
        have hnm : who ∉ l := by
          intro hm
          exact hp (by have := place_neg l who; have h2 : ¬ place l who < 0 := fun h => this.1 h hm; omega)
        have hsr : spotRight ⟨ad, 0, if first = true then who :: l else l ++ [who]⟩ = true := by
          have : lineRight (if first = true then who :: l else l ++ [who]) = true := by
            unfold lineRight at *
            simp only [decide_eq_true_eq] at *
            obtain ⟨k1, k2, k3⟩ := g4
            cases first
            · simp only [Bool.false_eq_true, if_false]
              refine ⟨fun y hy => ?_, ?_, ?_⟩
              · rcases List.mem_append.1 hy with hy | hy
                · exact k1 y hy
                · simp at hy; omega
              · rw [List.nodup_append]
                exact ⟨k2, by simp, fun x hx y hy => by simp at hy; subst hy; intro e; subst e; exact hnm hx⟩
              · simp; omega
            · simp only [if_true]
              refine ⟨fun y hy => ?_, List.nodup_cons.2 ⟨hnm, k2⟩, ?_⟩
              · rcases List.mem_cons.1 hy with rfl | hy
                · exact hw
                · exact k1 y hy
              · simp; omega
          unfold spotRight
          simp [g1, this]
        have hE := (setErr_ref g7 hsr).1
        have hL := (setErr_ref g7 hsr).2
        simp only [hq, hpl, hE, hL]
        by_cases hz : rsetE t ⟨ad, 0, if first = true then who :: l else l ++ [who]⟩ = 0
        · simp [hz, hp, hw', h64, hE, hL, hq, hpl]
        · have hL0 : rsetL t ⟨ad, 0, if first = true then who :: l else l ++ [who]⟩ = [] := by unfold rsetE at hz; unfold rsetL; split at hz <;> simp_all
          simp [hz, hL0, hp, hw', h64, hE, hL, hq, hpl]
end Go.Proofs.Ytbbkgibopicaeaa
