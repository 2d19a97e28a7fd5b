/- Layer 10: the program's answers are the reference's. -/
/- Layer 10: what a grant changes: the plain law of SemaApart. -/
import Derived.Test.YtbbkgibopicaeaaR10b
import Derived.Test.YtbbkgibopicaeaaRootLaw3
namespace Go.Proofs.Ytbbkgibopicaeaa
set_option linter.unusedVariables false
set_option linter.unusedSimpArgs false

theorem setErr_ref {t : List Spot} {s : Spot} (hT : tabRight t = true) (hs : spotRight s = true) : setErr t s = rsetE t s ∧ setRow t s = rsetL t s := by
  have h1 : setOk t s = true := by unfold setOk; rw [hT, hs]; rfl
  have e : setErr t s = rsetE t s := by unfold setErr rsetE; rw [if_pos h1]
  refine ⟨e, ?_⟩
  unfold setRow
  rw [e]
  unfold rsetE rsetL
  by_cases h : 64 < (tabSet t s).length
  · rw [if_pos h, if_pos h, if_neg (by decide)]
  · rw [if_neg h, if_neg h, if_pos rfl]

/-- A spot in the place of another one. -/
theorem tabSet_len_in {t : List Spot} {s : Spot} (h : ∃ x ∈ t, x.addr = s.addr) : (tabSet t s).length ≤ t.length := by
  obtain ⟨x, hx, e⟩ := h
  have h1 : (others t s.addr).length < t.length := by
    unfold others
    have h2 : (t.filter fun y => !(y.addr == s.addr)).length + (t.filter fun y => y.addr == s.addr).length = t.length := by
      clear hx
      induction t with
      | nil => rfl
      | cons y t ih => simp only [List.filter_cons]; by_cases hy : y.addr = s.addr <;> simp [hy] <;> omega
    have h3 : 0 < (t.filter fun y => y.addr == s.addr).length := List.length_pos_of_mem (List.mem_filter.2 ⟨hx, by simpa using e⟩)
    omega
  cases he : spotEmpty s with
  | true => rw [tabSet_empty t s he]; omega
  | false => rw [tabSet_full t s he, insAt_len]; omega

structure GotSpot (t : List Spot) (a : Int) : Prop where
  tab : TabOk t
  isT : tabRight t = true
  getS : Go.Proofs.Ytbbkgibopicaeaa.getS t a = tabGet t a
  getE : Go.Proofs.Ytbbkgibopicaeaa.getE t a = 0
  addr : isAddr (tabGet t a).addr = true
  c0 : 0 ≤ (tabGet t a).count
  c1 : (tabGet t a).count ≤ 2147483647
  line : lineRight (tabGet t a).line = true
  one : (tabGet t a).count = 0 ∨ (tabGet t a).line = []
  here : spotEmpty (tabGet t a) = false → ∃ x ∈ t, x.addr = (tabGet t a).addr

theorem got {t : List Spot} {a : Int} (h : getOk t a = true) : GotSpot t a := by
  have h0 := h
  unfold getOk at h
  rw [Bool.and_eq_true] at h
  have hok := (tabRight_iff t).1 h.1
  have hr := tabGet_right hok h.2
  have hr0 := hr
  unfold spotRight at hr
  simp only [Bool.and_eq_true, Bool.or_eq_true, decide_eq_true_eq, List.length_eq_zero_iff] at hr
  refine ⟨hok, h.1, by unfold Go.Proofs.Ytbbkgibopicaeaa.getS; rw [if_pos h0], by unfold Go.Proofs.Ytbbkgibopicaeaa.getE; rw [if_pos h0], hr.1.1.1.1, hr.1.1.1.2, hr.1.1.2, hr.1.2, hr.2, fun he => ?_⟩
  rcases tabGet_or t a with ⟨h1, h2⟩ | ⟨_, h2⟩
  · exact ⟨_, h1, rfl⟩
  · rw [h2] at he; simp [spotEmpty] at he

theorem lineRight_tail {l : List Int} (h : lineRight l = true) : lineRight l.tail = true := by
  unfold lineRight at *
  simp only [decide_eq_true_eq] at *
  cases l with
  | nil => exact h
  | cons x l =>
    simp only [List.tail_cons]
    exact ⟨fun y hy => h.1 y (by simp [hy]), (List.nodup_cons.1 h.2.1).2, by have := h.2.2; simp at this; omega⟩

theorem rel_eq {t : List Spot} {a : Int} (h : getOk t a = true) : relE t a = rrelE t a ∧ relL t a = rrelL t a ∧ relW t a = rrelW t a := by
  have g := got h
  have gt := g.tab.len
  unfold relE rrelE relL rrelL relW rrelW relE relS
  rw [g.getS, g.getE]
  have g1 := g.addr; have g2 := g.c0; have g3 := g.c1; have g4 := g.line; have g5 := g.one; have g6 := g.here; have g7 := g.isT
  clear g h
  generalize tabGet t a = s at *
  obtain ⟨ad, c, l⟩ := s
  simp only at g1 g2 g3 g4 g5 g6 ⊢
  cases l with
  | cons x l =>
    have hp : popE (x :: l) = 0 := by simp [popE, g4]
    have hc : c = 0 := by simpa using g5
    have hsr : spotRight ⟨ad, c, l⟩ = true := by
      have := lineRight_tail g4
      simp only [List.tail_cons] at this
      unfold spotRight; simp [g1, hc, this]
    have hle : (tabSet t ⟨ad, c, l⟩).length ≤ 64 := Nat.le_trans (tabSet_len_in (g6 (by simp [spotEmpty]))) gt
    have hE := (setErr_ref g7 hsr).1
    have hL := (setErr_ref g7 hsr).2
    have hE0 : rsetE t ⟨ad, c, l⟩ = 0 := by unfold rsetE; rw [if_neg (by omega)]
    have hL0 : rsetL t ⟨ad, c, l⟩ = tabSet t ⟨ad, c, l⟩ := by unfold rsetL; rw [if_neg (by omega)]
    simp [hp, hE, hL, hE0, hL0]
  | nil =>
    have hp : popE [] = 4 := by simp [popE, lineRight]
    by_cases hm : c = 2147483647
    · simp [hp, hm]
    · have hsr : spotRight ⟨ad, c + 1, []⟩ = true := by unfold spotRight; simp [g1, lineRight]; omega
      have hE := (setErr_ref g7 hsr).1
      have hL := (setErr_ref g7 hsr).2
      simp only [hp, hE, hL, hm]
      by_cases hz : rsetE t ⟨ad, c + 1, []⟩ = 0
      · simp [hz, hE, hL]
      · have hL0 : rsetL t ⟨ad, c + 1, []⟩ = [] := by unfold rsetE at hz; unfold rsetL; split at hz <;> simp_all
        simp [hz, hL0, hE, hL]

theorem acq_eq {t : List Spot} {a who : Int} {first : Bool} (h : getOk t a = true) (hw : 0 ≤ who) : acqE t a who first = racqE t a who first ∧ acqL t a who first = racqL t a who first ∧ acqT t a who first = racqT t a who := by
  have g := got h
  have gt := g.tab.len
  unfold acqE racqE acqL racqL acqT racqT acqE acqS
  rw [g.getS, g.getE]
  have g1 := g.addr; have g2 := g.c0; have g3 := g.c1; have g4 := g.line; have g5 := g.one; have g6 := g.here; have g7 := g.isT
  clear g h
  generalize tabGet t a = s at *
  obtain ⟨ad, c, l⟩ := s
  simp only at g1 g2 g3 g4 g5 g6 ⊢
  have hw' : ¬ who < 0 := by omega
  by_cases hp : 0 ≤ place l who
  · simp [hp, hw']
  · by_cases hc : 0 < c
    · have hl : l = [] := by rcases g5 with h | h; · omega
                             · exact h
      subst hl
      have hsr : spotRight ⟨ad, c - 1, []⟩ = true := by unfold spotRight; simp [g1, lineRight]; omega
      have hle : (tabSet t ⟨ad, c - 1, []⟩).length ≤ 64 := Nat.le_trans (tabSet_len_in (g6 (by simp [spotEmpty]; omega))) gt
      have hE := (setErr_ref g7 hsr).1
      have hL := (setErr_ref g7 hsr).2
      have hE0 : rsetE t ⟨ad, c - 1, []⟩ = 0 := by unfold rsetE; rw [if_neg (by omega)]
      simp [hp, hw', hc, hE, hL, hE0]
    · have hc0 : c = 0 := by omega
      subst hc0
      by_cases h64 : l.length = 64
      · have hq : pushE l who first = 5 := by unfold pushE; rw [if_neg (by simp [g4, hw']), if_neg hp, if_pos h64]
        simp [hp, hw', h64, hq]
      · have hq : pushE l who first = 0 := by unfold pushE; rw [if_neg (by simp [g4, hw']), if_neg hp, if_neg h64]
        have hpl : pushL l who first = if first = true then who :: l else l ++ [who] := by unfold pushL; rw [if_pos hq]
        have hnm : who ∉ l := by
          intro hm
          exact hp (by have := place_neg l who; have h2 : ¬ place l who < 0 := fun h => this.1 h hm; omega)
        have hsr : spotRight ⟨ad, 0, if first = true then who :: l else l ++ [who]⟩ = true := by
          have : lineRight (if first = true then who :: l else l ++ [who]) = true := by
            unfold lineRight at *
            simp only [decide_eq_true_eq] at *
            obtain ⟨k1, k2, k3⟩ := g4
            cases first
            · simp only [Bool.false_eq_true, if_false]
              refine ⟨fun y hy => ?_, ?_, ?_⟩
              · rcases List.mem_append.1 hy with hy | hy
                · exact k1 y hy
                · simp at hy; omega
              · rw [List.nodup_append]
                exact ⟨k2, by simp, fun x hx y hy => by simp at hy; subst hy; intro e; subst e; exact hnm hx⟩
              · simp; omega
            · simp only [if_true]
              refine ⟨fun y hy => ?_, List.nodup_cons.2 ⟨hnm, k2⟩, ?_⟩
              · rcases List.mem_cons.1 hy with rfl | hy
                · exact hw
                · exact k1 y hy
              · simp; omega
          unfold spotRight
          simp [g1, this]
        have hE := (setErr_ref g7 hsr).1
        have hL := (setErr_ref g7 hsr).2
        simp only [hq, hpl, hE, hL]
        by_cases hz : rsetE t ⟨ad, 0, if first = true then who :: l else l ++ [who]⟩ = 0
        · simp [hz, hp, hw', h64, hE, hL, hq, hpl]
        · have hL0 : rsetL t ⟨ad, 0, if first = true then who :: l else l ++ [who]⟩ = [] := by unfold rsetE at hz; unfold rsetL; split at hz <;> simp_all
          simp [hz, hL0, hp, hw', h64, hE, hL, hq, hpl]
end Go.Proofs.Ytbbkgibopicaeaa

namespace Go.Proofs.Ytbbkgibopicaeaa

theorem queN_append (l l' : List Spot) (x : Int) : queN (l ++ l') x = queN l x + queN l' x := by
  unfold queN
  rw [List.filter_append, List.length_append]
  omega

theorem queN_others {t : List Spot} (h : t.Pairwise (fun x y => addrLess x.addr y.addr = true)) (a x : Int) : queN t x = queN (others t a) x + (if 0 ≤ place (tabGet t a).line x then 1 else 0) := by
  induction t with
  | nil => simp [queN, others, tabGet, place]
  | cons s t ih =>
    have h' := h
    rw [List.pairwise_cons] at h
    have ih := ih h.2
    have e1 : queN (s :: t) x = (if 0 ≤ place s.line x then 1 else 0) + queN t x := by
      unfold queN
      rw [List.filter_cons]
      by_cases hp : 0 ≤ place s.line x <;> simp [hp] <;> omega
    by_cases ha : s.addr = a
    · have e2 : others (s :: t) a = others t a := by simp [others, ha]
      have e3 : tabGet (s :: t) a = s := by simp [tabGet, ha]
      have e4 : others t a = t := by
        unfold others
        rw [List.filter_eq_self]
        intro y hy
        have := h.1 y hy
        simp only [Bool.not_eq_true', beq_eq_false_iff_ne]
        intro e
        rw [ha, e, addrLess_irrefl] at this
        cases this
      rw [e1, e2, e3, e4]
      omega
    · have e2 : others (s :: t) a = s :: others t a := by simp [others, ha]
      have e3 : tabGet (s :: t) a = tabGet t a := by simp [tabGet, ha]
      have e5 : queN (s :: others t a) x = (if 0 ≤ place s.line x then 1 else 0) + queN (others t a) x := by
        unfold queN
        rw [List.filter_cons]
        by_cases hp : 0 ≤ place s.line x <;> simp [hp] <;> omega
      rw [e1, e2, e3, e5, ih]
      omega

theorem queN_set (t : List Spot) (s : Spot) (x : Int) : queN (tabSet t s) x = queN (others t s.addr) x + (if 0 ≤ place s.line x then 1 else 0) := by
  cases he : spotEmpty s with
  | true =>
    rw [tabSet_empty t s he, spotEmpty_eq he]
    simp [place]
  | false =>
    rw [tabSet_full t s he]
    unfold insAt
    rw [queN_append]
    have e : queN (s :: (others t s.addr).drop ((others t s.addr).findIdx fun x => addrLess s.addr x.addr)) x = (if 0 ≤ place s.line x then 1 else 0) + queN ((others t s.addr).drop ((others t s.addr).findIdx fun x => addrLess s.addr x.addr)) x := by
      unfold queN
      rw [List.filter_cons]
      by_cases hp : 0 ≤ place s.line x <;> simp [hp] <;> omega
    rw [e]
    have e2 := queN_append ((others t s.addr).take ((others t s.addr).findIdx fun x => addrLess s.addr x.addr)) ((others t s.addr).drop ((others t s.addr).findIdx fun x => addrLess s.addr x.addr)) x
    rw [List.take_append_drop] at e2
    omega

/-- What is known behind a grant. -/
structure Rel (t : List Spot) (a : Int) : Prop where
  ok : getOk t a = true
  kp : Keeps t (relS (getS t a)) (relL t a)

theorem rel_ok {t : List Spot} {a : Int} (h : relE t a = 0) : Rel t a := by
  have h1 : getE t a = 0 := by
    unfold relE at h
    split at h
    · cases h
    · rename_i h2; omega
  have h2 : getOk t a = true := by
    unfold getE at h1
    split at h1
    · assumption
    · cases h1
  have h3 : setErr t (relS (getS t a)) = 0 := by
    unfold relE at h
    rw [if_neg (by omega)] at h
    split at h
    · cases h
    · exact h
  refine ⟨h2, keeps ?_ h3⟩
  unfold relL
  rw [if_pos h]

theorem getS_tab {t : List Spot} {a : Int} (h : getOk t a = true) : getS t a = tabGet t a := (got h).getS
theorem relS_addr (s : Spot) : (relS s).addr = s.addr := by unfold relS; split <;> rfl

theorem place_tail {x : Int} {l : List Int} (h : lineRight (x :: l) = true) : place l x < 0 := by
  rw [place_neg]
  unfold lineRight at h
  simp only [decide_eq_true_eq] at h
  exact (List.nodup_cons.1 h.2.1).1

/-- One was let through: it waits in one line less. -/
theorem rel_next {t : List Spot} {a : Int} (h : relE t a = 0) (hx : relW t a ≠ -1) :
    0 ≤ relW t a ∧ queOk t (relW t a) = true ∧ queOk (relL t a) (relW t a) = true ∧ queN (relL t a) (relW t a) = queN t (relW t a) - 1 := by
  have r := rel_ok h
  have g := got r.ok
  have ht := r.kp.tab
  have hk := r.kp.ok
  have heq := r.kp.eq
  rw [getS_tab r.ok] at heq
  have hW : relW t a = if popE (tabGet t a).line = 0 then (tabGet t a).line.headD 0 else -1 := by unfold relW; rw [if_pos h, getS_tab r.ok]
  have hp : popE (tabGet t a).line = 0 := by
    by_cases hp : popE (tabGet t a).line = 0
    · exact hp
    · rw [if_neg hp] at hW; exact absurd hW hx
  rw [if_pos hp] at hW
  have g4 := g.line
  have hS : relS (tabGet t a) = ⟨(tabGet t a).addr, (tabGet t a).count, (tabGet t a).line.tail⟩ := by unfold relS; rw [if_pos hp]
  have hset := queN_set t (relS (tabGet t a)) ((tabGet t a).line.headD 0)
  rw [← heq, relS_addr, tabGet_addr, hS] at hset
  have hold := queN_others ht.rise a ((tabGet t a).line.headD 0)
  cases hl : (tabGet t a).line with
  | nil => rw [hl] at hp; simp [popE, lineRight] at hp
  | cons y l =>
    rw [hl] at g4
    have h1 : ¬ 0 ≤ place l y := by have := place_tail g4; omega
    have h2 : place (y :: l) y = 0 := by simp [place]
    have h3 : 0 ≤ y := by
      unfold lineRight at g4
      simp only [decide_eq_true_eq] at g4
      exact g4.1 y (by simp)
    have k1 : queN (relL t a) y = queN (others t a) y := by simpa [hl, h1] using hset
    have k2 : queN t y = queN (others t a) y + 1 := by simpa [hl, h2] using hold
    have k3 : relW t a = y := by rw [hW, hl]; rfl
    rw [k3]
    refine ⟨h3, ?_, ?_, by omega⟩
    · unfold queOk; rw [(tabRight_iff t).2 ht]; simpa using h3
    · unfold queOk; rw [(tabRight_iff _).2 hk]; simpa using h3

/-- Nobody waited: whoever asks next is let through, and all is as it was. -/
theorem rel_back {t : List Spot} {a who : Int} {f : Bool} (h : relE t a = 0) (hx : relW t a = -1) (hw : 0 ≤ who) : acqE (relL t a) a who f = 0 ∧ acqL (relL t a) a who f = t ∧ acqT (relL t a) a who f = true := by
  have r := rel_ok h
  have g := got r.ok
  have hk := r.kp
  have ht := hk.tab
  rw [getS_tab r.ok] at hk
  have g0 : relW t a = if popE (tabGet t a).line = 0 then (tabGet t a).line.headD 0 else -1 := by unfold relW; rw [if_pos h, getS_tab r.ok]
  have hl : (tabGet t a).line = [] := by
    cases hl : (tabGet t a).line with
    | nil => rfl
    | cons y l =>
      have g4 := g.line
      rw [hl] at g4 g0
      have hp : popE (y :: l) = 0 := by simp [popE, g4]
      rw [if_pos hp] at g0
      simp only [List.headD_cons] at g0
      unfold lineRight at g4
      simp only [decide_eq_true_eq] at g4
      have := g4.1 y (by simp)
      omega
  have hS : relS (tabGet t a) = ⟨(tabGet t a).addr, (tabGet t a).count + 1, []⟩ := by unfold relS; rw [if_neg (by rw [hl]; simp [popE, lineRight]), hl]
  have hsp := g.getS
  have had := tabGet_addr t a
  generalize relL t a = A at *
  have hAa : getS A a = relS (tabGet t a) := by
    have := hk.getS.1
    rwa [relS_addr, tabGet_addr] at this
  have hEa : getE A a = 0 := by
    have := hk.getS.2
    rwa [relS_addr, tabGet_addr] at this
  have hc0 := g.c0
  have hT : tabGet t a = ⟨a, (tabGet t a).count, []⟩ := by
    have e1 : (tabGet t a).addr = a := had
    rw [show tabGet t a = ⟨(tabGet t a).addr, (tabGet t a).count, (tabGet t a).line⟩ from rfl, e1, hl]
  have hq : acqS (getS A a) who f = tabGet t a := by
    rw [hAa, hS]
    unfold acqS
    rw [if_pos (by show 0 < (tabGet t a).count + 1; omega)]
    rw [show tabGet t a = ⟨(tabGet t a).addr, (tabGet t a).count, (tabGet t a).line⟩ from rfl, hl]
    simp
  have hsr : spotRight (tabGet t a) = true := tabGet_right ht (by
    have := r.ok; unfold getOk at this; rw [Bool.and_eq_true] at this; exact this.2)
  have hne : spotEmpty (relS (tabGet t a)) = false := by rw [hS]; simp [spotEmpty]; omega
  have hin : ∃ x ∈ A, x.addr = (tabGet t a).addr := by
    have := tabSet_has (t := t) (s := relS (tabGet t a))
    rw [← hk.eq, relS_addr] at this
    exact this.2 hne
  have hlen : (tabSet A (tabGet t a)).length ≤ 64 := Nat.le_trans (tabSet_len_in hin) hk.ok.len
  have hbk : tabSet A (tabGet t a) = t := by
    refine tab_ext (tabSet_ok hk.ok hsr hlen) ht fun x => ?_
    rw [tabGet_set hk.ok hsr hlen, hk.get, relS_addr, had]
    split
    · rename_i e; subst e; rfl
    · rfl
  have hE : setErr A (tabGet t a) = 0 := by
    unfold setErr setOk
    rw [(tabRight_iff A).2 hk.ok, hsr]
    simp only [Bool.and_true, if_true]
    rw [if_neg (by omega)]
  have hR : setRow A (tabGet t a) = t := by unfold setRow; rw [if_pos hE, hbk]
  have e0 : acqE A a who f = 0 := by
    unfold acqE
    rw [hq, if_neg (by omega), hAa, hS]
    simp only [place]
    rw [if_neg (by decide), if_neg (by intro h; exact h.1 (by omega)), hE]
  refine ⟨e0, ?_, ?_⟩
  · unfold acqL; rw [if_pos e0, hq, hR]
  · unfold acqT; rw [if_pos e0, hAa, hS]; simp; omega
end Go.Proofs.Ytbbkgibopicaeaa
