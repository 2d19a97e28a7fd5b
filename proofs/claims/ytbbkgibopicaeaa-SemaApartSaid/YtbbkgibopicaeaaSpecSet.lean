/- Tables: what a spot in its place is: struck, then put. No program here. -/
import Derived.Test.YtbbkgibopicaeaaSpecT
namespace Go.Proofs.Ytbbkgibopicaeaa
set_option linter.unusedVariables false
set_option linter.unusedSimpArgs false

def others (t : List Spot) (a : Int) : List Spot := t.filter (fun x => !(x.addr == a))
def insAt (s : Spot) (l : List Spot) : List Spot := l.take (l.findIdx fun x => addrLess s.addr x.addr) ++ s :: l.drop (l.findIdx fun x => addrLess s.addr x.addr)

theorem setStep_skip {s x : Spot} {st : List Spot × Bool} (h : x.addr = s.addr) : setStep s st x = st := by unfold setStep; rw [if_pos h]
theorem setStep_put {s x : Spot} {acc : List Spot} (h : ¬ x.addr = s.addr) (hl : addrLess s.addr x.addr = true) : setStep s (acc, false) x = (acc ++ [s] ++ [x], true) := by unfold setStep; rw [if_neg h, if_pos ⟨rfl, hl⟩]
theorem setStep_late {s x : Spot} {acc : List Spot} (h : ¬ x.addr = s.addr) (hl : addrLess s.addr x.addr = false) : setStep s (acc, false) x = (acc ++ [x], false) := by unfold setStep; rw [if_neg h, if_neg (by simp [hl])]
theorem setStep_done {s x : Spot} {acc : List Spot} (h : ¬ x.addr = s.addr) : setStep s (acc, true) x = (acc ++ [x], true) := by unfold setStep; rw [if_neg h, if_neg (by simp)]

theorem setFold_done (s : Spot) : ∀ (t : List Spot) (acc : List Spot), t.foldl (setStep s) (acc, true) = (acc ++ others t s.addr, true)
  | [], acc => by simp [others]
  | x :: t, acc => by
    rw [List.foldl_cons]
    by_cases h : x.addr = s.addr
    · rw [setStep_skip h, setFold_done s t acc]; simp [others, h]
    · rw [setStep_done h, setFold_done s t]; simp [others, h]

theorem setFold_open (s : Spot) : ∀ (t : List Spot) (acc : List Spot), t.foldl (setStep s) (acc, false) =
    if (others t s.addr).findIdx (fun x => addrLess s.addr x.addr) < (others t s.addr).length then (acc ++ insAt s (others t s.addr), true) else (acc ++ others t s.addr, false)
  | [], acc => by simp [others]
  | x :: t, acc => by
    rw [List.foldl_cons]
    by_cases h : x.addr = s.addr
    · have e : others (x :: t) s.addr = others t s.addr := by simp [others, h]
      rw [setStep_skip h, setFold_open s t acc, e]
    · have e : others (x :: t) s.addr = x :: others t s.addr := by simp [others, h]
      rw [e]
      by_cases hl : addrLess s.addr x.addr = true
      · rw [setStep_put h hl, setFold_done]
        simp [insAt, List.findIdx_cons, hl]
      · have hl' : addrLess s.addr x.addr = false := by simpa using hl
        rw [setStep_late h hl', setFold_open s t]
        simp only [insAt, List.findIdx_cons, hl', cond_false, List.length_cons, Nat.add_lt_add_iff_right, List.take_succ_cons, List.drop_succ_cons, List.append_assoc, List.cons_append, List.nil_append]

theorem tabSet_empty (t : List Spot) (s : Spot) (h : spotEmpty s = true) : tabSet t s = others t s.addr := by
  unfold tabSet setTo
  rw [h, setFold_done]
  simp

theorem tabSet_full (t : List Spot) (s : Spot) (h : spotEmpty s = false) : tabSet t s = insAt s (others t s.addr) := by
  unfold tabSet setTo
  rw [h, setFold_open]
  split
  · simp
  · rename_i hn
    have e : (others t s.addr).findIdx (fun x => addrLess s.addr x.addr) = (others t s.addr).length := by
      have := List.findIdx_le_length (p := fun x => addrLess s.addr x.addr) (xs := others t s.addr)
      omega
    simp [insAt, e]

theorem others_len (t : List Spot) (a : Int) : (others t a).length ≤ t.length := List.length_filter_le _ _
theorem insAt_len (s : Spot) (l : List Spot) : (insAt s l).length = l.length + 1 := by
  have := List.findIdx_le_length (p := fun x => addrLess s.addr x.addr) (xs := l)
  simp [insAt]; omega

theorem mem_others {t : List Spot} {a : Int} {x : Spot} : x ∈ others t a ↔ x ∈ t ∧ x.addr ≠ a := by simp [others]
theorem mem_insAt {s x : Spot} {l : List Spot} : x ∈ insAt s l ↔ x = s ∨ x ∈ l := by
  unfold insAt
  rw [List.mem_append, List.mem_cons]
  constructor
  · rintro (h | h | h)
    · exact .inr (List.mem_of_mem_take h)
    · exact .inl h
    · exact .inr (List.mem_of_mem_drop h)
  · rintro (h | h)
    · exact .inr (.inl h)
    · rw [← List.take_append_drop (l.findIdx fun x => addrLess s.addr x.addr) l, List.mem_append] at h
      rcases h with h | h
      · exact .inl h
      · exact .inr (.inr h)

end Go.Proofs.Ytbbkgibopicaeaa
