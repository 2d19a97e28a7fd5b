/- Tables: the roots in turn have all addresses. No program here. -/
import Derived.Test.YtbbkgibopicaeaaSpecSet
namespace Go.Proofs.Ytbbkgibopicaeaa
set_option linter.unusedVariables false
set_option linter.unusedSimpArgs false

def below (t : List Spot) (n : Int) : Nat := (t.filter (fun s => decide (rootOf s.addr < n))).length

theorem sorted_split (f : Spot → Int) (n : Int) : ∀ (t : List Spot), t.Pairwise (fun x y => f x ≤ f y) → t = t.filter (fun s => decide (f s < n)) ++ t.filter (fun s => decide (¬ f s < n))
  | [], _ => rfl
  | x :: t, h => by
    rw [List.pairwise_cons] at h
    have ih := sorted_split f n t h.2
    by_cases hx : f x < n
    · simp only [List.filter_cons, hx, decide_true, if_true, not_true_eq_false, decide_false, Bool.false_eq_true, if_false, List.cons_append]
      rw [← ih]
    · have e : t.filter (fun s => decide (f s < n)) = [] := by
        rw [List.filter_eq_nil_iff]
        intro y hy
        have := h.1 y hy
        simp only [decide_eq_true_eq]
        omega
      have e2 : t.filter (fun s => decide (¬ f s < n)) = t := by
        rw [List.filter_eq_self]
        intro y hy
        have := h.1 y hy
        simp only [decide_eq_true_eq]
        omega
      rw [List.filter_cons, List.filter_cons, if_neg (by simpa using hx), if_pos (by simpa using hx), e, e2]
      rfl

theorem rise_root {t : List Spot} (h : TabOk t) : t.Pairwise (fun x y => rootOf x.addr ≤ rootOf y.addr) :=
  h.rise.imp fun h => by rw [addrLess_iff] at h; omega

/-- Where a root's addresses lie. -/
theorem under_at {t : List Spot} (h : TabOk t) (n : Int) (j : Nat) (hj : j < (tabUnder t n).length) : ∃ hk : below t n + j < t.length, t[below t n + j].addr = (tabUnder t n)[j] ∧ rootOf (tabUnder t n)[j] = n ∧ isAddr (tabUnder t n)[j] = true := by
  have h1 := sorted_split (fun s => rootOf s.addr) n t (rise_root h)
  have h2 := sorted_split (fun s => rootOf s.addr) (n + 1) (t.filter (fun s => decide (¬ rootOf s.addr < n))) ((rise_root h).filter _)
  rw [List.filter_filter] at h2
  have e : (t.filter (fun s => decide (rootOf s.addr < n + 1) && decide (¬ rootOf s.addr < n))) = t.filter (fun s => decide (rootOf s.addr = n)) := by
    congr 1
    funext s
    rw [Bool.eq_iff_iff]
    simp
    omega
  rw [e] at h2
  have hu : (tabUnder t n).length = (t.filter (fun s => decide (rootOf s.addr = n))).length := by unfold tabUnder; rw [List.length_map]
  have hjl : j < (t.filter (fun s => decide (rootOf s.addr = n))).length := by omega
  have hg : t[below t n + j]? = some (t.filter (fun s => decide (rootOf s.addr = n)))[j] := by
    have e1 : t[below t n + j]? = (t.filter (fun s => decide (rootOf s.addr < n)) ++ t.filter (fun s => decide (¬ rootOf s.addr < n)))[below t n + j]? := congrArg (fun l : List Spot => l[below t n + j]?) h1
    rw [e1, List.getElem?_append_right (by unfold below; omega)]
    unfold below
    rw [Nat.add_sub_cancel_left, h2, List.getElem?_append_left hjl, List.getElem?_eq_getElem hjl]
  obtain ⟨hk, hv⟩ := List.getElem?_eq_some_iff.1 hg
  have hm : (t.filter (fun s => decide (rootOf s.addr = n)))[j] ∈ t.filter (fun s => decide (rootOf s.addr = n)) := List.getElem_mem hjl
  rw [List.mem_filter] at hm
  have hua : (tabUnder t n)[j] = (t.filter (fun s => decide (rootOf s.addr = n)))[j].addr := by simp [tabUnder]
  refine ⟨hk, by rw [hv, hua], by rw [hua]; simpa using hm.2, ?_⟩
  rw [hua, isAddr_iff]
  exact spotRight_addr (h.each _ hm.1).1

theorem below_next (t : List Spot) (n : Int) : below t (n + 1) = below t n + (tabUnder t n).length := by
  unfold below tabUnder
  rw [List.length_map]
  induction t with
  | nil => rfl
  | cons x t ih =>
    simp only [List.filter_cons]
    by_cases h1 : rootOf x.addr < n
    · have h2 : rootOf x.addr < n + 1 := by omega
      have h3 : ¬ rootOf x.addr = n := by omega
      simp [h1, h2, h3]; omega
    · by_cases h3 : rootOf x.addr = n
      · have h2 : rootOf x.addr < n + 1 := by omega
        rw [if_pos (by simpa using h2), if_neg (by simpa using h1), if_pos (by simpa using h3)]
        simp; omega
      · have h2 : ¬ rootOf x.addr < n + 1 := by omega
        simp [h1, h2, h3]; omega

theorem below_zero (t : List Spot) : below t 0 = 0 := by
  unfold below
  rw [List.length_eq_zero_iff, List.filter_eq_nil_iff]
  intro s _
  have : 0 ≤ rootOf s.addr := by unfold rootOf; omega
  simp only [decide_eq_true_eq]
  omega

theorem below_all (t : List Spot) : below t 251 = t.length := by
  unfold below
  rw [List.filter_eq_self.2]
  intro s _
  have : rootOf s.addr < 251 := by unfold rootOf; omega
  simpa using this
end Go.Proofs.Ytbbkgibopicaeaa
