/- Tables by addresses: the plain functions. No program here. -/
import Derived.Test.YtbbkgibopicaeaaSpec
namespace Go.Proofs.Ytbbkgibopicaeaa
set_option linter.unusedVariables false
set_option linter.unusedSimpArgs false

structure Spot where
  addr : Int
  count : Int
  line : List Int
deriving DecidableEq

def isAddr (n : Int) : Bool := decide (0 ≤ n) && decide (n ≤ 4294967295)
def rootOf (a : Int) : Int := a / 8 % 251
def spotRight (s : Spot) : Bool := isAddr s.addr && decide (0 ≤ s.count) && decide (s.count ≤ 2147483647) && lineRight s.line && (decide (s.count = 0) || decide (s.line.length = 0))
def spotEmpty (s : Spot) : Bool := decide (s.count = 0) && decide (s.line.length = 0)
def addrLess (a b : Int) : Bool := decide (rootOf a < rootOf b) || (decide (rootOf a = rootOf b) && decide (a < b))

/-- May a table be? -/
def tabRight (t : List Spot) : Bool := decide ((∀ s ∈ t, spotRight s = true ∧ spotEmpty s = false) ∧ t.Pairwise (fun x y => addrLess x.addr y.addr = true) ∧ t.length ≤ 64)

theorem isAddr_iff (n : Int) : isAddr n = true ↔ 0 ≤ n ∧ n ≤ 4294967295 := by unfold isAddr; simp
theorem spotRight_addr {s : Spot} (h : spotRight s = true) : 0 ≤ s.addr ∧ s.addr ≤ 4294967295 := by
  unfold spotRight at h
  simp only [Bool.and_eq_true] at h
  exact (isAddr_iff _).1 h.1.1.1.1

theorem addrLess_iff (a b : Int) : addrLess a b = true ↔ rootOf a < rootOf b ∨ (rootOf a = rootOf b ∧ a < b) := by unfold addrLess; simp
theorem addrLess_trans {a b c : Int} (h1 : addrLess a b = true) (h2 : addrLess b c = true) : addrLess a c = true := by
  rw [addrLess_iff] at *; omega
theorem addrLess_irrefl (a : Int) : addrLess a a = false := by
  rw [← Bool.not_eq_true, addrLess_iff]; omega
theorem addrLess_total (a b : Int) : addrLess a b = true ∨ a = b ∨ addrLess b a = true := by
  rw [addrLess_iff, addrLess_iff]; omega

theorem tabRight_bad (t : List Spot) (k : Nat) (hk : k < t.length) (h : spotRight t[k] = false ∨ spotEmpty t[k] = true) : tabRight t = false := by
  unfold tabRight
  rw [decide_eq_false_iff_not]
  intro ⟨h1, _, _⟩
  have := h1 t[k] (by simp)
  rcases h with h | h <;> simp_all

theorem tabRight_unsorted (t : List Spot) (k : Nat) (hk : k + 1 < t.length) (h : addrLess t[k].addr t[k + 1].addr = false) : tabRight t = false := by
  unfold tabRight
  rw [decide_eq_false_iff_not]
  intro ⟨_, h2, _⟩
  have := List.pairwise_iff_getElem.1 h2 k (k + 1) (by omega) hk (by omega)
  simp_all

/-- Neighbours rise: all do. -/
theorem rise_all (t : List Spot) (h : ∀ k (hk : k + 1 < t.length), addrLess t[k].addr t[k + 1].addr = true) : t.Pairwise (fun x y => addrLess x.addr y.addr = true) := by
  rw [List.pairwise_iff_getElem]
  intro i j hi hj hij
  obtain ⟨d, rfl⟩ : ∃ d, j = i + 1 + d := ⟨j - (i + 1), by omega⟩
  clear hij
  induction d with
  | zero => exact h i hj
  | succ d ih => exact addrLess_trans (ih (by omega)) (h (i + 1 + d) (by omega))

theorem tabRight_end (t : List Spot) (h1 : ∀ k (hk : k < t.length), spotRight t[k] = true ∧ spotEmpty t[k] = false) (h2 : ∀ k (hk : k + 1 < t.length), addrLess t[k].addr t[k + 1].addr = true) : tabRight t = decide (t.length ≤ 64) := by
  unfold tabRight
  congr 1
  apply propext
  constructor
  · intro h; exact h.2.2
  · intro h
    refine ⟨fun x hx => ?_, rise_all t h2, h⟩
    obtain ⟨j, hj, rfl⟩ := List.getElem_of_mem hx
    exact h1 j hj

structure TabOk (t : List Spot) : Prop where
  each : ∀ s ∈ t, spotRight s = true ∧ spotEmpty s = false
  rise : t.Pairwise (fun x y => addrLess x.addr y.addr = true)
  len : t.length ≤ 64

theorem tabRight_iff (t : List Spot) : tabRight t = true ↔ TabOk t := by
  unfold tabRight
  rw [decide_eq_true_iff]
  exact ⟨fun ⟨a, b, c⟩ => ⟨a, b, c⟩, fun ⟨a, b, c⟩ => ⟨a, b, c⟩⟩

/-- The spot of an address; an empty one, if there is none. -/
def tabGet : List Spot → Int → Spot
  | [], a => ⟨a, 0, []⟩
  | s :: r, a => if s.addr = a then s else tabGet r a

theorem tabGet_eq (t : List Spot) (a : Int) (k : Nat) (hk : k < t.length) (h : t[k].addr = a) (hn : ∀ j (hj : j < t.length), j < k → t[j].addr ≠ a) : tabGet t a = t[k] := by
  induction t generalizing k with
  | nil => simp at hk
  | cons x r ih =>
    unfold tabGet
    cases k with
    | zero => simp at h; simp [h]
    | succ k =>
      have h0 := hn 0 (by simp) (by omega)
      simp at h0
      rw [if_neg h0]
      exact ih k (by simpa using hk) (by simpa using h) (fun j hj hjk => hn (j + 1) (by simpa using hj) (by omega))

theorem tabGet_none (t : List Spot) (a : Int) (hn : ∀ j (hj : j < t.length), t[j].addr ≠ a) : tabGet t a = ⟨a, 0, []⟩ := by
  induction t with
  | nil => rfl
  | cons x r ih =>
    unfold tabGet
    have h0 := hn 0 (by simp)
    simp at h0
    rw [if_neg h0]
    exact ih (fun j hj => hn (j + 1) (by simpa using hj))

/-- The addresses of a root. -/
def tabUnder (t : List Spot) (root : Int) : List Int := (t.filter (fun s => decide (rootOf s.addr = root))).map (·.addr)

/-- The reference's loop: what is built, whether the spot is in it. -/
def setStep (s : Spot) (st : List Spot × Bool) (x : Spot) : List Spot × Bool :=
  if x.addr = s.addr then st
  else if st.2 = false ∧ addrLess s.addr x.addr = true then (st.1 ++ [s] ++ [x], true)
  else (st.1 ++ [x], st.2)
def setTo (s : Spot) (t : List Spot) : List Spot × Bool := t.foldl (setStep s) ([], spotEmpty s)
/-- The table with a spot in its place. -/
def tabSet (t : List Spot) (s : Spot) : List Spot := if (setTo s t).2 = false then (setTo s t).1 ++ [s] else (setTo s t).1

theorem setTo_snoc (s : Spot) (t : List Spot) (k : Nat) (hk : k < t.length) : setTo s (t.take (k + 1)) = setStep s (setTo s (t.take k)) t[k] := by
  unfold setTo
  rw [List.take_succ_eq_append_getElem hk, List.foldl_append]
  rfl

theorem setTo_len (s : Spot) (t : List Spot) : (setTo s t).1.length ≤ 2 * t.length := by
  have h : ∀ (t : List Spot) (st : List Spot × Bool), (t.foldl (setStep s) st).1.length ≤ st.1.length + 2 * t.length := by
    intro t
    induction t with
    | nil => intro st; simp
    | cons x r ih =>
      intro st
      rw [List.foldl_cons]
      have := ih (setStep s st x)
      have h2 : (setStep s st x).1.length ≤ st.1.length + 2 := by unfold setStep; split <;> (try split) <;> simp
      simp only [List.length_cons]
      omega
  have := h t ([], spotEmpty s)
  simpa [setTo] using this

theorem tabUnder_snoc (t : List Spot) (root : Int) (k : Nat) (hk : k < t.length) : tabUnder (t.take (k + 1)) root = if rootOf t[k].addr = root then tabUnder (t.take k) root ++ [t[k].addr] else tabUnder (t.take k) root := by
  unfold tabUnder
  rw [List.take_succ_eq_append_getElem hk, List.filter_append, List.map_append]
  by_cases h : rootOf t[k].addr = root <;> simp [h]

theorem tabUnder_len (t : List Spot) (root : Int) : (tabUnder t root).length ≤ t.length := by
  unfold tabUnder
  rw [List.length_map]
  exact List.length_filter_le _ _
end Go.Proofs.Ytbbkgibopicaeaa
