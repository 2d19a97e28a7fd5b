/- Keys in a tree of nodes: the plain law of putting one in. No program here. -/
import Derived.Test.YtbbkgibopicaeaaSpecT
namespace Go.Proofs.Ytbbkgibopicaeaa
set_option linter.unusedVariables false
set_option linter.unusedSimpArgs false

structure Node where
  key : Int
  left : Int
  right : Int
deriving DecidableEq

/-- A tree: each node with its place. -/
inductive T where
  | nil
  | node (i : Nat) (k : Int) (l r : T)

def T.root : T → Int
  | .nil => -1
  | .node i _ _ _ => i
def T.keys : T → List Int
  | .nil => []
  | .node _ k l r => l.keys ++ k :: r.keys
def T.idx : T → List Nat
  | .nil => []
  | .node i _ l r => i :: (l.idx ++ r.idx)
/-- The nodes at their places. -/
def Rep (ns : List Node) : T → Prop
  | .nil => True
  | .node i k l r => ns[i]? = some ⟨k, l.root, r.root⟩ ∧ Rep ns l ∧ Rep ns r

/-- The weight of a key. -/
def pri (k : Int) : Int := k * 2654435761 % 4294967296

def T.heap : T → Prop
  | .nil => True
  | .node _ k l r => (∀ x ∈ l.keys, pri x < pri k) ∧ (∀ x ∈ r.keys, pri x < pri k) ∧ l.heap ∧ r.heap

structure TreeOk (ns : List Node) (t : T) : Prop where
  rep : Rep ns t
  nodup : t.idx.Nodup
  len : t.idx.length = ns.length
  le : ns.length ≤ 64
  sorted : t.keys.Pairwise (· < ·)
  isk : ∀ k ∈ t.keys, 0 ≤ k ∧ k ≤ 4294967295
  heap : t.heap

theorem pri_inj {a b : Int} (ha : 0 ≤ a ∧ a ≤ 4294967295) (hb : 0 ≤ b ∧ b ≤ 4294967295) (h : pri a = pri b) : a = b := by
  unfold pri at h
  have e : ∀ x : Int, 0 ≤ x ∧ x ≤ 4294967295 → (x * 2654435761 % 4294967296) * 244002641 % 4294967296 = x := by
    intro x hx
    rw [Int.mul_emod, Int.emod_emod_of_dvd _ (Int.dvd_refl _), ← Int.mul_emod]
    omega
  rw [← e a ha, ← e b hb, h]

theorem Rep.lt {ns : List Node} : ∀ {t : T}, Rep ns t → ∀ i ∈ t.idx, i < ns.length
  | .nil, _, i, hi => by simp [T.idx] at hi
  | .node j k l r, ⟨h1, h2, h3⟩, i, hi => by
    simp only [T.idx, List.mem_cons, List.mem_append] at hi
    rcases hi with rfl | hi | hi
    · exact (List.getElem?_eq_some_iff.1 h1).1
    · exact h2.lt i hi
    · exact h3.lt i hi

/-- Nothing of the tree's own is touched. -/
theorem Rep.congr {ns ns' : List Node} : ∀ {t : T}, Rep ns t → (∀ i ∈ t.idx, ns'[i]? = ns[i]?) → Rep ns' t
  | .nil, _, _ => trivial
  | .node j k l r, ⟨h1, h2, h3⟩, h => by
    refine ⟨(h j (by simp [T.idx])).trans h1, h2.congr fun i hi => h i (by simp [T.idx, hi]), h3.congr fun i hi => h i (by simp [T.idx, hi])⟩

theorem idx_keys : ∀ t : T, t.idx.length = t.keys.length
  | .nil => rfl
  | .node _ _ l r => by simp only [T.idx, T.keys, List.length_cons, List.length_append]; rw [idx_keys l, idx_keys r]; omega

/-- A link: the root's, a node's left one, its right one. -/
inductive Link where
  | root
  | l (i : Nat)
  | r (i : Nat)
deriving DecidableEq
def Link.ix : Link → Option Nat
  | .root => none
  | .l i => some i
  | .r i => some i
def setL (ns : List Node) (i : Nat) (v : Int) : List Node := ns.modify i fun n => { n with left := v }
def setR (ns : List Node) (i : Nat) (v : Int) : List Node := ns.modify i fun n => { n with right := v }
def setLink (ns : List Node) : Link → Int → List Node
  | .root, _ => ns
  | .l i, v => setL ns i v
  | .r i, v => setR ns i v
def setRoot (root : Int) : Link → Int → Int
  | .root, v => v
  | _, _ => root

theorem setL_other {ns : List Node} {i j : Nat} {v : Int} (h : i ≠ j) : (setL ns i v)[j]? = ns[j]? := by
  simp [setL, List.getElem?_modify, h]
theorem setR_other {ns : List Node} {i j : Nat} {v : Int} (h : i ≠ j) : (setR ns i v)[j]? = ns[j]? := by
  simp [setR, List.getElem?_modify, h]
theorem setL_same {ns : List Node} {i : Nat} {v : Int} {n : Node} (h : ns[i]? = some n) : (setL ns i v)[i]? = some { n with left := v } := by
  simp [setL, List.getElem?_modify, h]
theorem setR_same {ns : List Node} {i : Nat} {v : Int} {n : Node} (h : ns[i]? = some n) : (setR ns i v)[i]? = some { n with right := v } := by
  simp [setR, List.getElem?_modify, h]
theorem setLink_other {ns : List Node} {k : Link} {j : Nat} {v : Int} (h : k.ix ≠ some j) : (setLink ns k v)[j]? = ns[j]? := by
  cases k with
  | root => rfl
  | l i => exact setL_other (fun e => h (by rw [e]; rfl))
  | r i => exact setR_other (fun e => h (by rw [e]; rfl))
theorem setLink_len (ns : List Node) (k : Link) (v : Int) : (setLink ns k v).length = ns.length := by
  cases k <;> simp [setLink, setL, setR]

/-- The two parts of a tree at a key. -/
def split (key : Int) : T → T × T
  | .nil => (.nil, .nil)
  | .node i k l r => if k < key then (.node i k l (split key r).1, (split key r).2) else ((split key l).1, .node i k (split key l).2 r)

/-- What the loop writes: the tree that is left to part, the two links. -/
def splitW (key : Int) : T → List Node → Link → Link → List Node
  | .nil, ns, lp, rp => setLink (setLink ns lp (-1)) rp (-1)
  | .node i k l r, ns, lp, rp => if k < key then splitW key r (setLink ns lp i) (.r i) rp else splitW key l (setLink ns rp i) lp (.l i)

theorem split_keys (key : Int) : ∀ (t : T), t.keys.Pairwise (· < ·) → (split key t).1.keys = t.keys.filter (fun x => decide (x < key)) ∧ (split key t).2.keys = t.keys.filter (fun x => !decide (x < key))
  | .nil, _ => by simp [split, T.keys]
  | .node i k l r, h => by
    simp only [T.keys] at h
    rw [List.pairwise_append] at h
    obtain ⟨h1, h2, h3⟩ := h
    rw [List.pairwise_cons] at h2
    obtain ⟨h4, h5⟩ := h2
    have il := split_keys key l h1
    have ir := split_keys key r h5
    unfold split
    by_cases hk : k < key
    · rw [if_pos hk]
      have hl : l.keys.filter (fun x => decide (x < key)) = l.keys := List.filter_eq_self.2 fun x hx => by
        have := h3 x hx k (by simp); simp; omega
      have hl' : l.keys.filter (fun x => !decide (x < key)) = [] := List.filter_eq_nil_iff.2 fun x hx => by
        have := h3 x hx k (by simp); simp; omega
      constructor
      · simp only [T.keys, List.filter_append, hl, ir.1, List.filter_cons, hk, decide_true, if_true]
      · simp [T.keys, List.filter_append, hl', ir.2, hk]
    · rw [if_neg hk]
      have hr : r.keys.filter (fun x => decide (x < key)) = [] := List.filter_eq_nil_iff.2 fun x hx => by
        have := h4 x hx; simp; omega
      have hr' : r.keys.filter (fun x => !decide (x < key)) = r.keys := List.filter_eq_self.2 fun x hx => by
        have := h4 x hx; simp; omega
      constructor
      · simp [T.keys, List.filter_append, hr, il.1, hk]
      · simp [T.keys, List.filter_append, hr', il.2, hk]

theorem split_mem (key : Int) : ∀ (t : T) (x : Int), (x ∈ (split key t).1.keys → x ∈ t.keys) ∧ (x ∈ (split key t).2.keys → x ∈ t.keys)
  | .nil, x => by simp [split, T.keys]
  | .node i k l r, x => by
    have il := split_mem key l x
    have ir := split_mem key r x
    unfold split
    split <;> simp only [T.keys, List.mem_append, List.mem_cons] <;> refine ⟨fun h => ?_, fun h => ?_⟩
    · rcases h with h | h | h
      · exact .inl h
      · exact .inr (.inl h)
      · exact .inr (.inr (ir.1 h))
    · exact .inr (.inr (ir.2 h))
    · exact .inl (il.1 h)
    · rcases h with h | h | h
      · exact .inl (il.2 h)
      · exact .inr (.inl h)
      · exact .inr (.inr h)

theorem split_heap (key : Int) : ∀ (t : T), t.heap → (split key t).1.heap ∧ (split key t).2.heap
  | .nil, _ => by simp [split, T.heap]
  | .node i k l r, ⟨h1, h2, h3, h4⟩ => by
    have il := split_heap key l h3
    have ir := split_heap key r h4
    unfold split
    split
    · exact ⟨⟨h1, fun x hx => h2 x ((split_mem key r x).1 hx), h3, ir.1⟩, ir.2⟩
    · exact ⟨il.1, fun x hx => h1 x ((split_mem key l x).2 hx), h2, il.2, h4⟩

theorem split_idx (key : Int) : ∀ (t : T), ((split key t).1.idx ++ (split key t).2.idx).Perm t.idx
  | .nil => by simp [split, T.idx]
  | .node i k l r => by
    have il := split_idx key l
    have ir := split_idx key r
    unfold split
    split
    · simp only [T.idx, List.cons_append, List.append_assoc]
      exact (ir.append_left l.idx).cons i
    · simp only [T.idx]
      refine List.perm_middle.trans (List.Perm.cons i ?_)
      rw [← List.append_assoc]
      exact il.append_right r.idx


theorem getElem?_setLink_same {ns : List Node} {k : Link} {v : Int} {i : Nat} (h : k.ix = some i) (hi : i < ns.length) : ∃ n, ns[i]? = some n ∧ (setLink ns k v)[i]? = some (match k with | .root => n | .l _ => { n with left := v } | .r _ => { n with right := v }) := by
  refine ⟨ns[i], List.getElem?_eq_getElem hi, ?_⟩
  cases k with
  | root => simp [Link.ix] at h
  | l j => simp [Link.ix] at h; subst h; exact setL_same (List.getElem?_eq_getElem hi)
  | r j => simp [Link.ix] at h; subst h; exact setR_same (List.getElem?_eq_getElem hi)

/-- What a link holds. -/
def getLink (ns : List Node) : Link → Int
  | .root => -1
  | .l i => (ns[i]?.getD ⟨0, 0, 0⟩).left
  | .r i => (ns[i]?.getD ⟨0, 0, 0⟩).right

/-- A node but for some links. -/
def keyAt (ns : List Node) (i : Nat) : Int := (ns[i]?.getD ⟨0, 0, 0⟩).key

theorem setLink_get (ns : List Node) (k m : Link) (v : Int) (hk : ∀ i, k.ix = some i → i < ns.length) : getLink (setLink ns k v) m = if k = m ∧ k ≠ .root then v else getLink ns m := by
  cases k with
  | root => simp [setLink]
  | l i =>
    have hi := hk i rfl
    cases m with
    | root => simp [getLink, setLink]
    | l j => 
      by_cases e : i = j
      · subst e; simp [getLink, setLink, setL_same (List.getElem?_eq_getElem hi)]
      · simp [getLink, setLink, setL_other e, e]
    | r j =>
      by_cases e : i = j
      · subst e; simp [getLink, setLink, setL_same (List.getElem?_eq_getElem hi), List.getElem?_eq_getElem hi]
      · simp [getLink, setLink, setL_other e]
  | r i =>
    have hi := hk i rfl
    cases m with
    | root => simp [getLink, setLink]
    | r j => 
      by_cases e : i = j
      · subst e; simp [getLink, setLink, setR_same (List.getElem?_eq_getElem hi)]
      · simp [getLink, setLink, setR_other e, e]
    | l j =>
      by_cases e : i = j
      · subst e; simp [getLink, setLink, setR_same (List.getElem?_eq_getElem hi), List.getElem?_eq_getElem hi]
      · simp [getLink, setLink, setR_other e]

theorem setLink_key (ns : List Node) (k : Link) (v : Int) (j : Nat) : keyAt (setLink ns k v) j = keyAt ns j := by
  unfold keyAt
  cases k with
  | root => rfl
  | l i => by_cases e : i = j
           · subst e
             cases h : ns[i]? with
             | none => simp [setLink, setL, List.getElem?_modify, h]
             | some n => simp [setLink, setL_same h]
           · simp [setLink, setL_other e]
  | r i => by_cases e : i = j
           · subst e
             cases h : ns[i]? with
             | none => simp [setLink, setR, List.getElem?_modify, h]
             | some n => simp [setLink, setR_same h]
           · simp [setLink, setR_other e]

theorem Rep.node_iff {ns : List Node} {i : Nat} {k : Int} {l r : T} : Rep ns (.node i k l r) ↔ i < ns.length ∧ keyAt ns i = k ∧ getLink ns (.l i) = l.root ∧ getLink ns (.r i) = r.root ∧ Rep ns l ∧ Rep ns r := by
  constructor
  · rintro ⟨h1, h2, h3⟩
    exact ⟨(List.getElem?_eq_some_iff.1 h1).1, by simp [keyAt, h1], by simp [getLink, h1], by simp [getLink, h1], h2, h3⟩
  · rintro ⟨h1, h2, h3, h4, h5, h6⟩
    refine ⟨?_, h5, h6⟩
    rw [List.getElem?_eq_getElem h1]
    simp only [keyAt, getLink, List.getElem?_eq_getElem h1, Option.getD_some] at h2 h3 h4
    rw [← h2, ← h3, ← h4]

/-- What the loop has written behind it. -/
theorem splitW_spec (key : Int) : ∀ (t : T) (ns : List Node) (lp rp : Link), Rep ns t → t.idx.Nodup → (∀ i, lp.ix = some i → i ∉ t.idx ∧ i < ns.length) → (∀ i, rp.ix = some i → i ∉ t.idx ∧ i < ns.length) → lp ≠ rp → lp ≠ .root → rp ≠ .root →
    (splitW key t ns lp rp).length = ns.length ∧ Rep (splitW key t ns lp rp) (split key t).1 ∧ Rep (splitW key t ns lp rp) (split key t).2 ∧
    getLink (splitW key t ns lp rp) lp = (split key t).1.root ∧ getLink (splitW key t ns lp rp) rp = (split key t).2.root ∧
    (∀ m : Link, m ≠ lp → m ≠ rp → (∀ i, m.ix = some i → i ∉ t.idx) → getLink (splitW key t ns lp rp) m = getLink ns m) ∧ (∀ j, keyAt (splitW key t ns lp rp) j = keyAt ns j)
  | .nil, ns, lp, rp, _, _, hl, hr, hne, hlr, hrr => by
    have hl' : ∀ i, lp.ix = some i → i < ns.length := fun i e => (hl i e).2
    have hr' : ∀ i, rp.ix = some i → i < (setLink ns lp (-1)).length := fun i e => by rw [setLink_len]; exact (hr i e).2
    simp only [splitW, split, T.root]
    refine ⟨by rw [setLink_len, setLink_len], trivial, trivial, ?_, ?_, fun m h1 h2 _ => ?_, fun j => by rw [setLink_key, setLink_key]⟩
    · rw [setLink_get _ _ _ _ hr', if_neg (fun h => hne h.1.symm), setLink_get _ _ _ _ hl', if_pos ⟨rfl, hlr⟩]
    · rw [setLink_get _ _ _ _ hr', if_pos ⟨rfl, hrr⟩]
    · rw [setLink_get _ _ _ _ hr', if_neg (fun h => h2 h.1.symm), setLink_get _ _ _ _ hl', if_neg (fun h => h1 h.1.symm)]
  | .node i k l r, ns, lp, rp, hrep, hnd, hl, hr, hne, hlr, hrr => by
    obtain ⟨r1, r2, r3, r4, r5, r6⟩ := Rep.node_iff.1 hrep
    simp only [T.idx, List.nodup_cons, List.mem_append, not_or, List.nodup_append] at hnd
    obtain ⟨⟨nl, nr⟩, ndl, ndr, ndlr⟩ := hnd
    have hl' : ∀ j, lp.ix = some j → j < ns.length := fun j e => (hl j e).2
    have hr' : ∀ j, rp.ix = some j → j < ns.length := fun j e => (hr j e).2
    have hli : ∀ j, lp.ix = some j → j ≠ i ∧ j ∉ l.idx ∧ j ∉ r.idx := fun j e => by
      have := (hl j e).1; simp only [T.idx, List.mem_cons, List.mem_append, not_or] at this; exact this
    have hri : ∀ j, rp.ix = some j → j ≠ i ∧ j ∉ l.idx ∧ j ∉ r.idx := fun j e => by
      have := (hr j e).1; simp only [T.idx, List.mem_cons, List.mem_append, not_or] at this; exact this
    unfold splitW split
    by_cases hk : k < key
    · simp only [if_pos hk]
      have hlen : (setLink ns lp i).length = ns.length := setLink_len _ _ _
      have hrep' : Rep (setLink ns lp i) r := r6.congr fun j hj => setLink_other fun e => (hli j e).2.2 hj
      have hrepl : Rep (setLink ns lp i) l := r5.congr fun j hj => setLink_other fun e => (hli j e).2.1 hj
      obtain ⟨s1, s2, s3, s4, s5, s6, s7⟩ := splitW_spec key r (setLink ns lp i) (.r i) rp hrep' ndr (fun j e => by simp [Link.ix] at e; subst e; exact ⟨nr, by rw [hlen]; exact r1⟩) (fun j e => ⟨(hri j e).2.2, by rw [hlen]; exact hr' j e⟩)
        (fun e => by have := (hri i (by rw [← e]; rfl)).1; exact this rfl) (by simp) hrr
      have hlpne : lp ≠ .r i := fun e => by have := (hli i (by rw [e]; rfl)).1; exact this rfl
      have hlpl : lp ≠ .l i := fun e => by have := (hli i (by rw [e]; rfl)).1; exact this rfl
      have hrpl : Link.l i ≠ rp := fun e => by have := (hri i (by rw [← e]; rfl)).1; exact this rfl
      have glp : getLink (splitW key r (setLink ns lp i) (.r i) rp) lp = i := by
        rw [s6 lp hlpne hne (fun j e => (hli j e).2.2), setLink_get _ _ _ _ hl', if_pos ⟨rfl, hlr⟩]
      have gl : getLink (splitW key r (setLink ns lp i) (.r i) rp) (.l i) = l.root := by
        rw [s6 (.l i) (by simp) hrpl (fun j e => by simp [Link.ix] at e; subst e; exact nr), setLink_get _ _ _ _ hl', if_neg (fun h => hlpl h.1), r3]
      refine ⟨by rw [s1, hlen], Rep.node_iff.2 ⟨by rw [s1, hlen]; exact r1, by rw [s7, setLink_key]; exact r2, gl, s4, ?_, s2⟩, s3, glp, s5, fun m h1 h2 h3 => ?_, fun j => by rw [s7, setLink_key]⟩
      · refine hrepl.congr fun j hj => ?_
        have hj' : j < (setLink ns lp i).length := hrepl.lt j hj
        have hjr : j ∉ r.idx := fun h => ndlr j hj j h rfl
        have e1 : getLink (splitW key r (setLink ns lp i) (.r i) rp) (.l j) = getLink (setLink ns lp i) (.l j) := s6 (.l j) (by simp) (fun e => (hri j (by rw [← e]; rfl)).2.1 hj) (fun q e => by simp [Link.ix] at e; subst e; exact hjr)
        have e2 : getLink (splitW key r (setLink ns lp i) (.r i) rp) (.r j) = getLink (setLink ns lp i) (.r j) := s6 (.r j) (by simp; intro e; subst e; exact nl hj) (fun e => (hri j (by rw [← e]; rfl)).2.1 hj) (fun q e => by simp [Link.ix] at e; subst e; exact hjr)
        have e3 := s7 j
        have hj2 : j < (splitW key r (setLink ns lp i) (.r i) rp).length := by rw [s1]; exact hj'
        simp only [getLink, keyAt, List.getElem?_eq_getElem hj', List.getElem?_eq_getElem hj2, Option.getD_some] at e1 e2 e3
        rw [List.getElem?_eq_getElem hj', List.getElem?_eq_getElem hj2]
        congr 1
        cases h1 : (splitW key r (setLink ns lp i) (.r i) rp)[j]; cases h2 : (setLink ns lp i)[j]
        simp_all
      · have him : ∀ q, m.ix = some q → q ≠ i ∧ q ∉ l.idx ∧ q ∉ r.idx := fun q e => by
          have := h3 q e; simp only [T.idx, List.mem_cons, List.mem_append, not_or] at this; exact this
        rw [s6 m (fun e => by subst e; exact (him i rfl).1 rfl) h2 (fun q e => (him q e).2.2), setLink_get _ _ _ _ hl', if_neg (fun h => h1 h.1.symm)]
    · simp only [if_neg hk]
      have hlen : (setLink ns rp i).length = ns.length := setLink_len _ _ _
      have hrep' : Rep (setLink ns rp i) l := r5.congr fun j hj => setLink_other fun e => (hri j e).2.1 hj
      have hrepr : Rep (setLink ns rp i) r := r6.congr fun j hj => setLink_other fun e => (hri j e).2.2 hj
      obtain ⟨s1, s2, s3, s4, s5, s6, s7⟩ := splitW_spec key l (setLink ns rp i) lp (.l i) hrep' ndl (fun j e => ⟨(hli j e).2.1, by rw [hlen]; exact hl' j e⟩) (fun j e => by simp [Link.ix] at e; subst e; exact ⟨nl, by rw [hlen]; exact r1⟩)
        (fun e => by have := (hli i (by rw [e]; rfl)).1; exact this rfl) hlr (by simp)
      have hrpne : rp ≠ .l i := fun e => by have := (hri i (by rw [e]; rfl)).1; exact this rfl
      have hrpr : rp ≠ .r i := fun e => by have := (hri i (by rw [e]; rfl)).1; exact this rfl
      have hlpr : Link.r i ≠ lp := fun e => by have := (hli i (by rw [← e]; rfl)).1; exact this rfl
      have grp : getLink (splitW key l (setLink ns rp i) lp (.l i)) rp = i := by
        rw [s6 rp (Ne.symm hne) hrpne (fun j e => (hri j e).2.1), setLink_get _ _ _ _ hr', if_pos ⟨rfl, hrr⟩]
      have gr : getLink (splitW key l (setLink ns rp i) lp (.l i)) (.r i) = r.root := by
        rw [s6 (.r i) hlpr (by simp) (fun j e => by simp [Link.ix] at e; subst e; exact nl), setLink_get _ _ _ _ hr', if_neg (fun h => hrpr h.1), r4]
      refine ⟨by rw [s1, hlen], s2, Rep.node_iff.2 ⟨by rw [s1, hlen]; exact r1, by rw [s7, setLink_key]; exact r2, s5, gr, s3, ?_⟩, s4, grp, fun m h1 h2 h3 => ?_, fun j => by rw [s7, setLink_key]⟩
      · refine hrepr.congr fun j hj => ?_
        have hj' : j < (setLink ns rp i).length := hrepr.lt j hj
        have hjl : j ∉ l.idx := fun h => ndlr j h j hj rfl
        have e1 : getLink (splitW key l (setLink ns rp i) lp (.l i)) (.r j) = getLink (setLink ns rp i) (.r j) := s6 (.r j) (fun e => (hli j (by rw [← e]; rfl)).2.2 hj) (by simp) (fun q e => by simp [Link.ix] at e; subst e; exact hjl)
        have e2 : getLink (splitW key l (setLink ns rp i) lp (.l i)) (.l j) = getLink (setLink ns rp i) (.l j) := s6 (.l j) (fun e => (hli j (by rw [← e]; rfl)).2.2 hj) (by simp; intro e; subst e; exact nr hj) (fun q e => by simp [Link.ix] at e; subst e; exact hjl)
        have e3 := s7 j
        have hj2 : j < (splitW key l (setLink ns rp i) lp (.l i)).length := by rw [s1]; exact hj'
        simp only [getLink, keyAt, List.getElem?_eq_getElem hj', List.getElem?_eq_getElem hj2, Option.getD_some] at e1 e2 e3
        rw [List.getElem?_eq_getElem hj', List.getElem?_eq_getElem hj2]
        congr 1
        cases h1 : (splitW key l (setLink ns rp i) lp (.l i))[j]; cases h2 : (setLink ns rp i)[j]
        simp_all
      · have him : ∀ q, m.ix = some q → q ≠ i ∧ q ∉ l.idx ∧ q ∉ r.idx := fun q e => by
          have := h3 q e; simp only [T.idx, List.mem_cons, List.mem_append, not_or] at this; exact this
        rw [s6 m h1 (fun e => by subst e; exact (him i rfl).1 rfl) (fun q e => (him q e).2.1), setLink_get _ _ _ _ hr', if_neg (fun h => h2 h.1.symm)]
end Go.Proofs.Ytbbkgibopicaeaa
