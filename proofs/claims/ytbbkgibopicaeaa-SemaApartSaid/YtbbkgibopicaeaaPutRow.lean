/- Nodes of one's own: links in them are set. -/
import Derived.Test.YtbbkgibopicaeaaTreapKeys
namespace Go.Proofs.Ytbbkgibopicaeaa
set_option linter.unusedVariables false
set_option linter.unusedSimpArgs false
open Go.RowKit

def loff : Link → Nat
  | .root => 0
  | .l i => i * 3 + 1
  | .r i => i * 3 + 2

def ncells (ns : List Node) : List Value := (ns.map fun n => [Value.int .i64 n.key, .int .i64 n.left, .int .i64 n.right]).flatten

theorem ncells_len (ns : List Node) : (ncells ns).length = ns.length * 3 := by
  induction ns with
  | nil => rfl
  | cons n r ih =>
    show (_ :: _ :: _ :: ncells r).length = (r.length + 1) * 3
    simp only [List.length_cons, ih]
    omega

theorem ncells_cons (n : Node) (ns : List Node) : ncells (n :: ns) = .int .i64 n.key :: .int .i64 n.left :: .int .i64 n.right :: ncells ns := rfl

theorem ncells_setL (v : Int) : ∀ (ns : List Node) (i : Nat), ncells (setL ns i v) = (ncells ns).set (i * 3 + 1) (.int .i64 v)
  | [], i => by simp [setL, ncells]
  | n :: ns, 0 => rfl
  | n :: ns, i + 1 => by
    have ih := ncells_setL v ns i
    rw [ncells_cons, show setL (n :: ns) (i + 1) v = n :: setL ns i v from rfl, ncells_cons, ih, show (i + 1) * 3 + 1 = i * 3 + 1 + 1 + 1 + 1 by omega]
    rfl
theorem ncells_setR (v : Int) : ∀ (ns : List Node) (i : Nat), ncells (setR ns i v) = (ncells ns).set (i * 3 + 2) (.int .i64 v)
  | [], i => by simp [setR, ncells]
  | n :: ns, 0 => rfl
  | n :: ns, i + 1 => by
    have ih := ncells_setR v ns i
    rw [ncells_cons, show setR (n :: ns) (i + 1) v = n :: setR ns i v from rfl, ncells_cons, ih, show (i + 1) * 3 + 2 = i * 3 + 2 + 1 + 1 + 1 by omega]
    rfl

theorem css_nodes {w : World} {B : Nat} {css : List (List Value)} {ns : List Node} (h1 : css.length = ns.length) (h2 : ∀ (j : Nat) y cs, ns[j]? = some y → css[j]? = some cs → nodeE.ok w B y cs) : css.flatten = ncells ns := by
  unfold ncells
  congr 1
  apply List.ext_getElem (by simp [h1])
  intro i hi hi'
  have := h2 i ns[i] css[i] (by simp) (by simp)
  simpa [nodeE] using this

theorem own_nodes {w : World} {base g c : Nat} {e : TypeId} {ns : List Node} : Own nodeE e w base (.slice (some ⟨g, 0, none⟩) ns.length c) ns ↔
    ∃ cur, base ≤ g ∧ w.heap[g]? = some (.cells cur e (0, 0)) ∧ ns.length ≤ c ∧ c ≤ maxLen ∧ cur.size = c * 3 ∧ cur.toList.take (ns.length * 3) = ncells ns := by
  constructor
  · rintro ⟨css, h1, h2, h3, h4⟩
    rcases h4 with ⟨h4, _⟩ | ⟨g', cap, cur, e1, q1, q2, q3, q4, q5, q6⟩
    · cases h4
    · cases e1
      exact ⟨cur, q1, q2, q3, q4, q5, by rw [← css_nodes h1 h2]; exact q6⟩
  · rintro ⟨cur, q1, q2, q3, q4, q5, q6⟩
    refine ⟨ns.map fun (n : Node) => [Value.int .i64 n.key, .int .i64 n.left, .int .i64 n.right], by simp, fun j y cs hy hc => ?_, ncells_len ns, .inr ⟨g, c, cur, rfl, q1, q2, q3, q4, q5, q6⟩⟩
    simp only [List.getElem?_map, hy, Option.map_some, Option.some.injEq] at hc
    exact hc.symm

theorem ncells_at (v : Int) : ∀ (ns : List Node) (i : Nat) (n : Node), ns[i]? = some n → (ncells ns)[i * 3]? = some (.int .i64 n.key) ∧ (ncells ns)[i * 3 + 1]? = some (.int .i64 n.left) ∧ (ncells ns)[i * 3 + 2]? = some (.int .i64 n.right)
  | [], i, n, h => by simp at h
  | m :: ns, 0, n, h => by
    simp at h
    subst h
    exact ⟨rfl, rfl, rfl⟩
  | m :: ns, i + 1, n, h => by
    have := ncells_at v ns i n (by simpa using h)
    rw [ncells_cons, show (i + 1) * 3 = i * 3 + 1 + 1 + 1 by omega]
    exact this

/-- What one has of a node of one's own. -/
theorem own_node {w : World} {base g c : Nat} {e : TypeId} {ns : List Node} (h : Own nodeE e w base (.slice (some ⟨g, 0, none⟩) ns.length c) ns) (i : Nat) (n : Node) (hn : ns[i]? = some n) :
    w.cell? ⟨g, i * 3, none⟩ = some (.int .i64 n.key) ∧ w.cell? ⟨g, i * 3 + 1, none⟩ = some (.int .i64 n.left) ∧ w.cell? ⟨g, i * 3 + 2, none⟩ = some (.int .i64 n.right) ∧
    (∀ j, w.frozen? ⟨g, j, none⟩ = false) ∧ i < ns.length ∧ g < w.heap.size := by
  obtain ⟨cur, q1, q2, q3, q4, q5, q6⟩ := own_nodes.1 h
  have hi := (List.getElem?_eq_some_iff.1 hn).1
  obtain ⟨c0, c1, c2⟩ := ncells_at 0 ns i n hn
  rw [← q6] at c0 c1 c2
  have hx : ∀ j x, j < ns.length * 3 → (cur.toList.take (ns.length * 3))[j]? = some x → cur[j]? = some x := fun j x hj hx => by
    rw [List.getElem?_take_of_lt hj] at hx
    simpa using hx
  have hb : Box w g cur e := q2
  exact ⟨hb.cell _ _ (hx _ _ (by omega) c0), hb.cell _ _ (hx _ _ (by omega) c1), hb.cell _ _ (hx _ _ (by omega) c2), fun j => hb.frozen j, hi, hb.lt⟩

/-- A link of one's own nodes is set. -/
theorem own_setLink {w : World} {base g c : Nat} {e : TypeId} {ns : List Node} (h : Own nodeE e w base (.slice (some ⟨g, 0, none⟩) ns.length c) ns) (k : Link) (hk : k ≠ .root) (v : Int) :
    Own nodeE e (w.setCell ⟨g, loff k, none⟩ (.int .i64 v)) base (.slice (some ⟨g, 0, none⟩) ns.length c) (setLink ns k v) := by
  obtain ⟨cur, q1, q2, q3, q4, q5, q6⟩ := own_nodes.1 h
  have hb : Box w g cur e := q2
  have hb2 := hb.set (loff k) (.int .i64 v)
  have hl := setLink_len ns k v
  have e0 : Own nodeE e (w.setCell ⟨g, loff k, none⟩ (.int .i64 v)) base (.slice (some ⟨g, 0, none⟩) (setLink ns k v).length c) (setLink ns k v) := by
    refine own_nodes.2 ⟨_, q1, hb2, by rw [hl]; exact q3, q4, by simpa using q5, ?_⟩
    rw [hl, Array.toList_setIfInBounds, List.take_set, q6]
    cases k with
    | root => exact absurd rfl hk
    | l i => exact (ncells_setL v ns i).symm
    | r i => exact (ncells_setR v ns i).symm
  rw [hl] at e0
  exact e0

theorem linkCell_off (bu g : Nat) (k : Link) (hk : k ≠ .root) : linkCell bu g 0 k = ⟨g, loff k, none⟩ := by
  cases k with
  | root => exact absurd rfl hk
  | l i => simp [linkCell, loff]
  | r i => simp [linkCell, loff]

theorem own_link {w : World} {base g c : Nat} {e : TypeId} {ns : List Node} (h : Own nodeE e w base (.slice (some ⟨g, 0, none⟩) ns.length c) ns) (k : Link) (hk : k ≠ .root) (hi : ∀ i, k.ix = some i → i < ns.length) :
    w.cell? ⟨g, loff k, none⟩ = some (.int .i64 (getLink ns k)) ∧ w.frozen? ⟨g, loff k, none⟩ = false := by
  cases k with
  | root => exact absurd rfl hk
  | l i =>
    have hil := hi i rfl
    obtain ⟨_, h1, _, h2, _⟩ := own_node h i ns[i] (by simp [hil])
    exact ⟨by simp [getLink, loff, hil, h1], h2 _⟩
  | r i =>
    have hil := hi i rfl
    obtain ⟨_, _, h1, h2, _⟩ := own_node h i ns[i] (by simp [hil])
    exact ⟨by simp [getLink, loff, hil, h1], h2 _⟩

/-- A link is set, the root's or a node's. -/
theorem put_store {w : World} {base g c bu lb lo n : Nat} {e ty : TypeId} {ns : List Node} {root : Int} (hn : n = ns.length) (hbx : Box w bu #[.int .i64 root, .slice (some ⟨g, 0, none⟩) n c] ty) (h : Own nodeE e w base (.slice (some ⟨g, 0, none⟩) n c) ns) (hne : bu ≠ g) (k : Link) (hi : ∀ i, k.ix = some i → i < ns.length) (v : Int)
    (hla : linkCell bu g 0 k = ⟨lb, lo, none⟩) :
    w.frozen? ⟨lb, lo, none⟩ = false ∧ Box (w.setCell ⟨lb, lo, none⟩ (.int .i64 v)) bu #[.int .i64 (setRoot root k v), .slice (some ⟨g, 0, none⟩) n c] ty ∧
    Own nodeE e (w.setCell ⟨lb, lo, none⟩ (.int .i64 v)) base (.slice (some ⟨g, 0, none⟩) n c) (setLink ns k v) ∧ (lb = bu ∨ lb = g) := by
  subst hn
  by_cases hk : k = .root
  · subst hk
    simp only [linkCell, Addr.mk.injEq, and_true] at hla
    obtain ⟨rfl, rfl⟩ := hla
    exact ⟨hbx.frozen 0, hbx.set 0 _, h.stay' (fun q hq => Below.heap_setCell w _ _ q (fun e => hne (by simp [Value.ownBlock] at hq; simp at e; omega))) (fun _ _ _ _ _ h => h), .inl rfl⟩
  · rw [linkCell_off bu g k hk] at hla
    cases hla
    exact ⟨(own_link h k hk hi).2, by
      have : setRoot root k v = root := by cases k <;> first | exact absurd rfl hk | rfl
      rw [this]
      exact hbx.setOther (by exact hne) _, own_setLink h k hk v, .inr rfl⟩

/-- Where the parting stands. -/
structure PutSt (key : Int) (F : List Node) (n : Nat) (S : T) (lp rp : Link) (ns : List Node) : Prop where
  fin : splitW key S ns lp rp = F
  rep : Rep ns S
  nd : S.idx.Nodup
  lpi : ∀ i, lp.ix = some i → i ∉ S.idx ∧ i < ns.length
  rpi : ∀ i, rp.ix = some i → i ∉ S.idx ∧ i < ns.length
  ne : lp ≠ rp
  lroot : lp ≠ .root
  rroot : rp ≠ .root
  len : ns.length = n

theorem PutSt.low {key : Int} {F : List Node} {n i : Nat} {k : Int} {l r : T} {lp rp : Link} {ns : List Node} (h : PutSt key F n (.node i k l r) lp rp ns) (hk : k < key) : PutSt key F n r (.r i) rp (setLink ns lp i) := by
  obtain ⟨h1, h2, h3, h4, h5, h6, h7, h8, h9⟩ := h
  obtain ⟨r1, r2, r3⟩ := h2
  have hil := (List.getElem?_eq_some_iff.1 r1).1
  simp only [T.idx, List.nodup_cons, List.mem_append, not_or, List.nodup_append] at h3
  obtain ⟨⟨nl, nr⟩, ndl, ndr, _⟩ := h3
  refine ⟨by rw [← h1, splitW, if_pos hk], r3.congr fun j hj => setLink_other fun e => (h4 j e).1 (by simp [T.idx, hj]), ndr, fun j e => ?_, fun j e => ⟨fun hj => (h5 j e).1 (by simp [T.idx, hj]), by rw [setLink_len]; exact (h5 j e).2⟩, fun e => ?_, by simp, h8, by rw [setLink_len, h9]⟩
  · simp [Link.ix] at e
    subst e
    exact ⟨nr, by rw [setLink_len]; exact hil⟩
  · exact (h5 i (by rw [← e]; rfl)).1 (by simp [T.idx])

theorem PutSt.high {key : Int} {F : List Node} {n i : Nat} {k : Int} {l r : T} {lp rp : Link} {ns : List Node} (h : PutSt key F n (.node i k l r) lp rp ns) (hk : ¬ k < key) : PutSt key F n l lp (.l i) (setLink ns rp i) := by
  obtain ⟨h1, h2, h3, h4, h5, h6, h7, h8, h9⟩ := h
  obtain ⟨r1, r2, r3⟩ := h2
  have hil := (List.getElem?_eq_some_iff.1 r1).1
  simp only [T.idx, List.nodup_cons, List.mem_append, not_or, List.nodup_append] at h3
  obtain ⟨⟨nl, nr⟩, ndl, ndr, _⟩ := h3
  refine ⟨by rw [← h1, splitW, if_neg hk], r2.congr fun j hj => setLink_other fun e => (h5 j e).1 (by simp [T.idx, hj]), ndl, fun j e => ⟨fun hj => (h4 j e).1 (by simp [T.idx, hj]), by rw [setLink_len]; exact (h4 j e).2⟩, fun j e => ?_, fun e => ?_, h7, by simp, by rw [setLink_len, h9]⟩
  · simp [Link.ix] at e
    subst e
    exact ⟨nl, by rw [setLink_len]; exact hil⟩
  · exact (h4 i (by rw [e]; rfl)).1 (by simp [T.idx])

theorem loff_ne {k : Link} {i : Nat} (hk : k ≠ .root) (h : k.ix ≠ some i) : loff k ≠ i * 3 ∧ loff k ≠ i * 3 + 1 ∧ loff k ≠ i * 3 + 2 := by
  cases k with
  | root => exact absurd rfl hk
  | l j => simp [Link.ix] at h; simp only [loff]; omega
  | r j => simp [Link.ix] at h; simp only [loff]; omega

theorem loff_inj {k m : Link} (hk : k ≠ .root) (hm : m ≠ .root) (h : k ≠ m) : loff k ≠ loff m := by
  cases k with
  | root => exact absurd rfl hk
  | l j => cases m with
    | root => exact absurd rfl hm
    | l i => simp only [ne_eq, Link.l.injEq] at h; simp only [loff]; omega
    | r i => simp only [loff]; omega
  | r j => cases m with
    | root => exact absurd rfl hm
    | r i => simp only [ne_eq, Link.r.injEq] at h; simp only [loff]; omega
    | l i => simp only [loff]; omega

/-- Where the parting begins. -/
theorem putSt_start {ns : List Node} {t : T} (key : Int) (hok : TreeOk ns t) : PutSt key (insNs key t ns) (ns.length + 1) (putAt key t).2 (.l ns.length) (.r ns.length) (setLink (ns ++ [⟨key, -1, -1⟩]) (putAt key t).1.link ns.length) := by
  obtain ⟨h1, h2, h3, h4, h5, h6, h7⟩ := hok
  have hfill : fill (putAt key t).1 (putAt key t).2 = t := seekC_fill _ _ t .top
  unfold insNs
  generalize putAt key t = cs at *
  obtain ⟨c, S⟩ := cs
  simp only at *
  subst hfill
  have hperm := fill_idx c S
  have hnd := (hperm.nodup_iff).1 h2
  rw [List.nodup_append] at hnd
  obtain ⟨ndc, ndS, ndcS⟩ := hnd
  have hrep := (rep_hole (c := c) (t := S) h1).1
  refine ⟨rfl, hrep.congr fun j hj => ?_, ndS, fun i e => ?_, fun i e => ?_, by simp, by simp, by simp, by rw [setLink_len]; simp⟩
  · have hjl := hrep.lt j hj
    rw [setLink_other fun e => ndcS j (link_idx e) j hj rfl, List.getElem?_append_left hjl]
  · simp [Link.ix] at e
    subst e
    exact ⟨fun h => Nat.lt_irrefl _ (hrep.lt _ h), by rw [setLink_len]; simp⟩
  · simp [Link.ix] at e
    subst e
    exact ⟨fun h => Nat.lt_irrefl _ (hrep.lt _ h), by rw [setLink_len]; simp⟩

theorem own_set' {w : World} {base g c n lo : Nat} {e : TypeId} {ns : List Node} {k : Link} (h : Own nodeE e w base (.slice (some ⟨g, 0, none⟩) n c) ns) (hn : ns.length = n) (hs : base ≤ w.heap.size) (hk : k ≠ .root) (hlo : loff k = lo) (v : Int) (m : Nat) :
    Own nodeE e ((w.drewN m).setCell ⟨g, lo, none⟩ (.int .i64 v)) base (.slice (some ⟨g, 0, none⟩) n c) (setLink ns k v) := by
  subst hn hlo
  exact own_setLink (h.grown (bdrawN (Below.refl _ _) _) hs) k hk v
end Go.Proofs.Ytbbkgibopicaeaa
