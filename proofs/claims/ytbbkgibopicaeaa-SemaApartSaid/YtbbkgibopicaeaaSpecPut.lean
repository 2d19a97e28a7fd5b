/- Keys in a tree of nodes: where one goes, and what the tree is behind it. No program here. -/
import Derived.Test.YtbbkgibopicaeaaSpecTreap
namespace Go.Proofs.Ytbbkgibopicaeaa
set_option linter.unusedVariables false
set_option linter.unusedSimpArgs false

/-- What is round a subtree. -/
inductive Ctx where
  | top
  | left (i : Nat) (k : Int) (r : T) (up : Ctx)
  | right (i : Nat) (k : Int) (l : T) (up : Ctx)
def fill : Ctx → T → T
  | .top, t => t
  | .left i k r up, t => fill up (.node i k t r)
  | .right i k l up, t => fill up (.node i k l t)
def Ctx.link : Ctx → Link
  | .top => .root
  | .left i _ _ _ => .l i
  | .right i _ _ _ => .r i
def Ctx.idx : Ctx → List Nat
  | .top => []
  | .left i _ r up => i :: (r.idx ++ up.idx)
  | .right i _ l up => i :: (l.idx ++ up.idx)
def Ctx.pre : Ctx → List Int
  | .top => []
  | .left _ _ _ up => up.pre
  | .right _ k l up => up.pre ++ l.keys ++ [k]
def Ctx.post : Ctx → List Int
  | .top => []
  | .left _ k r up => k :: r.keys ++ up.post
  | .right _ _ _ up => up.post
def Ctx.anc : Ctx → List Int
  | .top => []
  | .left _ k _ up => k :: up.anc
  | .right _ k _ up => k :: up.anc

theorem fill_keys : ∀ (c : Ctx) (t : T), (fill c t).keys = c.pre ++ t.keys ++ c.post
  | .top, t => by simp [fill, Ctx.pre, Ctx.post]
  | .left i k r up, t => by simp [fill, Ctx.pre, Ctx.post, fill_keys up, T.keys]
  | .right i k l up, t => by simp [fill, Ctx.pre, Ctx.post, fill_keys up, T.keys]

theorem fill_idx : ∀ (c : Ctx) (t : T), (fill c t).idx.Perm (c.idx ++ t.idx)
  | .top, t => by simp [fill, Ctx.idx]
  | .left i k r up, t => by
    refine (fill_idx up _).trans ?_
    simp only [T.idx, Ctx.idx, List.cons_append, List.append_assoc]
    refine List.perm_middle.trans (List.Perm.cons i ?_)
    rw [← List.append_assoc, ← List.append_assoc]
    refine (List.perm_append_comm).trans ?_
    rw [List.append_assoc]
  | .right i k l up, t => by
    refine (fill_idx up _).trans ?_
    simp only [T.idx, Ctx.idx, List.cons_append, List.append_assoc]
    refine List.perm_middle.trans (List.Perm.cons i ?_)
    rw [← List.append_assoc, ← List.append_assoc]
    exact List.perm_append_comm.append_right t.idx

theorem rep_hole {ns : List Node} : ∀ {c : Ctx} {t : T}, Rep ns (fill c t) → Rep ns t ∧ (c.link ≠ .root → getLink ns c.link = t.root ∧ ∀ i, c.link.ix = some i → i < ns.length) ∧ (c.link = .root → c = .top)
  | .top, t, h => ⟨h, fun e => absurd rfl e, fun _ => rfl⟩
  | .left i k r up, t, h => by
    obtain ⟨h1, _, _⟩ := rep_hole (c := up) h
    obtain ⟨r1, r2, r3, r4, r5, r6⟩ := Rep.node_iff.1 h1
    exact ⟨r5, fun _ => ⟨r3, fun j e => by simp [Ctx.link, Link.ix] at e; omega⟩, fun e => by simp [Ctx.link] at e⟩
  | .right i k l up, t, h => by
    obtain ⟨h1, _, _⟩ := rep_hole (c := up) h
    obtain ⟨r1, r2, r3, r4, r5, r6⟩ := Rep.node_iff.1 h1
    exact ⟨r6, fun _ => ⟨r4, fun j e => by simp [Ctx.link, Link.ix] at e; omega⟩, fun e => by simp [Ctx.link] at e⟩

theorem link_idx : ∀ {c : Ctx} {i : Nat}, c.link.ix = some i → i ∈ c.idx
  | .top, i, h => by simp [Ctx.link, Link.ix] at h
  | .left j k r up, i, h => by simp [Ctx.link, Link.ix] at h; simp [Ctx.idx, h]
  | .right j k l up, i, h => by simp [Ctx.link, Link.ix] at h; simp [Ctx.idx, h]

theorem rep_same {ns ns' : List Node} {t : T} (h : Rep ns t) (hlen : ns.length ≤ ns'.length) (hl : ∀ m : Link, (∃ i, m.ix = some i ∧ i ∈ t.idx) → getLink ns' m = getLink ns m) (hk : ∀ j, j ∈ t.idx → keyAt ns' j = keyAt ns j) : Rep ns' t := by
  induction t with
  | nil => trivial
  | node i k l r ihl ihr =>
    obtain ⟨r1, r2, r3, r4, r5, r6⟩ := Rep.node_iff.1 h
    refine Rep.node_iff.2 ⟨by omega, by rw [hk i (by simp [T.idx])]; exact r2, by rw [hl (.l i) ⟨i, rfl, by simp [T.idx]⟩]; exact r3, by rw [hl (.r i) ⟨i, rfl, by simp [T.idx]⟩]; exact r4, ?_, ?_⟩
    · exact ihl r5 (fun m ⟨j, e, hj⟩ => hl m ⟨j, e, by simp [T.idx, hj]⟩) (fun j hj => hk j (by simp [T.idx, hj]))
    · exact ihr r6 (fun m ⟨j, e, hj⟩ => hl m ⟨j, e, by simp [T.idx, hj]⟩) (fun j hj => hk j (by simp [T.idx, hj]))

/-- Another subtree in its place. -/
theorem rep_fill {ns ns' : List Node} (hlen : ns.length ≤ ns'.length) : ∀ {c : Ctx} {t t' : T}, Rep ns (fill c t) → c.idx.Nodup →
    (∀ m : Link, (∃ i, m.ix = some i ∧ i ∈ c.idx) → getLink ns' m = if m = c.link then t'.root else getLink ns m) → (∀ j, j ∈ c.idx → keyAt ns' j = keyAt ns j) → Rep ns' t' → Rep ns' (fill c t')
  | .top, t, t', _, _, _, _, h => h
  | .left i k r up, t, t', h, hnd, hl, hk, h' => by
    have hh := rep_hole (c := up) h
    obtain ⟨r1, r2, r3, r4, r5, r6⟩ := Rep.node_iff.1 hh.1
    simp only [Ctx.idx, List.nodup_cons, List.nodup_append, List.mem_append, not_or] at hnd
    obtain ⟨⟨n1, n2⟩, n3, n4, n5⟩ := hnd
    refine rep_fill hlen (c := up) (t := .node i k t r) (t' := .node i k t' r) h n4 ?_ (fun j hj => hk j (by simp [Ctx.idx, hj])) ?_
    · rintro m ⟨j, e, hj⟩
      rw [hl m ⟨j, e, by simp [Ctx.idx, hj]⟩, if_neg (fun e' => by subst e'; simp [Ctx.link, Link.ix] at e; subst e; exact n2 hj)]
      split
      · rename_i e'
        subst e'
        exact (hh.2.1 (fun e2 => by rw [e2] at e; simp [Link.ix] at e)).1
      · rfl
    · refine Rep.node_iff.2 ⟨by omega, by rw [hk i (by simp [Ctx.idx])]; exact r2, ?_, ?_, h', rep_same r6 hlen (fun m ⟨j, e, hj⟩ => ?_) (fun j hj => hk j (by simp [Ctx.idx, hj]))⟩
      · rw [hl (.l i) ⟨i, rfl, by simp [Ctx.idx]⟩]; exact if_pos rfl
      · rw [hl (.r i) ⟨i, rfl, by simp [Ctx.idx]⟩, if_neg (by simp [Ctx.link])]; exact r4
      · rw [hl m ⟨j, e, by simp [Ctx.idx, hj]⟩, if_neg (fun e' => by subst e'; simp [Ctx.link, Link.ix] at e; subst e; exact n1 hj)]
  | .right i k l up, t, t', h, hnd, hl, hk, h' => by
    have hh := rep_hole (c := up) h
    obtain ⟨r1, r2, r3, r4, r5, r6⟩ := Rep.node_iff.1 hh.1
    simp only [Ctx.idx, List.nodup_cons, List.nodup_append, List.mem_append, not_or] at hnd
    obtain ⟨⟨n1, n2⟩, n3, n4, n5⟩ := hnd
    refine rep_fill hlen (c := up) (t := .node i k l t) (t' := .node i k l t') h n4 ?_ (fun j hj => hk j (by simp [Ctx.idx, hj])) ?_
    · rintro m ⟨j, e, hj⟩
      rw [hl m ⟨j, e, by simp [Ctx.idx, hj]⟩, if_neg (fun e' => by subst e'; simp [Ctx.link, Link.ix] at e; subst e; exact n2 hj)]
      split
      · rename_i e'
        subst e'
        exact (hh.2.1 (fun e2 => by rw [e2] at e; simp [Link.ix] at e)).1
      · rfl
    · refine Rep.node_iff.2 ⟨by omega, by rw [hk i (by simp [Ctx.idx])]; exact r2, ?_, ?_, rep_same r5 hlen (fun m ⟨j, e, hj⟩ => ?_) (fun j hj => hk j (by simp [Ctx.idx, hj])), h'⟩
      · rw [hl (.l i) ⟨i, rfl, by simp [Ctx.idx]⟩, if_neg (by simp [Ctx.link])]; exact r3
      · rw [hl (.r i) ⟨i, rfl, by simp [Ctx.idx]⟩]; exact if_pos rfl
      · rw [hl m ⟨j, e, by simp [Ctx.idx, hj]⟩, if_neg (fun e' => by subst e'; simp [Ctx.link, Link.ix] at e; subst e; exact n1 hj)]

/-- Links are followed to a key, as long as 'on' says so. -/
def seekC (on : Int → Bool) (key : Int) : T → Ctx → Ctx × T
  | .nil, c => (c, .nil)
  | .node i k l r, c => if on k = true then (if k < key then seekC on key r (.right i k l c) else seekC on key l (.left i k r c)) else (c, .node i k l r)

theorem seekC_fill (on : Int → Bool) (key : Int) : ∀ (t : T) (c : Ctx), fill (seekC on key t c).1 (seekC on key t c).2 = fill c t
  | .nil, c => rfl
  | .node i k l r, c => by
    unfold seekC
    split
    · split
      · rw [seekC_fill on key r]; rfl
      · rw [seekC_fill on key l]; rfl
    · rfl

/-- Where it stops. -/
def T.stops (on : Int → Bool) : T → Prop
  | .nil => True
  | .node _ k _ _ => on k = false
theorem seekC_stop (on : Int → Bool) (key : Int) : ∀ (t : T) (c : Ctx), (seekC on key t c).2.stops on
  | .nil, c => trivial
  | .node i k l r, c => by
    unfold seekC
    split
    · split
      · exact seekC_stop on key r _
      · exact seekC_stop on key l _
    · simpa [T.stops] using ‹¬ on k = true›

theorem seekC_anc (on : Int → Bool) (key : Int) : ∀ (t : T) (c : Ctx), (∀ a ∈ c.anc, on a = true) → ∀ a ∈ (seekC on key t c).1.anc, on a = true
  | .nil, c, h => h
  | .node i k l r, c, h => by
    unfold seekC
    split
    · split
      · exact seekC_anc on key r _ (fun a ha => by
          simp only [Ctx.anc, List.mem_cons] at ha
          rcases ha with rfl | ha
          · assumption
          · exact h a ha)
      · exact seekC_anc on key l _ (fun a ha => by
          simp only [Ctx.anc, List.mem_cons] at ha
          rcases ha with rfl | ha
          · assumption
          · exact h a ha)
    · exact h

/-- On both sides: less ahead, greater behind. -/
theorem seekC_sides (on : Int → Bool) (key : Int) : ∀ (t : T) (c : Ctx), t.keys.Pairwise (· < ·) → key ∉ t.keys → (∀ x ∈ c.pre, x < key) → (∀ x ∈ c.post, key < x) →
    (∀ x ∈ (seekC on key t c).1.pre, x < key) ∧ (∀ x ∈ (seekC on key t c).1.post, key < x)
  | .nil, c, _, _, h1, h2 => ⟨h1, h2⟩
  | .node i k l r, c, hs, hn, h1, h2 => by
    simp only [T.keys, List.pairwise_append, List.pairwise_cons] at hs
    obtain ⟨s1, ⟨s2, s3⟩, s4⟩ := hs
    simp only [T.keys, List.mem_append, List.mem_cons, not_or] at hn
    obtain ⟨n1, n2, n3⟩ := hn
    unfold seekC
    split
    · split
      · rename_i hk
        refine seekC_sides on key r _ s3 n3 (fun x hx => ?_) h2
        simp only [Ctx.pre, List.mem_append, List.mem_singleton] at hx
        rcases hx with (hx | hx) | rfl
        · exact h1 x hx
        · have := s4 x hx k (by simp); omega
        · exact hk
      · rename_i hk
        refine seekC_sides on key l _ s1 n1 h1 (fun x hx => ?_)
        simp only [Ctx.post, List.mem_append, List.mem_cons] at hx
        rcases hx with (rfl | hx) | hx
        · omega
        · have := s2 x hx; omega
        · exact h2 x hx
    · exact ⟨h1, h2⟩

theorem heap_sub : ∀ {c : Ctx} {t : T}, (fill c t).heap → t.heap
  | .top, _, h => h
  | .left _ _ _ up, _, h => (heap_sub (c := up) h).2.2.1
  | .right _ _ _ up, _, h => (heap_sub (c := up) h).2.2.2

theorem heap_fill : ∀ {c : Ctx} {t t' : T}, (fill c t).heap → t'.heap → (∀ x ∈ t'.keys, x ∈ t.keys ∨ ∀ a ∈ c.anc, pri x < pri a) → (fill c t').heap
  | .top, _, _, _, h', _ => h'
  | .left i k r up, t, t', h, h', hx => by
    have hh := heap_sub (c := up) h
    refine heap_fill (c := up) (t := .node i k t r) (t' := .node i k t' r) h ⟨fun x hm => ?_, hh.2.1, h', hh.2.2.2⟩ (fun x hm => ?_)
    · rcases hx x hm with e | e
      · exact hh.1 x e
      · exact e k (by simp [Ctx.anc])
    · simp only [T.keys, List.mem_append, List.mem_cons] at hm ⊢
      rcases hm with hm | hm | hm
      · rcases hx x hm with e | e
        · exact .inl (.inl e)
        · exact .inr fun a ha => e a (by simp [Ctx.anc, ha])
      · exact .inl (.inr (.inl hm))
      · exact .inl (.inr (.inr hm))
  | .right i k l up, t, t', h, h', hx => by
    have hh := heap_sub (c := up) h
    refine heap_fill (c := up) (t := .node i k l t) (t' := .node i k l t') h ⟨hh.1, fun x hm => ?_, hh.2.2.1, h'⟩ (fun x hm => ?_)
    · rcases hx x hm with e | e
      · exact hh.2.1 x e
      · exact e k (by simp [Ctx.anc])
    · simp only [T.keys, List.mem_append, List.mem_cons] at hm ⊢
      rcases hm with hm | hm | hm
      · exact .inl (.inl hm)
      · exact .inl (.inr (.inl hm))
      · rcases hx x hm with e | e
        · exact .inl (.inr (.inr e))
        · exact .inr fun a ha => e a (by simp [Ctx.anc, ha])

/-- Rising keys, and one that is not there. -/
def insKeys (key : Int) (ks : List Int) : List Int := ks.filter (fun x => decide (x < key)) ++ key :: ks.filter (fun x => !decide (x < key))

theorem insKeys_sorted {key : Int} {ks : List Int} (h : ks.Pairwise (· < ·)) (hn : key ∉ ks) : (insKeys key ks).Pairwise (· < ·) := by
  unfold insKeys
  rw [List.pairwise_append, List.pairwise_cons]
  refine ⟨h.filter _, ⟨fun x hx => ?_, h.filter _⟩, fun x hx y hy => ?_⟩
  · rw [List.mem_filter] at hx
    have h2 : ¬ x < key := by simpa using hx.2
    have : x ≠ key := fun e => hn (e ▸ hx.1)
    omega
  · rw [List.mem_filter] at hx
    have h2 : x < key := by simpa using hx.2
    rw [List.mem_cons] at hy
    rcases hy with rfl | hy
    · exact h2
    · rw [List.mem_filter] at hy
      have h3 : ¬ y < key := by simpa using hy.2
      omega

theorem mem_insKeys {key x : Int} {ks : List Int} : x ∈ insKeys key ks ↔ x = key ∨ x ∈ ks := by
  unfold insKeys
  simp only [List.mem_append, List.mem_cons, List.mem_filter]
  constructor
  · rintro (h | h | h)
    · exact .inr h.1
    · exact .inl h
    · exact .inr h.1
  · rintro (h | h)
    · exact .inr (.inl h)
    · by_cases e : x < key
      · exact .inl ⟨h, by simpa using e⟩
      · exact .inr (.inr ⟨h, by simpa using e⟩)

/-- Where a key goes in. -/
def putAt (key : Int) (t : T) : Ctx × T := seekC (fun k => decide (pri key < pri k)) key t .top
/-- The tree with one key more, whose node lies at a place. -/
def ins (at_ : Nat) (key : Int) (t : T) : T := fill (putAt key t).1 (.node at_ key (split key (putAt key t).2).1 (split key (putAt key t).2).2)
/-- The nodes then. -/
def insNs (key : Int) (t : T) (ns : List Node) : List Node :=
  splitW key (putAt key t).2 (setLink (ns ++ [⟨key, -1, -1⟩]) (putAt key t).1.link ns.length) (.l ns.length) (.r ns.length)

theorem ins_ok {ns : List Node} {t : T} {key : Int} (h : TreeOk ns t) (hk : 0 ≤ key ∧ key ≤ 4294967295) (hn : key ∉ t.keys) (hlen : ns.length < 64) :
    TreeOk (insNs key t ns) (ins ns.length key t) ∧ (ins ns.length key t).keys = insKeys key t.keys ∧ (ins ns.length key t).root = setRoot t.root (putAt key t).1.link ns.length := by
  obtain ⟨h1, h2, h3, h4, h5, h6, h7⟩ := h
  have hfill : fill (putAt key t).1 (putAt key t).2 = t := seekC_fill _ _ t .top
  have hstop := seekC_stop (fun k => decide (pri key < pri k)) key t .top
  have hanc := seekC_anc (fun k => decide (pri key < pri k)) key t .top (fun a ha => by simp [Ctx.anc] at ha)
  have hsides := seekC_sides (fun k => decide (pri key < pri k)) key t .top h5 hn (fun x hx => by simp [Ctx.pre] at hx) (fun x hx => by simp [Ctx.post] at hx)
  unfold ins insNs
  change (putAt key t).2.stops (fun k => decide (pri key < pri k)) at hstop
  change ∀ a ∈ (putAt key t).1.anc, decide (pri key < pri a) = true at hanc
  change (∀ x ∈ (putAt key t).1.pre, x < key) ∧ (∀ x ∈ (putAt key t).1.post, key < x) at hsides
  generalize putAt key t = cs at *
  obtain ⟨c, S⟩ := cs
  simp only at *
  subst hfill
  have hkeys := fill_keys c S
  have hperm := fill_idx c S
  have hnd := (hperm.nodup_iff).1 h2
  rw [List.nodup_append] at hnd
  obtain ⟨ndc, ndS, ndcS⟩ := hnd
  have hSsorted : S.keys.Pairwise (· < ·) := by
    rw [hkeys, List.append_assoc] at h5
    exact (List.pairwise_append.1 (List.pairwise_append.1 h5).2.1).1
  have hSmem : ∀ x ∈ S.keys, x ∈ (fill c S).keys := fun x hx => by rw [hkeys]; simp [hx]
  have hSheap : S.heap := heap_sub h7
  have hidxlt : ∀ j ∈ (fill c S).idx, j < ns.length := fun j hj => h1.lt j hj
  have hclt : ∀ j ∈ c.idx, j < ns.length := fun j hj => hidxlt j (hperm.mem_iff.2 (by simp [hj]))
  have hSlt : ∀ j ∈ S.idx, j < ns.length := fun j hj => hidxlt j (hperm.mem_iff.2 (by simp [hj]))
  -- the keys
  have hsk := split_keys key S hSsorted
  have hnew : (fill c (.node ns.length key (split key S).1 (split key S).2)).keys = insKeys key (fill c S).keys := by
    rw [fill_keys, hkeys]
    unfold insKeys
    have p1 : c.pre.filter (fun x => decide (x < key)) = c.pre := List.filter_eq_self.2 fun x hx => by simpa using hsides.1 x hx
    have p2 : c.pre.filter (fun x => !decide (x < key)) = [] := List.filter_eq_nil_iff.2 fun x hx => by have := hsides.1 x hx; simp; omega
    have p3 : c.post.filter (fun x => decide (x < key)) = [] := List.filter_eq_nil_iff.2 fun x hx => by have := hsides.2 x hx; simp; omega
    have p4 : c.post.filter (fun x => !decide (x < key)) = c.post := List.filter_eq_self.2 fun x hx => by have := hsides.2 x hx; simp; omega
    simp only [T.keys, List.filter_append, p1, p2, p3, p4, hsk.1, hsk.2]
    simp
  -- weights
  have hroot : ∀ x ∈ S.keys, pri x < pri key := by
    cases S with
    | nil => intro x hx; simp [T.keys] at hx
    | node i k l r =>
      simp only [T.stops, decide_eq_false_iff_not] at hstop
      have hk' : k ∈ (T.node i k l r).keys := by simp [T.keys]
      have hne : pri k ≠ pri key := fun e => hn (by
        have := pri_inj (h6 k (hSmem k hk')) hk e
        rw [← this]; exact hSmem k hk')
      intro x hx
      simp only [T.keys, List.mem_append, List.mem_cons] at hx
      rcases hx with hx | rfl | hx
      · have := hSheap.1 x hx; omega
      · omega
      · have := hSheap.2.1 x hx; omega
  have hheap : (T.node ns.length key (split key S).1 (split key S).2).heap :=
    ⟨fun x hx => hroot x ((split_mem key S x).1 hx), fun x hx => hroot x ((split_mem key S x).2 hx), (split_heap key S hSheap).1, (split_heap key S hSheap).2⟩
  -- the nodes
  have hlink : ∀ i, c.link.ix = some i → i < ns.length := fun i e => hclt i (link_idx e)
  have hN : (ns ++ [(⟨key, -1, -1⟩ : Node)]).length = ns.length + 1 := by simp
  have hlink' : ∀ i, c.link.ix = some i → i < (ns ++ [(⟨key, -1, -1⟩ : Node)]).length := fun i e => by rw [hN]; have := hlink i e; omega
  have hnsget : ∀ m : Link, (∀ i, m.ix = some i → i < ns.length) → getLink (ns ++ [⟨key, -1, -1⟩]) m = getLink ns m := by
    intro m hm
    cases m with
    | root => rfl
    | l i => simp [getLink, List.getElem?_append_left (hm i rfl)]
    | r i => simp [getLink, List.getElem?_append_left (hm i rfl)]
  have hnskey : ∀ j, j < ns.length → keyAt (ns ++ [⟨key, -1, -1⟩]) j = keyAt ns j := fun j hj => by simp [keyAt, List.getElem?_append_left hj]
  have hrepS : Rep ns S := (rep_hole h1).1
  have hrepS1 : Rep (ns ++ [⟨key, -1, -1⟩]) S := hrepS.congr fun j hj => List.getElem?_append_left (hSlt j hj)
  have hrepS2 : Rep (setLink (ns ++ [⟨key, -1, -1⟩]) c.link ns.length) S := hrepS1.congr fun j hj => setLink_other fun e => ndcS j (link_idx e) j hj rfl
  have hL : (setLink (ns ++ [(⟨key, -1, -1⟩ : Node)]) c.link ns.length).length = ns.length + 1 := by rw [setLink_len, hN]
  obtain ⟨s1, s2, s3, s4, s5, s6, s7⟩ := splitW_spec key S (setLink (ns ++ [⟨key, -1, -1⟩]) c.link ns.length) (.l ns.length) (.r ns.length) hrepS2 ndS
    (fun i e => by simp [Link.ix] at e; subst e; exact ⟨fun hm => by have := hSlt _ hm; omega, by rw [hL]; omega⟩)
    (fun i e => by simp [Link.ix] at e; subst e; exact ⟨fun hm => by have := hSlt _ hm; omega, by rw [hL]; omega⟩) (by simp) (by simp) (by simp)
  generalize splitW key S (setLink (ns ++ [⟨key, -1, -1⟩]) c.link ns.length) (.l ns.length) (.r ns.length) = ns' at *
  have hkeyat : keyAt ns' ns.length = key := by rw [s7, setLink_key]; simp [keyAt]
  have hrepN : Rep ns' (.node ns.length key (split key S).1 (split key S).2) := Rep.node_iff.2 ⟨by rw [s1, hL]; omega, hkeyat, s4, s5, s2, s3⟩
  have hrepF : Rep ns' (fill c (.node ns.length key (split key S).1 (split key S).2)) := by
    refine rep_fill (ns := ns) (by rw [s1, hL]; omega) h1 ndc ?_ (fun j hj => by rw [s7, setLink_key, hnskey j (hclt j hj)]) hrepN
    rintro m ⟨i, e, hi⟩
    have hil := hclt i hi
    have hmr : m ≠ .root := fun e' => by subst e'; simp [Link.ix] at e
    rw [s6 m (fun e' => by subst e'; simp [Link.ix] at e; omega) (fun e' => by subst e'; simp [Link.ix] at e; omega) (fun q eq => by rw [e] at eq; obtain rfl := Option.some.inj eq; exact fun hm => ndcS i hi i hm rfl), setLink_get _ _ _ _ hlink']
    by_cases em : m = c.link
    · rw [if_pos em, if_pos ⟨em.symm, by rw [← em]; exact hmr⟩]; rfl
    · rw [if_neg em, if_neg (fun h => em h.1.symm)]
      exact hnsget m (fun q eq => by rw [e] at eq; obtain rfl := Option.some.inj eq; exact hil)
  have hpermN := fill_idx c (.node ns.length key (split key S).1 (split key S).2)
  have hperm2 : (fill c (.node ns.length key (split key S).1 (split key S).2)).idx.Perm (ns.length :: (fill c S).idx) := by
    refine hpermN.trans ?_
    simp only [T.idx]
    refine List.perm_middle.trans (List.Perm.cons _ ?_)
    exact ((split_idx key S).append_left c.idx).trans hperm.symm
  refine ⟨⟨hrepF, ?_, ?_, by rw [s1, hL]; omega, by rw [hnew]; exact insKeys_sorted h5 hn, fun k hm => ?_, ?_⟩, hnew, ?_⟩
  · rw [hperm2.nodup_iff, List.nodup_cons]
    exact ⟨fun hm => by have := hidxlt _ hm; omega, h2⟩
  · rw [hperm2.length_eq, List.length_cons, h3, s1, hL]
  · rw [hnew, mem_insKeys] at hm
    rcases hm with rfl | hm
    · exact hk
    · exact h6 k hm
  · refine heap_fill h7 hheap (fun x hm => ?_)
    simp only [T.keys, List.mem_append, List.mem_cons] at hm
    rcases hm with hm | rfl | hm
    · exact .inl ((split_mem key S x).1 hm)
    · exact .inr fun a ha => by simpa using hanc a ha
    · exact .inl ((split_mem key S x).2 hm)
  · have : ∀ (c : Ctx) (X Y : T), (fill c X).root = setRoot (fill c Y).root c.link X.root := by
      intro c
      induction c with
      | top => intro X Y; rfl
      | left i k r up ih => intro X Y; exact (ih _ (.node i k Y r)).trans (ih (.node i k Y r) (.node i k Y r)).symm
      | right i k l up ih => intro X Y; exact (ih _ (.node i k l Y)).trans (ih (.node i k l Y) (.node i k l Y)).symm
    exact this c _ S
end Go.Proofs.Ytbbkgibopicaeaa
