/- Layer 8 of the program: a tree that may be is told to be so. -/
import Derived.Test.YtbbkgibopicaeaaTreapWalk
namespace Go.Proofs.Ytbbkgibopicaeaa
set_option linter.unusedVariables false
set_option linter.unusedSimpArgs false
open Go.RowKit

/-- A node is no heavier than what hangs on it. -/
structure Light (ns : List Node) (n : Node) (i : Int) : Prop where
  key : 0 ≤ n.key ∧ n.key ≤ 4294967295
  child : i = -1 ∨ ∃ (j : Nat) (m : Node), i = (j : Int) ∧ ns[j]? = some m ∧ pri m.key < pri n.key ∧ 0 ≤ m.key ∧ m.key ≤ 4294967295

set_option maxHeartbeats 1600000 in
theorem treap_Right2 (ns : List Node) (n : Node) (i root : Int) (v : Value) (bt : Nat) (w : World) (hl : Light ns n i) (hbx : Box w bt #[.int .i64 root, v] 81) (h : Row nodeE w w.heap.size v ns) :
    Calls Try.prog 97 #[.agg #[.int .i64 n.key, .int .i64 n.left, .int .i64 n.right], .int .i64 i, .pointer (some ⟨bt, 0, none⟩)] w fun e w' => e = .returned (.bool false) ∧ Below w.heap.size w w' := by
  obtain ⟨A, c, rfl, hlc, hcm⟩ := h.open
  unfold maxLen at hcm
  have f1 := hbx.cell 1 (.slice A ns.length c) rfl
  have hz := hbx.lt
  obtain ⟨⟨k1, k2⟩, hl⟩ := hl
  rcases hl with rfl | ⟨j, m, rfl, hj, hp, m1, m2⟩
  · go_enter Try.func97, Try.ntmps97
    go_wp2
    refine wp_name ?_; intro W hW; have hbW : Below w.heap.size w W := (by rw [hW]; repeat (first | assumption | exact Below.refl _ _ | refine bdrawN ?_ _ | refine Below.drew ?_ | refine Below.alloc ?_ (by (try simp) <;> omega) _ | refine Below.setCell ?_ (by (try simp) <;> omega) _))
    clear hW
    refine wp_region_bel (by kernel_rfl) (by kernel_rfl) ?_; (repeat (go_big_quiet_step ((fail)))); refine wpQuiet_nil ?_; rintro _ ⟨⟨w2, hb2⟩, rfl⟩; (try dsimp only); have hb2 := hbW.trans (hb2.mono hbW.size)
    go_wp2
    go_ret
    exact ⟨rfl, hb2⟩
  · obtain ⟨b, o, rfl, hbb, hn0, hn1, hn2⟩ := h.node j m hj
    have hjl := (List.getElem?_eq_some_iff.1 hj).1
    have hj0 : (0 : Int) ≤ (j : Int) := by omega
    have hj1 : (j : Int) < (ns.length : Int) := by omega
    have hjn : ((j : Int) != -1) = true := by rw [bne_iff_ne]; omega
    have hp' : ¬ (pri n.key ≤ pri m.key) := by omega
    have hpd : decide (pri n.key ≤ pri m.key) = false := by simp; omega
    clear h hj hp
    go_enter Try.func97, Try.ntmps97
    go_wp2
    refine wp_name ?_; intro W hW; have hbW : Below w.heap.size w W := (by rw [hW]; repeat (first | assumption | exact Below.refl _ _ | refine bdrawN ?_ _ | refine Below.drew ?_ | refine Below.alloc ?_ (by (try simp) <;> omega) _ | refine Below.setCell ?_ (by (try simp) <;> omega) _))
    have d0 := Bel.cell (W := W) (a := ⟨w.heap.size, 0, none⟩) (v := .int .i64 n.key) (by rw [hW]; go_simp)
    have d1 := Bel.cell (W := W) (a := ⟨bt, 1, none⟩) (v := .slice (some ⟨b, o, none⟩) ns.length c) (by rw [hW]; go_simp)
    have d2 := Bel.cell (W := W) (a := ⟨b, o + j * 3, none⟩) (v := .int .i64 m.key) (by rw [hW]; go_simp)
    clear hW f1 hn0 hn1 hn2
    refine wp_region_bel (by kernel_rfl) (by kernel_rfl) ?_; (repeat (go_big_quiet_step ((go_at_call 98; exact Calls.bel_same (treap_Pri _ _ (by assumption) (by assumption)))))); refine wpQuiet_nil ?_; rintro _ ⟨⟨w2, hb2⟩, rfl⟩; (try dsimp only); have hb2 := hbW.trans (hb2.mono hbW.size)
    go_wp2
    go_ret
    exact ⟨rfl, hb2⟩

set_option maxHeartbeats 1600000 in
theorem treap_Right3 (ns : List Node) (n : Node) (root : Int) (v : Value) (bt bh : Nat) (w : World) (hl : Light ns n n.left) (hr : Light ns n n.right) (hbx : Box w bt #[.int .i64 root, v] 81) (hbh : Box w bh #[.func (.func 97) #[] #[.pointer (some ⟨bt, 0, none⟩)]] 123) (h : Row nodeE w w.heap.size v ns) :
    Calls Try.prog 100 #[.agg #[.int .i64 n.key, .int .i64 n.left, .int .i64 n.right], .pointer (some ⟨bh, 0, none⟩)] w fun e w' => e = .returned (.bool false) ∧ Below w.heap.size w w' := by
  have f0 := hbh.cell 0 _ rfl
  have hz := hbh.lt
  have H := hid h
  have HB := hid hbx
  have hl := hid hl
  have hr := hid hr
  have hbl0 := hid (show Below w.heap.size w (w.alloc (.cells #[.int .i64 n.key, .int .i64 n.left, .int .i64 n.right] 101)) from (Below.refl _ _).alloc (Nat.le_refl _) _)
  have hbn := hid (Box.new w #[.int .i64 n.key, .int .i64 n.left, .int .i64 n.right] 101)
  have tok1 : True := trivial
  go_enter Try.func100, Try.ntmps100
  go_wp2_with fail
  refine (treap_Right2 ns n n.left root v bt _ hl.out (HB.out.alloc _) (H.out.keep hbl0.out (by simp))).mono ?_
  rintro e w1 ⟨rfl, hb1⟩
  have hb1' := hid (hbl0.out.trans (hb1.mono (by simp)))
  have hbn1 := hid (hbn.out.keep hb1 (by simp))
  clear hb1
  have g0 := (hb1'.out.cell (p := ⟨bh, 0, none⟩) hz).trans f0
  have g1 := hbn1.out.cell 0 (.int .i64 n.key) rfl
  have g2 := hbn1.out.cell 1 (.int .i64 n.left) rfl
  have g3 := hbn1.out.cell 2 (.int .i64 n.right) rfl
  go_wp2_with fail
  refine (treap_Right2 ns n n.right root v bt _ hr.out (HB.out.keep hb1'.out HB.out.lt) (H.out.keep hb1'.out hb1'.out.size)).mono ?_
  rintro e w2 ⟨rfl, hb2⟩
  go_wp2
  go_ret
  exact ⟨rfl, hb1'.out.trans (hb2.mono hb1'.out.size)⟩

set_option maxHeartbeats 1600000 in
/-- No node is odd. -/
theorem slices_IndexNodes (ns : List Node) (root : Int) (v : Value) (bt bh : Nat) (w : World) (hl : ∀ n ∈ ns, Light ns n n.left ∧ Light ns n n.right) (hbx : Box w bt #[.int .i64 root, v] 81) (hbh : Box w bh #[.func (.func 97) #[] #[.pointer (some ⟨bt, 0, none⟩)]] 123) (h : Row nodeE w w.heap.size v ns) :
    Calls Try.prog 108 #[v, .func (.func 100) #[] #[.pointer (some ⟨bh, 0, none⟩)]] w fun e w' => e = .returned (.int .i64 (-1)) ∧ Below w.heap.size w w' := by
  obtain ⟨A, c, rfl, hlc, hcm⟩ := h.open
  unfold maxLen at hcm
  have H := hid h
  have HB := hid hbx
  have HH := hid hbh
  have hl := hid hl
  clear h hbx hbh
  go_enter Try.func108, Try.ntmps108
  go_wp2
  go_loopg [8] ns.length (fun g i wr => ∃ k : Nat, k + g = ns.length ∧ i = .int .i64 k ∧ Below w.heap.size w wr)
  case atStart => exact ⟨0, by omega, rfl, Below.refl _ _⟩
  case round =>
    obtain ⟨k, hk, rfl, hb⟩ := hrel
    cases gk with
    | zero =>
      have hkl : k = ns.length := by omega
      subst hkl
      go_wp2
      go_ret
      exact ⟨rfl, hb⟩
    | succ g =>
      have hlt : k < ns.length := by omega
      have hki : (k : Int) < (ns.length : Int) := by omega
      obtain ⟨b, o, rfl, hbb, hn0, hn1, hn2⟩ := (H.out.below hb).node k ns[k] (by simp [hlt])
      have hlk := hid (hl.out ns[k] (by simp))
      go_wp2_with (go_at_call 100; refine (treap_Right3 ns ns[k] root _ bt bh _ hlk.out.1 hlk.out.2 (HB.out.keep hb HB.out.lt) (HH.out.keep hb HH.out.lt) (H.out.keep hb hb.size)).mono ?_; rintro e w2 ⟨rfl, hb2⟩)
      go_roundg g
      case rel => exact ⟨k + 1, by omega, by go_num, hb.trans (hb2.mono hb.size)⟩
      case measure => omega

theorem slices_ContainsNodes (ns : List Node) (root : Int) (v : Value) (bt bh : Nat) (w : World) (hl : ∀ n ∈ ns, Light ns n n.left ∧ Light ns n n.right) (hbx : Box w bt #[.int .i64 root, v] 81) (hbh : Box w bh #[.func (.func 97) #[] #[.pointer (some ⟨bt, 0, none⟩)]] 123) (h : Row nodeE w w.heap.size v ns) :
    Calls Try.prog 99 #[v, .func (.func 100) #[] #[.pointer (some ⟨bh, 0, none⟩)]] w fun e w' => e = .returned (.bool false) ∧ Below w.heap.size w w' := by
  have H := hid (slices_IndexNodes ns root v bt bh w hl hbx hbh h)
  clear hl hbx hbh h
  go_enter Try.func99, Try.ntmps99
  go_wp2_with (go_at_call 108; refine H.out.mono ?_; rintro e w2 ⟨rfl, hb2⟩)
  go_ret
  exact ⟨rfl, hb2⟩

theorem root_key : ∀ {t : T} {ns : List Node}, Rep ns t → t.root = -1 ∨ ∃ (j : Nat) (m : Node), t.root = (j : Int) ∧ ns[j]? = some m ∧ m.key ∈ t.keys
  | .nil, _, _ => .inl rfl
  | .node i k l r, _, ⟨h1, _, _⟩ => .inr ⟨i, _, rfl, h1, by simp [T.keys]⟩

theorem light_all {ns : List Node} : ∀ {t : T}, Rep ns t → t.heap → (∀ k ∈ t.keys, 0 ≤ k ∧ k ≤ 4294967295) → ∀ i ∈ t.idx, ∃ n, ns[i]? = some n ∧ Light ns n n.left ∧ Light ns n n.right
  | .nil, _, _, _, i, hi => by simp [T.idx] at hi
  | .node j k l r, ⟨h1, h2, h3⟩, ⟨p1, p2, p3, p4⟩, hk, i, hi => by
    simp only [T.idx, List.mem_cons, List.mem_append] at hi
    have hkk := hk k (by simp [T.keys])
    rcases hi with rfl | hi | hi
    · refine ⟨_, h1, ⟨hkk, ?_⟩, ⟨hkk, ?_⟩⟩
      · rcases root_key h2 with e | ⟨q, m, e, hq, hm⟩
        · exact .inl e
        · exact .inr ⟨q, m, e, hq, p1 _ hm, hk _ (by simp [T.keys, hm])⟩
      · rcases root_key h3 with e | ⟨q, m, e, hq, hm⟩
        · exact .inl e
        · exact .inr ⟨q, m, e, hq, p2 _ hm, hk _ (by simp [T.keys, hm])⟩
    · exact light_all h2 p3 (fun x hx => hk x (by simp [T.keys, hx])) i hi
    · exact light_all h3 p4 (fun x hx => hk x (by simp [T.keys, hx])) i hi

theorem nodup_le : ∀ (n : Nat) (l : List Nat), l.Nodup → (∀ x ∈ l, x < n) → l.length ≤ n
  | 0, l, _, h => by
    cases l with
    | nil => simp
    | cons x r => have := h x (by simp); omega
  | n + 1, l, hn, h => by
    have h1 := nodup_le n (l.filter (fun x => decide (x ≠ n))) (hn.filter _) (fun x hx => by
      rw [List.mem_filter] at hx
      have := h x hx.1
      have h2 : x ≠ n := by simpa using hx.2
      omega)
    have h2 : ∀ (l : List Nat), l.Nodup → l.length ≤ (l.filter (fun x => decide (x ≠ n))).length + 1 := by
      intro l
      induction l with
      | nil => intro _; simp
      | cons x r ih =>
        intro hx
        rw [List.nodup_cons] at hx
        by_cases e : x = n
        · subst e
          have : r.filter (fun y => decide (y ≠ x)) = r := List.filter_eq_self.2 fun y hy => by simp; intro e; subst e; exact hx.1 hy
          rw [List.filter_cons]
          simp only [ne_eq, not_true_eq_false, decide_false, Bool.false_eq_true, if_false, List.length_cons]
          simp only [ne_eq] at this
          rw [this]; omega
        · rw [List.filter_cons]
          simp only [ne_eq, e, not_false_eq_true, decide_true, if_true, List.length_cons]
          have := ih hx.2
          simp only [ne_eq] at this
          omega
    have := h2 l hn
    omega

theorem TreeOk.light {ns : List Node} {t : T} (h : TreeOk ns t) : ∀ n ∈ ns, Light ns n n.left ∧ Light ns n n.right := by
  intro n hn
  obtain ⟨j, hj, rfl⟩ := List.getElem_of_mem hn
  have hm : j ∈ t.idx := by
    by_cases hm : j ∈ t.idx
    · exact hm
    · have := nodup_le ns.length (j :: t.idx) (List.nodup_cons.2 ⟨hm, h.nodup⟩) (fun x hx => by
        rcases List.mem_cons.1 hx with rfl | hx
        · exact hj
        · exact h.rep.lt x hx)
      rw [List.length_cons, h.len] at this
      omega
  obtain ⟨n, hn, hl⟩ := light_all h.rep h.heap h.isk j hm
  rw [List.getElem?_eq_getElem hj] at hn
  obtain rfl := Option.some.inj hn
  exact hl

/-- The first see's invariant: the last key, and that they rise. -/
def Rises (br bl : Nat) (ks : List Int) (pre : List Int) (W : World) : Prop :=
  Box W br #[.bool true] 4 ∧ ∃ last, Box W bl #[.int .i64 last] 3 ∧ ∀ k post, pre ++ k :: post = ks → last < k

theorem sorted_mid {pre post : List Int} {a : Int} (h : (pre ++ a :: post).Pairwise (· < ·)) : ∀ b ∈ post, a < b := by
  rw [List.pairwise_append, List.pairwise_cons] at h
  exact h.2.1.1
end Go.Proofs.Ytbbkgibopicaeaa
