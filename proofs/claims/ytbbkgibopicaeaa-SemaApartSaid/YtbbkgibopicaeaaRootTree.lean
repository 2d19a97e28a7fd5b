/- Layer 9 of the program: a root's addresses in a tree. -/
import Derived.Test.YtbbkgibopicaeaaRootSeq
import Derived.Test.YtbbkgibopicaeaaTreapBad
namespace Go.Proofs.Ytbbkgibopicaeaa
set_option linter.unusedVariables false
set_option linter.unusedSimpArgs false
open Go.RowKit Go.Shelf
attribute [local go_sem] Oper.semAt_some

/-- What the loop has made of those that have come: a tree of them; of one that came twice, none. -/
def TreeIs (bo : Nat) (pre : List Come) (W : World) : Prop :=
  ((pre.map (·.addr)).Nodup ∧ ∃ ns T A c, Box W bo #[.int .i64 T.root, .slice A (List.length ns) c] 81 ∧ TreeOk ns T ∧ Row nodeE W W.heap.size (.slice A (List.length ns) c) ns ∧ (∀ k, k ∈ T.keys ↔ k ∈ pre.map (·.addr)) ∧ ns.length = pre.length ∧ ∀ g, (Value.slice A (List.length ns) c).ownBlock = some g → bo ≤ g) ∨
  (¬ (pre.map (·.addr)).Nodup ∧ Box W bo #[.int .i64 0, .slice none 0 0] 81)

theorem box_grown {W W' : World} {row : Option Nat} {b : Nat} {cs : Array Value} {t : TypeId} (h : Box W b cs t) (hg : W.grownBy W' row) (hr : ∀ r, row = some r → ∃ o : Obj, W.heap[r]? = some o ∧ o.isCells = false) : Box W' b cs t := by
  refine (hg.block b h.lt ?_).trans h
  intro e
  obtain ⟨o, h1, h2⟩ := hr b e.symm
  rw [show W.heap[b]? = some (.cells cs t (0, 0)) from h] at h1
  cases h1
  cases h2

theorem nodes_grown {W W' : World} {row : Option Nat} {B B' : Nat} {v : Value} {ns : List Node} (h : Row nodeE W B v ns) (hB : B ≤ B') (hg : W.grownBy W' row) (hr : ∀ r, row = some r → ∃ o : Obj, W.heap[r]? = some o ∧ o.isCells = false) : Row nodeE W' B' v ns := by
  obtain ⟨A, c, rfl, h2, h3, h4, h5⟩ := h
  refine ⟨A, c, rfl, h2, h3, h4, fun i x hx => ?_⟩
  obtain ⟨b, o, cs, rfl, g2, g3, g4⟩ := h5 i x hx
  refine ⟨b, o, cs, rfl, by omega, g3, fun j u hu => cell_kept (g4 j u hu) hg hr⟩

theorem box_own (b : Nat) (cs : Array Value) (t : TypeId) : _root_.Go.Own (fun (_ : List Come) W => Box W b cs t) := fun _ _ _ _ h hg hr => box_grown h hg hr

theorem treeIs_own (bo : Nat) : _root_.Go.Own (TreeIs bo) := by
  intro pre W W' row h hg hr
  rcases h with ⟨h0, ns, T, A, c, h1, h2, h3, h4, h5⟩ | ⟨h0, h1⟩
  · exact .inl ⟨h0, ns, T, A, c, box_grown h1 hg hr, h2, nodes_grown h3 hg.size hg hr, h4, h5⟩
  · exact .inr ⟨h0, box_grown h1 hg hr⟩

theorem insKeys_len (key : Int) (ks : List Int) : (insKeys key ks).length = ks.length + 1 := by
  unfold insKeys
  induction ks with
  | nil => rfl
  | cons k r ih =>
    by_cases h : k < key
    · simp only [List.filter_cons, h, decide_true, if_true, Bool.not_true] at ih ⊢
      simp at ih ⊢
      omega
    · simp only [List.filter_cons, h, decide_false, Bool.not_false, if_true] at ih ⊢
      simp at ih ⊢
      omega

theorem sorted_ext : ∀ (a b : List Int), a.Pairwise (· < ·) → b.Pairwise (· < ·) → (∀ k, k ∈ a ↔ k ∈ b) → a = b
  | [], [], _, _, _ => rfl
  | [], y :: b, _, _, h => by have := (h y).2 (by simp); simp at this
  | x :: a, [], _, _, h => by have := (h x).1 (by simp); simp at this
  | x :: a, y :: b, h1, h2, h => by
    rw [List.pairwise_cons] at h1 h2
    have e : x = y := by
      have hx := (h x).1 (by simp)
      have hy := (h y).2 (by simp)
      simp only [List.mem_cons] at hx hy
      rcases hx with hx | hx
      · exact hx
      · rcases hy with hy | hy
        · exact hy.symm
        · have := h2.1 x hx; have := h1.1 y hy; omega
    subst e
    refine congrArg (x :: ·) (sorted_ext a b h1.2 h2.2 fun k => ⟨fun hk => ?_, fun hk => ?_⟩)
    · have := (h k).1 (by simp [hk])
      simp only [List.mem_cons] at this
      rcases this with rfl | h'
      · exact absurd (h1.1 k hk) (by omega)
      · exact h'
    · have := (h k).2 (by simp [hk])
      simp only [List.mem_cons] at this
      rcases this with rfl | h'
      · exact absurd (h2.1 k hk) (by omega)
      · exact h'

theorem tabUnder_sorted {t : List Spot} (h : TabOk t) (root : Int) : (tabUnder t root).Pairwise (· < ·) := by
  unfold tabUnder
  rw [List.pairwise_map]
  refine List.Pairwise.imp_of_mem ?_ (h.rise.filter _)
  intro a b ha hb hab
  simp only [List.mem_filter, decide_eq_true_eq] at ha hb
  rw [addrLess_iff] at hab
  omega

theorem come_keys {xs : List Come} {t : List Spot} (root : Int) (h : xs.map (·.addr) = t.map (·.addr)) : (xs.filter (rootIs root)).map (·.addr) = tabUnder t root := by
  have e1 : (xs.filter (rootIs root)).map (·.addr) = (xs.map (·.addr)).filter (fun a => decide (rootOf a = root)) := by
    rw [List.filter_map]
    congr 1
  rw [e1, h, List.filter_map]
  rfl

/-- What a round leaves as it was. -/
theorem close_keeps {W w2 : World} {B n₁ bo : Nat} {a b : Value} (hb : Below W.heap.size W w2) (hn : n₁ ≤ W.heap.size) :
    KeepsFrom B W ((w2.setCell ⟨bo, 0, none⟩ a).setCell ⟨bo, 1, none⟩ b) ∧ KeepBut n₁ bo W ((w2.setCell ⟨bo, 0, none⟩ a).setCell ⟨bo, 1, none⟩ b) := by
  refine ⟨((KeepsOthers.of_grownBy (row := none) ⟨hb.os, hb.tape, hb.output, hb.size, fun k hk _ => hb.block k hk⟩ (by simp)).trans ((KeepsOthers.setCell _ _ _).trans (KeepsOthers.setCell _ _ _))).from _, ?_, fun k h1 h2 => ?_⟩
  · have := hb.size
    simpa [World.setCell] using this
  · rw [Below.heap_setCell _ _ _ k (by exact h2), Below.heap_setCell _ _ _ k (by exact h2)]
    exact hb.block k (by omega)

/-- What tree answers. -/
def TreePost (t : List Spot) (root : Int) (w : World) (e : Ending) (w' : World) : Prop :=
  ∃ ns T v, e = .returned (.agg #[.int .i64 T.root, v]) ∧ TreeOk ns T ∧ T.keys = tabUnder t root ∧ Row nodeE w' w'.heap.size v ns ∧ Below w.heap.size w w'

set_option maxRecDepth 100000 in
set_option maxHeartbeats 8000000 in
theorem root_tree (t : List Spot) (v : Value) (root : Int) (w : World) (hT : tabRight t = true) (h : Row spotE w w.heap.size v t) :
    Calls Try.prog 54 #[v, .int .i64 root] w (TreePost t root w) := by
  obtain ⟨A, c, rfl, hlc, hcm⟩ := h.open
  unfold maxLen at hcm
  refine (callsIn_wide (n := 8)).1 ?_
  refine callsIn_of_wp_marks Try.func54 rfl trivial ?_ rfl
  simp only [Try.ntmps54, List.size_toArray, List.length_cons, List.length_nil, Nat.reduceAdd, Nat.reduceSub, Array.replicate_succ, Array.replicate_zero, List.push_toArray, List.append_toArray, List.nil_append, List.cons_append]
  have H := hid h
  clear h
  gi_wp2_with (first
    | (refine ⟨trivial, ?_⟩; gi_at_call 80; refine (callsIn_wide.2 (treap_New _)).mono ?_; rintro e w1 ⟨rfl, hb1⟩)
    | (refine ⟨trivial, ?_⟩; gi_at_call 81; refine (callsIn_wide.2 (root_under A t.length c root _)).mono ?_; rintro e w2 ⟨rfl, rfl⟩))
  have hz1 : w.heap.size + 1 ≤ w1.heap.size := by simpa using hb1.size
  have hbw1 := hid (show Below w.heap.size w w1 from ((Below.refl _ _).alloc (Nat.le_refl _) _).trans (hb1.mono (by simp)))
  have br1 := hid (show Box w1 w.heap.size #[.int .i64 0, .slice none 0 0] 81 from (Box.new w _ _).keep hb1 (by simp))
  have hr := hid ((tabRight_iff t).1 hT)
  have hrow := hid (H.out.keep hbw1.out hbw1.out.size)
  obtain ⟨xs, hx1, hx2, hx3⟩ := comes_of_row hrow.out (fun s hs => (isAddr_iff _).2 (spotRight_addr (hr.out.each s hs).1))
  obtain ⟨W0, hW0⟩ : ∃ W0, ((w1.alloc (.cells #[.int .i64 (-1), .slice none 0 0] 81)).alloc (.cells #[.slice A t.length c] 33)).alloc (.cells #[.int .i64 root] 3) = W0 := ⟨_, rfl⟩
  rw [hW0]
  have hsz : W0.heap.size = w1.heap.size + 3 := by rw [← hW0]; simp
  have hb0 : Below w1.heap.size w1 W0 := by rw [← hW0]; exact (((Below.refl _ _).alloc (Nat.le_refl _) _).alloc (by simp) _).alloc (by simp; omega) _
  have bo0 : Box W0 w1.heap.size #[.int .i64 (-1), .slice none 0 0] 81 := by rw [← hW0]; exact ((Box.new w1 _ _).alloc _).alloc _
  have bt0 : Box W0 (w1.heap.size + 1) #[.slice A t.length c] 33 := by rw [← hW0]; exact (boxAt _ _ (by simp) _ _).alloc _
  have br0 : Box W0 (w1.heap.size + 1 + 1) #[.int .i64 root] 3 := by rw [← hW0]; exact boxAt _ _ (by simp) _ _
  have hbwW := hbw1.out.trans (hb0.mono (by omega))
  clear hW0
  refine wpIn_rangeFunc_ownH (F := Fence.wide) (n := 8) (α := Come) rfl (by omega) (gf := 101) (lb := #[.pointer (some ⟨w1.heap.size + 1, 0, none⟩), .pointer (some ⟨w1.heap.size + 1 + 1, 0, none⟩)]) rfl trivial (enters_of Try.func101 (by kernel_rfl) rfl)
    (root_seq 7 (by omega) (w1.heap.size + 1) (w1.heap.size + 1 + 1) (w1.heap.size + 3) w1.heap.size t.length c root A xs hx3 W0 (bt0.cell 0 _ rfl) (br0.cell 0 _ rfl) (by omega) (by omega) (by omega) (by omega) (by omega) w1.heap.size (Nat.le_refl _) (by omega)
      (fun j x hj => by
        obtain ⟨b, o, e, h1, h2, h3, h4⟩ := hx2 j x hj
        exact ⟨b, o, e, h1, (hb0.cell (p := ⟨b, _, none⟩) h1).trans h2, (hb0.cell (p := ⟨b, _, none⟩) h1).trans h3, (hb0.cell (p := ⟨b, _, none⟩) h1).trans h4⟩))
    KeepBut.trans (fun W l o o' hl _ _ _ => ⟨by simp, fun k h1 _ => World.putObj_heap_other (by omega)⟩) (Below.refl _ _) (fun _ => rfl)
    (fun pre W => ((TreeIs w1.heap.size pre W ∧ Box W w.heap.size #[.int .i64 0, .slice none 0 0] 81) ∧ w1.heap.size + 3 ≤ W.heap.size) ∧ Below w.heap.size w W)
    (fun _ _ _ => False)
    (OwnFrom.and (OwnFrom.and (OwnFrom.and (Own.from (treeIs_own _) _) (Own.from (box_own _ _ _) _)) (fun _ _ _ _ h hg _ => Nat.le_trans h hg.size)) (ownFrom_below (Nat.le_refl _) (by omega)))
    (fun _ _ _ _ _ hs _ _ => hs)
    ⟨⟨⟨.inl ⟨by simp, [], .nil, none, 0, bo0, ⟨trivial, by simp [T.idx], rfl, by simp, by simp [T.keys], by simp [T.keys], trivial⟩, Row.nil _ _ _, by simp [T.keys], rfl, fun g h => by simp [Value.ownBlock] at h⟩, br1.out.keep hb0 (by omega)⟩, by omega⟩, hbwW⟩
    (fun x a' W => ∃ Bx, w1.heap.size + 1 + 1 < Bx ∧ Box W Bx #[.int .i64 x.addr, .int .i64 x.count, .slice x.A x.n x.c] 42 ∧ a' = { tmps := #[.slice A t.length c, .int .i64 root, undef, undef, .pointer (some ⟨w.heap.size, 0, none⟩), .pointer (some ⟨w1.heap.size, 0, none⟩), .pointer (some ⟨Bx, 0, none⟩), .agg #[.int .i64 (-1), .slice none 0 0], .slice A t.length c, .int .i64 root, .func (.func 101) #[] #[.pointer (some ⟨w1.heap.size + 1, 0, none⟩), .pointer (some ⟨w1.heap.size + 1 + 1, 0, none⟩)], .agg #[.int .i64 x.addr, .int .i64 x.count, .slice x.A x.n x.c], undef, undef, undef, undef, undef, undef, undef, undef], defers := [] })
    (fun x a' _ X Y row hs hg hr => by obtain ⟨Bx, h1, h2, h3⟩ := hs; exact ⟨Bx, h1, box_grown h2 hg (fun r e => (hr r e).2), h3⟩)
    ?assign ?body ?done ?stop
  case assign =>
    rintro l pre x W K ⟨⟨⟨hT1, hR1⟩, hS1⟩, hB1⟩ hK
    have hT2 := hid ((treeIs_own w1.heap.size).alloc (.cells #[.int .i64 x.addr, .int .i64 x.count, .slice x.A x.n x.c] 42) hT1)
    have hsW := hid hB1.size
    dsimp only [Come.args]
    gi_wp2
    exact hK _ _ ((KeepsOthers.alloc _ _).from _) ((KeepBut.refl _ _ W).alloc hS1 _) ⟨⟨⟨hT2.out, hR1.alloc _⟩, by simp; omega⟩, hB1.alloc hB1.size _⟩ ⟨W.heap.size, by omega, Box.new W _ _, rfl⟩
  case body =>
    rintro l pre x a' W hl ⟨r, hr'⟩ ⟨⟨⟨hT1, hR1⟩, hS1⟩, hB1⟩ ⟨Bx, hBx, bX, rfl⟩ hlt
    have hlt64 : pre.length < 64 := by
      have h1 : (xs.filter (rootIs root)).length ≤ xs.length := List.length_filter_le _ _
      have h2 := hr.out.len
      omega
    have x0 := bX.cell 0 _ rfl
    have hsW := hB1.size
    have hxok := x.ok
    have hxz := bX.lt
    rcases hT1 with ⟨hnd, ns, T, A1, c1, hbo, hok, hrw, hks, hln', hfr⟩ | ⟨hnd, hbo⟩
    · have hln := hid hln'
      clear hln'
      have o0 := hbo.cell 0 _ rfl
      have o1 := hbo.cell 1 _ rfl
      have oz := hbo.lt
      by_cases hin : x.addr ∈ T.keys
      · have hPut := hid (treap_Put_dup ns T _ x.addr W hok hrw hxok hin)
        clear hok hrw
        have hbo := hid hbo
        gi_wp2_with (refine ⟨trivial, ?_⟩; gi_at_call 82; refine (CallsIn.inRound l (callsIn_wide.2 hPut.out)).mono ?_; rintro e w2 ⟨rfl, hb2⟩; have hb2 := hid hb2; have bo2 := hid (hbo.out.keep hb2.out oz); have p0 := bo2.out.cell 0 _ rfl; have p1 := bo2.out.cell 1 _ rfl; have p2 := bo2.out.frozen 0; have p3 := bo2.out.frozen 1)
        obtain ⟨k1, k2⟩ := close_keeps (B := W0.heap.size) (n₁ := w1.heap.size + 3) (bo := w1.heap.size) (a := .int .i64 0) (b := .slice none 0 0) hb2.out hS1
        refine ⟨k1, k2, ⟨⟨.inr ⟨?_, (bo2.out.set 0 _).set 1 _⟩, ?_⟩, ?_⟩, ?_⟩
        · intro h
          rw [List.map_append, List.nodup_append] at h
          exact h.2.2 _ ((hks _).1 hin) x.addr (by simp) rfl
        · exact ((hR1.keep hb2.out hR1.lt).setOther (by show _ ≠ w1.heap.size; omega) _).setOther (by show _ ≠ w1.heap.size; omega) _
        · have := k2.1
          omega
        · exact ((hB1.trans (hb2.out.mono hB1.size)).setCell (p := ⟨w1.heap.size, 0, none⟩) (by show _ ≤ w1.heap.size; omega) _).setCell (p := ⟨w1.heap.size, 1, none⟩) (by show _ ≤ w1.heap.size; omega) _
      · have hPut := hid (treap_Put ns T _ x.addr W hok hrw hxok hin (by have := hln.out; omega))
        have hins := hid (ins_ok hok ((isAddr_iff _).1 hxok) hin (by have := hln.out; omega))
        have hTl : T.keys.length = ns.length := by rw [← idx_keys]; exact hok.len
        clear hok hrw
        have hbo := hid hbo
        have hks := hid hks
        have hTl := hid hTl
        gi_wp2_with (refine ⟨trivial, ?_⟩; gi_at_call 82; refine (CallsIn.inRound l (callsIn_wide.2 hPut.out)).mono ?_; rintro e w2 ⟨v2, rfl, hrow2, hb2, hg2⟩; have hb2 := hid hb2; have hg2 := hid hg2; have hrow2 := hid hrow2; obtain ⟨A2, c2, rfl, _, _⟩ := hrow2.out.open; have bo2 := hid (hbo.out.keep hb2.out oz); have p0 := bo2.out.cell 0 _ rfl; have p1 := bo2.out.cell 1 _ rfl; have p2 := bo2.out.frozen 0; have p3 := bo2.out.frozen 1)
        obtain ⟨k1, k2⟩ := close_keeps (B := W0.heap.size) (n₁ := w1.heap.size + 3) (bo := w1.heap.size) (a := .int .i64 (ins ns.length x.addr T).root) (b := .slice A2 (insNs x.addr T ns).length c2) hb2.out hS1
        refine ⟨k1, k2, ⟨⟨.inl ⟨?_, insNs x.addr T ns, ins ns.length x.addr T, A2, c2, (bo2.out.set 0 _).set 1 _, hins.out.1, ?_, ?_, ?_, fun g hg => by have := hg2.out g hg; omega⟩, ?_⟩, ?_⟩, ?_⟩
        · rw [List.map_append, List.nodup_append]
          refine ⟨hnd, by simp, ?_⟩
          intro a ha b hb e
          simp at hb
          subst hb
          subst e
          exact hin ((hks.out _).2 ha)
        · have hbut : But (fun k => k = w1.heap.size) w2 ((w2.setCell ⟨w1.heap.size, 0, none⟩ (.int .i64 (ins ns.length x.addr T).root)).setCell ⟨w1.heap.size, 1, none⟩ (.slice A2 (insNs x.addr T ns).length c2)) := ((But.refl (fun k => k = w1.heap.size) w2).set (p := ⟨w1.heap.size, 0, none⟩) rfl _).set (p := ⟨w1.heap.size, 1, none⟩) rfl _
          exact (Row.nodes_but hrow2.out hbut (Nat.le_refl _) (fun g _ hg e => by have := hg2.out g hg; omega)).keep (Below.refl _ _) (by simp [World.setCell])
        · intro k
          rw [hins.out.2.1, mem_insKeys, hks.out]
          simp
          exact or_comm
        · rw [← hins.out.1.len, idx_keys, hins.out.2.1, insKeys_len, hTl.out, hln.out]
          simp
        · exact ((hR1.keep hb2.out hR1.lt).setOther (by show _ ≠ w1.heap.size; omega) _).setOther (by show _ ≠ w1.heap.size; omega) _
        · have := k2.1
          omega
        · exact ((hB1.trans (hb2.out.mono hB1.size)).setCell (p := ⟨w1.heap.size, 0, none⟩) (by show _ ≤ w1.heap.size; omega) _).setCell (p := ⟨w1.heap.size, 1, none⟩) (by show _ ≤ w1.heap.size; omega) _
    · have o0 := hbo.cell 0 _ rfl
      have o1 := hbo.cell 1 _ rfl
      have oz := hbo.lt
      have hPut := hid (treap_Put_bad x.addr W)
      have hbo := hid hbo
      gi_wp2_with (refine ⟨trivial, ?_⟩; gi_at_call 82; refine (CallsIn.inRound l (callsIn_wide.2 hPut.out)).mono ?_; rintro e w2 ⟨rfl, hb2⟩; have hb2 := hid hb2; have bo2 := hid (hbo.out.keep hb2.out oz); have p0 := bo2.out.cell 0 _ rfl; have p1 := bo2.out.cell 1 _ rfl; have p2 := bo2.out.frozen 0; have p3 := bo2.out.frozen 1)
      obtain ⟨k1, k2⟩ := close_keeps (B := W0.heap.size) (n₁ := w1.heap.size + 3) (bo := w1.heap.size) (a := .int .i64 0) (b := .slice none 0 0) hb2.out hS1
      refine ⟨k1, k2, ⟨⟨.inr ⟨?_, (bo2.out.set 0 _).set 1 _⟩, ?_⟩, ?_⟩, ?_⟩
      · intro h
        rw [List.map_append, List.nodup_append] at h
        exact hnd h.1
      · exact ((hR1.keep hb2.out hR1.lt).setOther (by show _ ≠ w1.heap.size; omega) _).setOther (by show _ ≠ w1.heap.size; omega) _
      · have := k2.1
        omega
      · exact ((hB1.trans (hb2.out.mono hB1.size)).setCell (p := ⟨w1.heap.size, 0, none⟩) (by show _ ≤ w1.heap.size; omega) _).setCell (p := ⟨w1.heap.size, 1, none⟩) (by show _ ≤ w1.heap.size; omega) _
  case done =>
    rintro D ys W hD rfl ⟨⟨⟨hT1, hR1⟩, hS1⟩, hB1⟩ hK
    have hkeys := hid (show (xs.filter (rootIs root)).map (·.addr) = tabUnder t root from come_keys root hx1)
    rcases hT1 with ⟨hnd, ns, T, A1, c1, hbo, hok, hrw, hks, hln', hfr⟩ | ⟨hnd, hbo⟩
    · clear hln'
      have o0 := hbo.cell 0 _ rfl
      have o1 := hbo.cell 1 _ rfl
      have p0 := hR1.cell 0 _ rfl
      have p1 := hR1.cell 1 _ rfl
      have p2 := hR1.frozen 0
      have p3 := hR1.frozen 1
      have hks := hid hks
      have hok := hid hok
      have hrw := hid hrw
      have hR1 := hid hR1
      have hkD := hid ((KeepsOthers.trans (KeepsOthers.setCell W ⟨w.heap.size, 0, none⟩ (.int .i64 T.root)) (KeepsOthers.setCell _ ⟨w.heap.size, 1, none⟩ (.slice A1 ns.length c1))).same D _ hK rfl)
      have hbut : But (fun k => k = w.heap.size) W ((W.setCell ⟨w.heap.size, 0, none⟩ (.int .i64 T.root)).setCell ⟨w.heap.size, 1, none⟩ (.slice A1 ns.length c1)) := ((But.refl (fun k => k = w.heap.size) W).set (p := ⟨w.heap.size, 0, none⟩) rfl _).set (p := ⟨w.heap.size, 1, none⟩) rfl _
      have hrw9 := hid (Row.nodes_but hrw.out hbut (Nat.le_refl _) (fun g _ hg e => by have := hfr g hg; omega))
      have hR9 := hid ((hR1.out.set 0 (.int .i64 T.root)).set 1 (.slice A1 ns.length c1))
      have hB9 := hid ((hB1.setCell (p := ⟨w.heap.size, 0, none⟩) (Nat.le_refl _) (.int .i64 T.root)).setCell (p := ⟨w.heap.size, 1, none⟩) (Nat.le_refl _) (.slice A1 ns.length c1))
      have hs9 : ((W.setCell ⟨w.heap.size, 0, none⟩ (.int .i64 T.root)).setCell ⟨w.heap.size, 1, none⟩ (.slice A1 ns.length c1)).heap.size = W.heap.size := by simp [World.setCell]
      clear hbut
      gi_wp2
      generalize ((W.setCell ⟨w.heap.size, 0, none⟩ (.int .i64 T.root)).setCell ⟨w.heap.size, 1, none⟩ (.slice A1 ns.length c1)) = W9 at *
      have hgr := grownBy_putObj' W9 D (.deferred none)
      have hgc : ∀ r, some D = some r → ∃ o : Obj, W9.heap[r]? = some o ∧ o.isCells = false := fun r e => by cases e; exact ⟨_, hkD.out, rfl⟩
      have hR10 := box_grown hR9.out hgr hgc
      have c0 := hR10.cell 0 _ rfl
      have c1' := hR10.cell 1 _ rfl
      refine ⟨by simp, .inl ⟨_, _, rfl, run_takeDeferred hkD.out, ?_⟩⟩
      refine ⟨.agg #[.int .i64 T.root, .slice A1 ns.length c1], by simp [results, Try.results54, go_sem, c0, c1'], ns, T, _, rfl, hok.out, ?_, nodes_grown hrw9.out (by simp; omega) hgr hgc, hB9.out.trans (belowK_b (w := w) (Nat.le_refl _) W9 D _ _ (by omega) hkD.out rfl rfl)⟩
      refine sorted_ext _ _ hok.out.sorted (tabUnder_sorted hr.out root) fun k => ?_
      rw [hks.out, hkeys.out]
    · refine absurd ?_ hnd
      rw [hkeys.out]
      exact (tabUnder_sorted hr.out root).imp (fun h => by omega)
  case stop =>
    rintro D c pre W _ _ h _
    exact h.elim
end Go.Proofs.Ytbbkgibopicaeaa
