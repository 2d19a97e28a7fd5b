/- Layer 9 of the program: a spot is put among spots of one's own. -/
import Derived.Test.YtbbkgibopicaeaaRootDel
import Derived.Lib.AppendZerosOnto
import Derived.Lib.Overlaps
import Derived.Laws.Externs
import Derived.Deep.RegionLaw
namespace Go.Proofs.Ytbbkgibopicaeaa
set_option linter.unusedVariables false
set_option linter.unusedSimpArgs false
open Go.RowKit

section
variable {P : Program} {w : World} {ops : Array Oper} {rest : List Oper} {o : Oper} {a : Act} {K : Act → World → Prop} {Q : Exit → Act → World → Prop}

theorem wp_copy_eq (d s : Operand) (t t' : TypeId) (ho : o.op = .call { callee := .builtin .copy, args := #[d, s], argTypes := #[t, t'] }) (v u : Value) (hd : a.eval d = v) (hs : a.eval s = u) {v' : Value} {w' : World}
    (hr : (Builtin.copy_ #[t, t'] o.type #[v, u]).run P w = .ok v' w') (h : K (a.put o.dst v') w') : o.wp P a w K Q := by
  unfold Oper.wp execOp
  simp only [ho, resolve, invoke, builtin, Sem.run_bind, Sem.run_pure, Result.andThen_ok, List.map_toArray, List.map_cons, List.map_nil, hd, hs, hr]
  exact h

theorem wpList_copy_eq (hgd : o.guard = none) (d s : Operand) (t t' : TypeId) (ho : o.op = .call { callee := .builtin .copy, args := #[d, s], argTypes := #[t, t'] }) (v u : Value) (hd : a.eval d = v) (hs : a.eval s = u) {v' : Value} {w' : World}
    (hr : (Builtin.copy_ #[t, t'] o.type #[v, u]).run P w = .ok v' w') (h : wpList P ops Q rest (a.put o.dst v') w') : wpList P ops Q (o :: rest) a w :=
  wpList_plain hgd fun _ hK => wp_copy_eq d s t t' ho v u hd hs hr (hK _ _ h)

theorem step_copy_eq {E : Prop} (hg : o.guard = none) (d x : Operand) (dT sT : TypeId) (hop : o.op = Op.call { callee := Callee.builtin Builtin.copy, args := #[d, x], argTypes := #[dT, sT] })
    (v u : Value) (hd : a.eval d = v) (hx : a.eval x = u) {v' : Value} {w' : World} (hr : (Builtin.copy_ #[dT, sT] o.type #[v, u]).run P w = .ok v' w') (hK : K (a.put o.dst v') w') :
    if Region.wanted o (yielded ops a.tmps) = true then Oper.wp P o a w K Q else E := by
  have hw : Region.wanted o (yielded ops a.tmps) = true := by simp [Region.wanted, hg]
  rw [if_pos hw]
  exact wp_copy_eq d x dT sT hop v u hd hx hr hK
end

theorem size_spot : (Try.prog.info? 42).map (·.size) = some 3 := by kernel_rfl

/-- What a row with one more in it is, as cells. -/
theorem own_ins {w w' : World} {base g c i : Nat} {t : List Spot} {x : Spot} {css : List (List Value)} {xs : List Value} {cur : Array Value} (h1 : css.length = t.length) (h2 : ∀ (j : Nat) y cs, t[j]? = some y → css[j]? = some cs → spotE.ok w base y cs) (hi : i ≤ t.length)
    (hx : spotE.ok w base x xs) (hb : Below base w w') (hg : base ≤ g) (hbx : Box w' g cur 42) (hc : t.length + 1 ≤ c) (hm : c ≤ maxLen) (hs : cur.size = c * 3)
    (ht : cur.toList.take ((t.length + 1) * 3) = (css.flatten).take (i * 3) ++ xs ++ (css.flatten).drop (i * 3)) :
    Own spotE 42 w' base (.slice (some ⟨g, 0, none⟩) (t.length + 1) c) (t.take i ++ x :: t.drop i) := by
  have hall := ok_of_all h1 h2
  have hl : (t.take i ++ x :: t.drop i).length = t.length + 1 := by simp; omega
  have hdrop : ∀ (css : List (List Value)), (∀ cs ∈ css, cs.length = 3) → ∀ i, (css.drop i).flatten = css.flatten.drop (i * 3) := by
    intro css
    induction css with
    | nil => intro _ i; simp
    | cons cs css ih =>
      intro hc i
      cases i with
      | zero => simp
      | succ i =>
        have h3 := hc cs (by simp)
        rw [List.drop_succ_cons, ih (fun c h => hc c (by simp [h])), List.flatten_cons, show (i + 1) * 3 = cs.length + i * 3 by omega, ← List.drop_drop, List.drop_left]
  have key := own_close (E := spotE) (e := 42) (base := base) (g := g) (c := c) (l := t.take i ++ x :: t.drop i) (css := css.take i ++ xs :: css.drop i) (w := w') (cur := cur)
    (by simp [h1]) (fun j y cs hy hc' => ?_) hg hbx (by rw [hl]; exact hc) hm hs ?_
  · rw [hl] at key
    exact key
  · by_cases hj : j < i
    · rw [List.getElem?_append_left (by rw [List.length_take]; omega), List.getElem?_take_of_lt hj] at hy hc'
      exact spotE.keep (h2 j y cs hy hc') hb (Nat.le_refl _)
    · rw [List.getElem?_append_right (by rw [List.length_take]; omega), List.length_take] at hy hc'
      rw [Nat.min_eq_left (by omega)] at hy hc'
      cases hji : j - i with
      | zero =>
        rw [hji] at hy hc'
        simp at hy hc'
        subst hy hc'
        exact spotE.keep hx hb (Nat.le_refl _)
      | succ m =>
        rw [hji] at hy hc'
        simp only [List.getElem?_cons_succ, List.getElem?_drop] at hy hc'
        exact spotE.keep (h2 _ y cs hy hc') hb (Nat.le_refl _)
  · rw [hl]
    show cur.toList.take ((t.length + 1) * 3) = _
    rw [ht, List.flatten_append, List.flatten_cons, flat_take css i (fun cs hcs => (hall cs hcs).1), hdrop css (fun cs hcs => (hall cs hcs).1), ← List.append_assoc]
    rfl

theorem seg_get {α : Type} (a r : List α) (n : Nat) (h : a.length = n) (d : List α) (hd : d = a ++ r) : d.take n = a := by
  subst hd h; simp

/-- Its cells. -/
theorem own_src {w : World} {base g n c : Nat} {t : List Spot} (h : Own spotE 42 w base (.slice (some ⟨g, 0, none⟩) n c) t) :
    ∃ (css : List (List Value)) (cur : Array Value), css.length = t.length ∧ (∀ (j : Nat) x cs, t[j]? = some x → css[j]? = some cs → spotE.ok w base x cs) ∧ Box w g cur 42 ∧ cur.size = c * 3 ∧ cur.toList.take (n * 3) = css.flatten ∧ css.flatten.length = n * 3 ∧
      (∀ j v, css.flatten[j]? = some v → w.cell? ⟨g, j, none⟩ = some v) ∧ (∀ v ∈ css.flatten, v.oneCell' = true) := by
  obtain ⟨css, cur, h1, h2, h3, h4, h5, h6, h7, h8, h9, h10⟩ := own_open h
  have hall := ok_of_all h1 h2
  have hk : (spotE).k = 3 := rfl
  rw [hk] at h8 h9 h10
  refine ⟨css, cur, h1, h2, h4, h8, h9, h10, fun j v hj => ?_, fun v hv => ?_⟩
  · have hjl := (List.getElem?_eq_some_iff.1 hj).1
    rw [cell_of_row w g _ cur _ (0, 0) h4, ← Array.getElem?_toList, ← List.getElem?_take_of_lt (i := j) (j := n * 3) (by omega), h9, hj]
  · obtain ⟨cs, hcs, hvc⟩ := List.mem_flatten.1 hv
    exact (hall cs hcs).2 v hvc

set_option maxHeartbeats 3200000 in
set_option maxRecDepth 100000 in
theorem ins_grow (t : List Spot) (x : Spot) (u : Value) (i base g c xb : Nat) (w : World) (h : Own spotE 42 w base (.slice (some ⟨g, 0, none⟩) t.length c) t) (hbs : base ≤ w.heap.size) (hi : i < t.length) (hle : t.length ≤ 1000000) (hroom : c < t.length + 1)
    (hxb : Box w xb #[.int .i64 x.addr, .int .i64 x.count, u] 42) (hx : Row intE w base u x.line) :
    Calls Try.prog 63 #[.slice (some ⟨g, 0, none⟩) t.length c, .int .i64 i, .slice (some ⟨xb, 0, none⟩) 1 1] w fun e w' => ∃ v', e = .returned v' ∧ Own spotE 42 w' base v' (t.take i ++ x :: t.drop i) ∧ Below base w w' := by
  obtain ⟨_, hlc, hcm, _⟩ := own_ptr h
  unfold maxLen at hcm
  obtain ⟨css, cur, c1, c2, c3, c4, c5, c6, c7, c8⟩ := own_src h
  obtain ⟨i0, hi0, hz0, hzs, hzb⟩ := info_parts info_spot
  have hgw := c3.lt
  have hxw := hxb.lt
  generalize hcs : css.flatten = cs at *
  have hold : (Builtin.firstCells i0.size i (.slice (some ⟨g, 0, none⟩) i c)).run Try.prog w.drew = .ok (cs.take (i * 3)).toArray w.drew := by
    rw [hzs]
    exact run_firstCells_some w.drew 3 i ⟨g, 0, none⟩ i c (cs.take (i * 3)) (by rw [List.length_take]; omega) (fun j v hj => by
      rw [Addr.add_lit, Nat.zero_add]
      rw [List.getElem?_take] at hj
      split at hj
      · exact c7 j v hj
      · cases hj)
  have hik : i + (t.length + 1 - i) = t.length + 1 := by omega
  obtain ⟨G, hG⟩ : ∃ G, G = grownCap w (t.length + 1) c 42 := ⟨_, rfl⟩
  have hGn : t.length + 1 ≤ G := by rw [hG]; exact grownCap_ge w _ _ _
  have hG63 : G ≤ maxLen := by rw [hG]; exact grownCap_le_maxLen w _ c _ (by unfold maxLen; omega)
  obtain ⟨ROW, hRl, hRt, hrz⟩ : ∃ ROW : Array Value, ROW.size = G * 3 ∧ ROW.toList.take (i * 3) = cs.take (i * 3) ∧ ∀ ty, (Builtin.append_ #[33, 3] ty #[.slice (some ⟨g, 0, none⟩) i c, .int .i64 ((t.length : Int) + 1 - (i : Int))]).run Try.prog w = .ok (.slice (some ⟨w.heap.size, 0, none⟩) (t.length + 1) G) (w.drew.alloc (.cells ROW 42)) := by
    refine ⟨(cs.take (i * 3)).toArray ++ Builtin.zeroCells (Value.agg #[.int .i64 0, .int .i64 0, .slice none 0 0]).cells (t.length + 1 - i) ++ Builtin.zeroCells (Value.agg #[.int .i64 0, .int .i64 0, .slice none 0 0]).cells (G - (t.length + 1)), ?_, ?_, fun ty => ?_⟩
    · simp [Builtin.zeroCells, Value.cells, c6]; omega
    · exact seg_get _ (Builtin.zeroCells (Value.agg #[.int .i64 0, .int .i64 0, .slice none 0 0]).cells (t.length + 1 - i) ++ Builtin.zeroCells (Value.agg #[.int .i64 0, .int .i64 0, .slice none 0 0]).cells (G - (t.length + 1))).toList _ (by rw [List.length_take]; omega) _ (by simp)
    · have hh := Lib.run_append_grow_zeros (P := Try.prog) w 33 3 ty 42 i0 _ .i64 .i64 Try.underlying33 Try.underlying3 hi0 hz0 (some ⟨g, 0, none⟩) i c (cs.take (i * 3)) hold (t.length + 1 - i) (by omega) (by omega) (by omega) (by omega) (by rw [hzb]; omega) (by rw [hzb, hik]; exact growslice_fits hroom (by omega))
      rw [hik, ← hG] at hh
      rw [show (t.length : Int) + 1 - (i : Int) = ((t.length + 1 - i : Nat) : Int) by omega]
      exact hh
  have hxs : ∀ v ∈ [Value.int .i64 x.addr, .int .i64 x.count, u], v.oneCell' = true := by
    obtain ⟨A', c', rfl, _, _⟩ := hx.open
    intro v hv
    simp at hv
    rcases hv with rfl | rfl | rfl <;> rfl
  obtain ⟨W1, hW1⟩ : ∃ W1, W1 = w.drew.alloc (.cells ROW 42) := ⟨_, rfl⟩
  rw [← hW1] at hrz
  have b1 : Box W1 w.heap.size ROW 42 := by rw [hW1]; exact Box.new w.drew _ _
  have l1 : Below w.heap.size w W1 := by rw [hW1]; exact (Below.refl _ _).drew.alloc (Nat.le_refl _) _
  obtain ⟨R2, hR2⟩ : ∃ R2, R2 = (ROW.toList.take (i * 3) ++ [Value.int .i64 x.addr, .int .i64 x.count, u] ++ ROW.toList.drop (i * 3 + [Value.int .i64 x.addr, .int .i64 x.count, u].length)).toArray := ⟨_, rfl⟩
  have hcpA : ∀ ty dc, (Builtin.copy_ #[33, 33] ty #[.slice (some ⟨w.heap.size, i * 3, none⟩) (t.length + 1 - i) dc, .slice (some ⟨xb, 0, none⟩) 1 1]).run Try.prog W1 = .ok (goInt 1) (W1.setRow w.heap.size R2) := fun ty dc => by
    rw [hR2]
    exact run_copy_rowK W1 33 33 ty 42 w.heap.size (i * 3) (t.length + 1 - i) dc 3 1 ⟨xb, 0, none⟩ 1 1 ROW 42 _ Try.underlying33 size_spot b1 (by simp only [Nat.min_def]; split <;> omega) rfl
      (fun j v hj => by rw [Addr.add_lit, Nat.zero_add]; exact (l1.cell (p := ⟨xb, j, none⟩) hxw).trans (hxb.cell j v (by simpa using hj))) (by simp; omega) hxs
  have b2 := b1.setRow R2
  have l2 : Below w.heap.size w (W1.setRow w.heap.size R2) := Below.setRow' l1 (Nat.le_refl _) _
  have hR2s : R2.size = G * 3 := by rw [hR2]; simp; omega
  have hR2t : R2.toList.take ((i + 1) * 3) = cs.take (i * 3) ++ [Value.int .i64 x.addr, .int .i64 x.count, u] := by
    rw [hR2, hRt]
    exact seg_get _ _ _ (by simp; omega) _ rfl
  clear hR2
  generalize W1.setRow w.heap.size R2 = W2 at *
  have hcpB : ∀ ty, (Builtin.copy_ #[33, 33] ty #[.slice (some ⟨w.heap.size, (i + 1) * 3, none⟩) (t.length + 1 - (i + 1)) (G - (i + 1)), .slice (some ⟨g, i * 3, none⟩) (t.length - i) (c - i)]).run Try.prog W2.drew = .ok (goInt (t.length - i : Nat)) (W2.drew.setRow w.heap.size (R2.toList.take ((i + 1) * 3) ++ cs.drop (i * 3) ++ R2.toList.drop ((i + 1) * 3 + (cs.drop (i * 3)).length)).toArray) := fun ty =>
    run_copy_rowK W2.drew 33 33 ty 42 w.heap.size ((i + 1) * 3) (t.length + 1 - (i + 1)) (G - (i + 1)) 3 (t.length - i) ⟨g, i * 3, none⟩ (t.length - i) (c - i) R2 42 (cs.drop (i * 3)) Try.underlying33 size_spot b2 (by simp only [Nat.min_def]; split <;> omega) (by rw [List.length_drop]; omega)
      (fun j v hj => by rw [Addr.add_lit]; exact (l2.cell (p := ⟨g, _, none⟩) hgw).trans (c7 _ v (by rwa [List.getElem?_drop] at hj))) (by rw [List.length_drop]; omega) (fun v hv => c8 v (List.mem_of_mem_drop hv))
  obtain ⟨R3, hR3⟩ : ∃ R3, R3 = (R2.toList.take ((i + 1) * 3) ++ cs.drop (i * 3) ++ R2.toList.drop ((i + 1) * 3 + (cs.drop (i * 3)).length)).toArray := ⟨_, rfl⟩
  rw [← hR3] at hcpB
  have hR3s : R3.size = G * 3 := by rw [hR3]; simp [c6]; omega
  have hR3t : R3.toList.take ((t.length + 1) * 3) = cs.take (i * 3) ++ [Value.int .i64 x.addr, .int .i64 x.count, u] ++ cs.drop (i * 3) := by
    rw [hR3, hR2t]
    exact seg_get _ _ _ (by simp; omega) _ rfl
  have b3 : Box (W2.drew.setRow w.heap.size R3) w.heap.size R3 42 := b2.drew.setRow R3
  have l3 : Below base w (W2.drew.setRow w.heap.size R3) := Below.setRow' (l2.drew.mono hbs) hbs _
  have hfin : Own spotE 42 (W2.drew.setRow w.heap.size R3) base (.slice (some ⟨w.heap.size, 0, none⟩) (t.length + 1) G) (t.take i ++ x :: t.drop i) :=
    own_ins c1 c2 (by omega) ⟨u, rfl, hx⟩ l3 hbs b3 hGn hG63 hR3s (by rw [hcs]; exact hR3t)
  have hfin := hid hfin
  have l3 := hid l3
  have hii : (i : Int) ≤ (t.length : Int) := by omega
  have hne : ¬ ((i : Int) = (t.length : Int)) := by omega
  have hz3 : (c : Int) < (t.length : Int) + 1 := by omega
  have hw1 : IntKind.i64.wrap ((i : Int) + 1) = (i : Int) + 1 := by rw [IntKind.wrap_i64]; omega
  have hb1 : (0 : Int) ≤ (i : Int) + 1 := by omega
  have htn : ((i : Int) + 1).toNat = i + 1 := by omega
  have hGi : ¬ (G = i) := by omega
  have hGim : ¬ (G = i + 1) := by omega
  have hci : ¬ (c = i) := by omega
  have hG63' : G ≤ 9223372036854775807 := by unfold maxLen at hG63; omega
  have hrz := hrz
  clear hold hR3t hR3s hR2t hR2s hRt hRl hik hi0 hz0 hzs hzb b1 b2 b3 l1 l2 c1 c2 c3 c4 c5 c6 c7 c8 h hx hxb hR3 hG hW1 hcs hxs hG63
  go_enter Try.func63, Try.ntmps63
  go_wp2_with (first
    | (at_builtin; refine Lib.wpList_append_run _ rfl _ _ _ _ rfl _ _ rfl rfl _ _ (hrz _) ?_)
    | (refine wpList_copy_eq rfl (.tmp 43) (.tmp 44) 33 33 rfl _ _ rfl rfl (hcpA _ _) ?_))
  go_region_law (refine step_copy_eq rfl (.tmp 50) (.tmp 53) 33 33 rfl (.slice (some ⟨w.heap.size, (i + 1) * 3, none⟩) (t.length + 1 - (i + 1)) (G - (i + 1))) (.slice (some ⟨g, i * 3, none⟩) (t.length - i) (c - i)) (by simp [Act.eval, Act.put]) (by simp [Act.eval, Act.put]) (hcpB _) ?_)
  go_wp2
  go_ret
  exact ⟨_, rfl, hfin.out, l3.out⟩
end Go.Proofs.Ytbbkgibopicaeaa
