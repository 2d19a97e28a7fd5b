/- Layer 9 of the program: a spot is put among spots of one's own: where there is room; at the end; all ways. -/
import Derived.Test.YtbbkgibopicaeaaRootIns
namespace Go.Proofs.Ytbbkgibopicaeaa
set_option linter.unusedVariables false
set_option linter.unusedSimpArgs false
open Go.RowKit

set_option maxHeartbeats 3200000 in
set_option maxRecDepth 100000 in
theorem ins_room (t : List Spot) (x : Spot) (u : Value) (i base g c xb : Nat) (w : World) (h : Own spotE 42 w base (.slice (some ⟨g, 0, none⟩) t.length c) t) (hbs : base ≤ w.heap.size) (hi : i < t.length) (hle : t.length ≤ 1000000) (hroom : t.length + 1 ≤ c) (hgx : xb ≠ g)
    (hxb : Box w xb #[.int .i64 x.addr, .int .i64 x.count, u] 42) (hx : Row intE w base u x.line) :
    Calls Try.prog 63 #[.slice (some ⟨g, 0, none⟩) t.length c, .int .i64 i, .slice (some ⟨xb, 0, none⟩) 1 1] w fun e w' => ∃ v', e = .returned v' ∧ Own spotE 42 w' base v' (t.take i ++ x :: t.drop i) ∧ Below base w w' := by
  obtain ⟨_, hlc, hcm, hA⟩ := own_ptr h
  have hgb : base ≤ g := by
    rcases hA with ⟨e, _, _⟩ | ⟨g', e, hg', _⟩
    · cases e
    · cases e; exact hg'
  clear hA
  have hcm0 := hcm
  unfold maxLen at hcm
  obtain ⟨css, cur, c1, c2, c3, c4, c5, c6, c7, c8⟩ := own_src h
  have hgw := c3.lt
  have hxw := hxb.lt
  have hxs : ∀ v ∈ [Value.int .i64 x.addr, .int .i64 x.count, u], v.oneCell' = true := by
    obtain ⟨A', c', rfl, _, _⟩ := hx.open
    intro v hv
    simp at hv
    rcases hv with rfl | rfl | rfl <;> rfl
  generalize hcs : css.flatten = cs at *
  have hov : ∀ lb cb, (callFunc 86 #[.slice (some ⟨xb, 0, none⟩) 1 1, .slice (some ⟨g, (i + 1) * 3, none⟩) lb cb]).run Try.prog w = .ok (.value (.bool false)) w := fun lb cb => by
    rw [run_callFunc_extern Try.func86 (by kernel_rfl) (by kernel_rfl) (by kernel_rfl) (e := Extern.SlicesOverlaps.overlaps #[33, 33] #[4]) (by kernel_rfl),
      Lib.run_overlaps_apart w 33 4 42 Try.underlying33 3 (fun _ => by kernel_rfl) ⟨xb, 0, none⟩ ⟨g, (i + 1) * 3, none⟩ 1 1 lb cb hgx 42 42 3 (c * 3) (by have := hxb; unfold Box at this; simp [World.shape?, this]) (by have := c3; unfold Box at this; simp [World.shape?, this, c4]) (by omega) (hxb.frozen 0) (hxb.frozen 3)]
    rfl
  obtain ⟨R2, hR2⟩ : ∃ R2, R2 = (cur.toList.take ((i + 1) * 3) ++ cs.drop (i * 3) ++ cur.toList.drop ((i + 1) * 3 + (cs.drop (i * 3)).length)).toArray := ⟨_, rfl⟩
  have hcpA : ∀ ty, (Builtin.copy_ #[33, 33] ty #[.slice (some ⟨g, (i + 1) * 3, none⟩) (t.length + 1 - (i + 1)) (c - (i + 1)), .slice (some ⟨g, i * 3, none⟩) (t.length + 1 - i) (c - i)]).run Try.prog w.drew = .ok (goInt (t.length - i : Nat)) (w.drew.setRow g R2) := fun ty => by
    rw [hR2]
    exact run_copy_rowK w.drew 33 33 ty 42 g ((i + 1) * 3) (t.length + 1 - (i + 1)) (c - (i + 1)) 3 (t.length - i) ⟨g, i * 3, none⟩ (t.length + 1 - i) (c - i) cur 42 (cs.drop (i * 3)) Try.underlying33 size_spot c3 (by simp only [Nat.min_def]; split <;> omega) (by rw [List.length_drop]; omega)
      (fun j v hj => by rw [Addr.add_lit]; exact c7 _ v (by rwa [List.getElem?_drop] at hj)) (by rw [List.length_drop]; omega) (fun v hv => c8 v (List.mem_of_mem_drop hv))
  have b2 : Box (w.drew.setRow g R2) g R2 42 := c3.drew.setRow R2
  have l2 : Below base w (w.drew.setRow g R2) := Below.setRow' (Below.refl _ _).drew hgb _
  have x2 : Box (w.drew.setRow g R2) xb #[.int .i64 x.addr, .int .i64 x.count, u] 42 := (setRow_other w.drew g xb R2 hgx).trans hxb
  have hR2s : R2.size = c * 3 := by rw [hR2]; simp [c6]; omega
  have hR2t : R2.toList.take (i * 3) = cs.take (i * 3) := by
    have e : R2.toList.take ((i + 1) * 3) = cur.toList.take ((i + 1) * 3) := by
      rw [hR2]
      exact seg_get _ (cs.drop (i * 3) ++ cur.toList.drop ((i + 1) * 3 + (cs.drop (i * 3)).length)) _ (by simp; omega) _ (by simp)
    have e2 := congrArg (List.take (i * 3)) e
    rw [List.take_take, List.take_take, Nat.min_eq_left (by omega)] at e2
    rw [e2, ← c5, List.take_take, Nat.min_eq_left (by omega)]
  have hR2d : (R2.toList.drop ((i + 1) * 3)).take ((t.length - i) * 3) = cs.drop (i * 3) := by
    have e : R2.toList.drop ((i + 1) * 3) = cs.drop (i * 3) ++ cur.toList.drop ((i + 1) * 3 + (cs.drop (i * 3)).length) := by
      rw [hR2, show ((i + 1) * 3) = (cur.toList.take ((i + 1) * 3)).length by simp; omega]
      simp
    exact seg_get _ _ _ (by rw [List.length_drop]; omega) _ e
  clear hR2
  generalize w.drew.setRow g R2 = W2 at *
  obtain ⟨R3, hR3⟩ : ∃ R3, R3 = (R2.toList.take (i * 3) ++ [Value.int .i64 x.addr, .int .i64 x.count, u] ++ R2.toList.drop (i * 3 + [Value.int .i64 x.addr, .int .i64 x.count, u].length)).toArray := ⟨_, rfl⟩
  have hcpB : ∀ ty dc, (Builtin.copy_ #[33, 33] ty #[.slice (some ⟨g, i * 3, none⟩) (t.length + 1 - i) dc, .slice (some ⟨xb, 0, none⟩) 1 1]).run Try.prog W2 = .ok (goInt 1) (W2.setRow g R3) := fun ty dc => by
    rw [hR3]
    exact run_copy_rowK W2 33 33 ty 42 g (i * 3) (t.length + 1 - i) dc 3 1 ⟨xb, 0, none⟩ 1 1 R2 42 _ Try.underlying33 size_spot b2 (by simp only [Nat.min_def]; split <;> omega) rfl
      (fun j v hj => by rw [Addr.add_lit, Nat.zero_add]; exact x2.cell j v (by simpa using hj)) (by simp; omega) hxs
  have hR3s : R3.size = c * 3 := by rw [hR3]; simp; omega
  have hR3t : R3.toList.take ((t.length + 1) * 3) = cs.take (i * 3) ++ [Value.int .i64 x.addr, .int .i64 x.count, u] ++ cs.drop (i * 3) := by
    have e1 : i * 3 + [Value.int .i64 x.addr, .int .i64 x.count, u].length = (i + 1) * 3 := by simp; omega
    rw [hR3, e1, hR2t]
    refine seg_get _ ((R2.toList.drop ((i + 1) * 3)).drop ((t.length - i) * 3)) _ (by simp; omega) _ ?_
    rw [← hR2d, List.append_assoc (cs.take (i * 3) ++ _), List.take_append_drop]
  have b3 : Box (W2.setRow g R3) g R3 42 := b2.setRow R3
  have l3 : Below base w (W2.setRow g R3) := Below.setRow' l2 hgb _
  have hfin : Own spotE 42 (W2.setRow g R3) base (.slice (some ⟨g, 0, none⟩) (t.length + 1) c) (t.take i ++ x :: t.drop i) :=
    own_ins c1 c2 (by omega) ⟨u, rfl, hx⟩ l3 hgb b3 hroom hcm0 hR3s (by rw [hcs]; exact hR3t)
  have hfin := hid hfin
  have l3 := hid l3
  have hii : (i : Int) ≤ (t.length : Int) := by omega
  have hne : ¬ ((i : Int) = (t.length : Int)) := by omega
  have hz3 : ¬ ((c : Int) < (t.length : Int) + 1) := by omega
  have hw1 : IntKind.i64.wrap ((i : Int) + 1) = (i : Int) + 1 := by rw [IntKind.wrap_i64]; omega
  have hb1 : (0 : Int) ≤ (i : Int) + 1 := by omega
  have htn : ((i : Int) + 1).toNat = i + 1 := by omega
  have hcim : ¬ (c = i + 1) := by omega
  have hb3 : (i : Int) ≤ (t.length : Int) + 1 := by omega
  have hci : ¬ (c = i) := by omega
  clear hR3t hR3s hR2t hR2d hR2s b2 b3 l2 x2 c1 c2 c3 c4 c5 c6 c7 c8 h hx hxb hR3 hcs hxs hcm0
  go_enter Try.func63, Try.ntmps63
  go_wp2_with (simp only [hov])
  go_region_law (refine step_copy_eq rfl (.tmp 73) (.tmp 76) 33 33 rfl (.slice (some ⟨g, (i + 1) * 3, none⟩) (t.length + 1 - (i + 1)) (c - (i + 1))) (.slice (some ⟨g, i * 3, none⟩) (t.length + 1 - i) (c - i)) (by simp [Act.eval, Act.put]) (by simp [Act.eval, Act.put]) (hcpA _) ?_)
  go_wp2_with (refine wpList_copy_eq rfl (.tmp 80) (.tmp 81) 33 33 rfl _ _ rfl rfl (hcpB _ _) ?_)
  go_ret
  exact ⟨_, rfl, hfin.out, l3.out⟩

set_option maxHeartbeats 1600000 in
set_option maxRecDepth 100000 in
theorem ins_end (t : List Spot) (x : Spot) (v u : Value) (base xb : Nat) (w : World) (h : Own spotE 42 w base v t) (hbs : base ≤ w.heap.size) (hle : t.length ≤ 1000000)
    (hxb : Box w xb #[.int .i64 x.addr, .int .i64 x.count, u] 42) (hx : Row intE w base u x.line) :
    Calls Try.prog 63 #[v, .int .i64 (t.length : Nat), .slice (some ⟨xb, 0, none⟩) 1 1] w fun e w' => ∃ v', e = .returned v' ∧ Own spotE 42 w' base v' (t ++ [x]) ∧ Below base w w' := by
  obtain ⟨A, c, rfl, hlc, hcm⟩ := h.shape
  obtain ⟨_, _, _, hA⟩ := own_ptr h
  unfold maxLen at hcm
  have H := hid h
  have hok := hid (show spotE.ok w base x [.int .i64 x.addr, .int .i64 x.count, u] from ⟨u, rfl, hx⟩)
  have hxc := hid (fun j v (hj : [Value.int .i64 x.addr, .int .i64 x.count, u][j]? = some v) => show w.cell? ((⟨xb, 0, none⟩ : Addr).add j) = some v by rw [Addr.add_lit, Nat.zero_add]; exact hxb.cell j v (by simpa using hj))
  clear h hx hxb
  rcases hA with ⟨rfl, rfl, rfl⟩ | ⟨g, rfl, _, _⟩
  · go_enter Try.func63, Try.ntmps63
    go_wp2_with (at_builtin; refine wpList_app1 spotE 33 42 (.agg #[.int .i64 0, .int .i64 0, .slice none 0 0]) 40 Try.underlying33 info_spot rfl (by decide) (.tmp 23) (.tmp 24) base [] x ([] ++ [x]) _ rfl rfl _ H.out rfl _ 1 rfl [.int .i64 x.addr, .int .i64 x.count, u] hok.out hxc.out rfl rfl (by simp) (by simp) hbs ?_; intro A3 c3 w3 hown3 hb3 hc31 hc32; have HO3 := hid hown3; clear hown3)
    go_ret
    exact ⟨_, rfl, HO3.out, hb3⟩
  · go_enter Try.func63, Try.ntmps63
    go_wp2_with (at_builtin; refine wpList_app1 spotE 33 42 (.agg #[.int .i64 0, .int .i64 0, .slice none 0 0]) 40 Try.underlying33 info_spot rfl (by decide) (.tmp 23) (.tmp 24) base t x (t ++ [x]) _ rfl rfl _ H.out rfl _ 1 rfl [.int .i64 x.addr, .int .i64 x.count, u] hok.out hxc.out rfl rfl (by omega) (by omega) hbs ?_; intro A3 c3 w3 hown3 hb3 hc31 hc32; have HO3 := hid hown3; clear hown3)
    all_goals (go_ret; exact ⟨_, rfl, HO3.out, hb3⟩)

theorem slices_InsertSpot (t : List Spot) (x : Spot) (v u : Value) (i base xb : Nat) (w : World) (h : Own spotE 42 w base v t) (hbs : base ≤ w.heap.size) (hi : i ≤ t.length) (hle : t.length ≤ 1000000) (hgx : ∀ g, v.ownBlock = some g → g ≠ xb)
    (hxb : Box w xb #[.int .i64 x.addr, .int .i64 x.count, u] 42) (hx : Row intE w base u x.line) :
    Calls Try.prog 63 #[v, .int .i64 i, .slice (some ⟨xb, 0, none⟩) 1 1] w fun e w' => ∃ v', e = .returned v' ∧ Own spotE 42 w' base v' (t.take i ++ x :: t.drop i) ∧ Below base w w' := by
  by_cases he : i = t.length
  · subst he
    have := ins_end t x v u base xb w h hbs hle hxb hx
    simpa using this
  · obtain ⟨A, c, rfl, hlc, hcm⟩ := h.shape
    obtain ⟨_, _, _, hA⟩ := own_ptr h
    rcases hA with ⟨rfl, rfl, rfl⟩ | ⟨g, rfl, _, _⟩
    · simp at hi he; omega
    · by_cases hr : t.length + 1 ≤ c
      · exact ins_room t x u i base g c xb w h hbs (by omega) hle hr (fun e => hgx g rfl e.symm) hxb hx
      · exact ins_grow t x u i base g c xb w h hbs (by omega) hle (by omega) hxb hx
end Go.Proofs.Ytbbkgibopicaeaa
