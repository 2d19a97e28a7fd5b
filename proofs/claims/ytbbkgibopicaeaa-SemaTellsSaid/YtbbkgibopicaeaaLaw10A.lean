/- The laws of layer 10: what they cut, and their sign of life. -/
import Derived.Test.YtbbkgibopicaeaaSemaB
import Derived.Test.YtbbkgibopicaeaaSemaC
import Derived.Test.YtbbkgibopicaeaaRootLaw2
namespace Go.Proofs.Ytbbkgibopicaeaa
set_option linter.unusedVariables false
set_option linter.unusedSimpArgs false
open Go.RowKit

set_option maxHeartbeats 3200000 in
theorem law10_few (v : Value) (t : List Spot) (w : World) (h : Row spotE w w.heap.size v t) :
    Calls Try.prog 40 #[v] w (RowPost spotE (fewS t) w) := by
  obtain ⟨A, c, rfl, hlc, hcm⟩ := h.open
  unfold maxLen at hcm
  have H := hid h
  clear h
  obtain ⟨m, hm, hmt⟩ : ∃ m, m = min t.length 70 ∧ m ≤ t.length := ⟨_, rfl, Nat.min_le_left _ _⟩
  have hm70 : m ≤ 70 := by omega
  have hT := hid (show fewS t = (t.take m).map cutS by
    unfold fewS
    rcases Nat.le_total t.length 70 with h | h
    · rw [hm, Nat.min_eq_left h, List.take_of_length_le h, List.take_length]
    · rw [hm, Nat.min_eq_right h])
  have hmin : Hid (m = min t.length 70) := hm
  have key : ∀ X, fewS t = X → Calls Try.prog 40 #[.slice A t.length c] w (RowPost spotE X w) := by
    intro X hX
    have hX := hid hX
    clear hm
    by_cases hle : t.length ≤ 70
    · have e : m = t.length := by have := hmin.out; omega
      subst e
      clear hmin
      go_enter Try.func40, Try.ntmps40
      go_wp2
      have hmm : t.length ≤ t.length := Nat.le_refl _
      go_loopg [3, 12] t.length (fun g o i wr => ∃ k A1 c1, k + g = t.length ∧ i = .int .i64 (k : Nat) ∧ o = .slice A1 k c1 ∧ Hid (Own spotE 42 wr w.heap.size o ((t.take k).map cutS)) ∧ Below w.heap.size w wr)
      case atStart => exact ⟨0, _, 0, by omega, rfl, rfl, Own.nil _ _ _ _, Below.refl _ _⟩
      case round =>
        obtain ⟨k, A1, c1, hk, rfl, rfl, hown, hb⟩ := hrel
        cases gk with
        | zero =>
          have hkl := hid (show k = t.length by omega)
          go_wp2
          go_ret
          have e := hkl.out
          subst e
          exact ⟨_, rfl, by rw [← hX.out, hT.out]; exact hown.out.row hb.size, hb⟩
        | succ g =>
          have hlt : k < t.length := by omega
          have hki : (k : Int) < ((t.length : Nat) : Int) := by omega
          have hkt : (k : Int) < (t.length : Int) := by omega
          obtain ⟨b, o, A2, c2, rfl, hbb, hc0, hc1, hc2, hrow⟩ := H.out.spot k hlt
          have hc0 := (hb.cell (p := ⟨b, _, none⟩) hbb).trans hc0
          have hc1 := (hb.cell (p := ⟨b, _, none⟩) hbb).trans hc1
          have hc2 := (hb.cell (p := ⟨b, _, none⟩) hbb).trans hc2
          have hlc2 := hrow.len_eq.2.1
          have hcm2 := hrow.len_eq.2.2.1
          unfold maxLen at hcm2
          have hrow := hid hrow
          have hbz := hb.size
          have hsn := hid (fewS_snoc t k hlt)
          by_cases hl : t[k].line.length ≤ 70
          · have hm := hid (show (cutS t[k]).line = t[k].line.take t[k].line.length by rw [List.take_length]; exact List.take_of_length_le hl)
            have hok := hid (fun (W : World) (hW : Below w.heap.size w W) => show spotE.ok W w.heap.size (cutS t[k]) [.int .i64 t[k].addr, .int .i64 t[k].count, .slice A2 (t[k].line.length) c2] from ⟨_, rfl, by rw [hm.out]; exact (hrow.out.keep hW (Nat.le_refl _)).take (t[k].line.length) (Nat.le_refl _)⟩)
            go_wp2_with (at_builtin; refine wpList_app1 spotE 33 42 (.agg #[.int .i64 0, .int .i64 0, .slice none 0 0]) 40 Try.underlying33 info_spot rfl (by decide) (.tmp 24) (.tmp 26) w.heap.size ((t.take k).map cutS) (cutS t[k]) ((t.take (k + 1)).map cutS) (k + 1) hsn.out.symm (by simp; omega) _ ((hown.out.alloc hbz _).alloc (by simp; omega) _) rfl _ 1 rfl [.int .i64 t[k].addr, .int .i64 t[k].count, .slice A2 (t[k].line.length) c2] (hok.out _ ((hb.alloc hbz _).alloc (by simp; omega) _)) (cell_new _ _ (by simp) _ _) rfl rfl (by simp; omega) (by simp; omega) (by simp; omega) ?_; intro A3 c3 w3 hown3 hb3 _ _; have HO3 := hid hown3; clear hown3)
            go_roundg g
            case rel => exact ⟨k + 1, A3, c3, by omega, by go_num, rfl, HO3.out, ((hb.alloc hbz _).alloc (by simp; omega) _).trans hb3⟩
            case measure => omega
          · have h70' : (70 : Int) ≤ (t[k].line.length : Int) := by omega
            have hm := hid (show (cutS t[k]).line = t[k].line.take 70 from rfl)
            have hok := hid (fun (W : World) (hW : Below w.heap.size w W) => show spotE.ok W w.heap.size (cutS t[k]) [.int .i64 t[k].addr, .int .i64 t[k].count, .slice A2 (70) c2] from ⟨_, rfl, by rw [hm.out]; exact (hrow.out.keep hW (Nat.le_refl _)).take (70) (by omega)⟩)
            go_wp2_with (at_builtin; refine wpList_app1 spotE 33 42 (.agg #[.int .i64 0, .int .i64 0, .slice none 0 0]) 40 Try.underlying33 info_spot rfl (by decide) (.tmp 24) (.tmp 26) w.heap.size ((t.take k).map cutS) (cutS t[k]) ((t.take (k + 1)).map cutS) (k + 1) hsn.out.symm (by simp; omega) _ ((hown.out.alloc hbz _).alloc (by simp; omega) _) rfl _ 1 rfl [.int .i64 t[k].addr, .int .i64 t[k].count, .slice A2 (70) c2] (hok.out _ ((hb.alloc hbz _).alloc (by simp; omega) _)) (cell_new _ _ (by simp) _ _) rfl rfl (by simp; omega) (by simp; omega) (by simp; omega) ?_; intro A3 c3 w3 hown3 hb3 _ _; have HO3 := hid hown3; clear hown3)
            go_roundg g
            case rel => exact ⟨k + 1, A3, c3, by omega, by go_num, rfl, HO3.out, ((hb.alloc hbz _).alloc (by simp; omega) _).trans hb3⟩
            case measure => omega
    · have e : m = 70 := by have := hmin.out; omega
      subst e
      clear hmin
      have h70 : (70 : Int) ≤ (t.length : Int) := by omega
      have hmm : 70 ≤ t.length := hmt
      go_enter Try.func40, Try.ntmps40
      go_wp2
      go_loopg [3, 12] 70 (fun g o i wr => ∃ k A1 c1, k + g = 70 ∧ i = .int .i64 (k : Nat) ∧ o = .slice A1 k c1 ∧ Hid (Own spotE 42 wr w.heap.size o ((t.take k).map cutS)) ∧ Below w.heap.size w wr)
      case atStart => exact ⟨0, _, 0, by omega, rfl, rfl, Own.nil _ _ _ _, Below.refl _ _⟩
      case round =>
        obtain ⟨k, A1, c1, hk, rfl, rfl, hown, hb⟩ := hrel
        cases gk with
        | zero =>
          have hkl := hid (show k = 70 by omega)
          go_wp2
          go_ret
          have e := hkl.out
          subst e
          exact ⟨_, rfl, by rw [← hX.out, hT.out]; exact hown.out.row hb.size, hb⟩
        | succ g =>
          have hlt : k < t.length := by omega
          have hki : (k : Int) < ((70 : Nat) : Int) := by omega
          have hkt : (k : Int) < (t.length : Int) := by omega
          obtain ⟨b, o, A2, c2, rfl, hbb, hc0, hc1, hc2, hrow⟩ := H.out.spot k hlt
          have hc0 := (hb.cell (p := ⟨b, _, none⟩) hbb).trans hc0
          have hc1 := (hb.cell (p := ⟨b, _, none⟩) hbb).trans hc1
          have hc2 := (hb.cell (p := ⟨b, _, none⟩) hbb).trans hc2
          have hlc2 := hrow.len_eq.2.1
          have hcm2 := hrow.len_eq.2.2.1
          unfold maxLen at hcm2
          have hrow := hid hrow
          have hbz := hb.size
          have hsn := hid (fewS_snoc t k hlt)
          by_cases hl : t[k].line.length ≤ 70
          · have hm := hid (show (cutS t[k]).line = t[k].line.take t[k].line.length by rw [List.take_length]; exact List.take_of_length_le hl)
            have hok := hid (fun (W : World) (hW : Below w.heap.size w W) => show spotE.ok W w.heap.size (cutS t[k]) [.int .i64 t[k].addr, .int .i64 t[k].count, .slice A2 (t[k].line.length) c2] from ⟨_, rfl, by rw [hm.out]; exact (hrow.out.keep hW (Nat.le_refl _)).take (t[k].line.length) (Nat.le_refl _)⟩)
            go_wp2_with (at_builtin; refine wpList_app1 spotE 33 42 (.agg #[.int .i64 0, .int .i64 0, .slice none 0 0]) 40 Try.underlying33 info_spot rfl (by decide) (.tmp 24) (.tmp 26) w.heap.size ((t.take k).map cutS) (cutS t[k]) ((t.take (k + 1)).map cutS) (k + 1) hsn.out.symm (by simp; omega) _ ((hown.out.alloc hbz _).alloc (by simp; omega) _) rfl _ 1 rfl [.int .i64 t[k].addr, .int .i64 t[k].count, .slice A2 (t[k].line.length) c2] (hok.out _ ((hb.alloc hbz _).alloc (by simp; omega) _)) (cell_new _ _ (by simp) _ _) rfl rfl (by simp; omega) (by simp; omega) (by simp; omega) ?_; intro A3 c3 w3 hown3 hb3 _ _; have HO3 := hid hown3; clear hown3)
            go_roundg g
            case rel => exact ⟨k + 1, A3, c3, by omega, by go_num, rfl, HO3.out, ((hb.alloc hbz _).alloc (by simp; omega) _).trans hb3⟩
            case measure => omega
          · have h70' : (70 : Int) ≤ (t[k].line.length : Int) := by omega
            have hm := hid (show (cutS t[k]).line = t[k].line.take 70 from rfl)
            have hok := hid (fun (W : World) (hW : Below w.heap.size w W) => show spotE.ok W w.heap.size (cutS t[k]) [.int .i64 t[k].addr, .int .i64 t[k].count, .slice A2 (70) c2] from ⟨_, rfl, by rw [hm.out]; exact (hrow.out.keep hW (Nat.le_refl _)).take (70) (by omega)⟩)
            go_wp2_with (at_builtin; refine wpList_app1 spotE 33 42 (.agg #[.int .i64 0, .int .i64 0, .slice none 0 0]) 40 Try.underlying33 info_spot rfl (by decide) (.tmp 24) (.tmp 26) w.heap.size ((t.take k).map cutS) (cutS t[k]) ((t.take (k + 1)).map cutS) (k + 1) hsn.out.symm (by simp; omega) _ ((hown.out.alloc hbz _).alloc (by simp; omega) _) rfl _ 1 rfl [.int .i64 t[k].addr, .int .i64 t[k].count, .slice A2 (70) c2] (hok.out _ ((hb.alloc hbz _).alloc (by simp; omega) _)) (cell_new _ _ (by simp) _ _) rfl rfl (by simp; omega) (by simp; omega) (by simp; omega) ?_; intro A3 c3 w3 hown3 hb3 _ _; have HO3 := hid hown3; clear hown3)
            go_roundg g
            case rel => exact ⟨k + 1, A3, c3, by omega, by go_num, rfl, HO3.out, ((hb.alloc hbz _).alloc (by simp; omega) _).trans hb3⟩
            case measure => omega
  exact key _ rfl

theorem alive10_a : acqE [] 8 4 false = 0 ∧ acqL [] 8 4 false = [⟨8, 0, [4]⟩] ∧ acqT [] 8 4 false = false := by decide +kernel
theorem alive10_b : acqE [⟨8, 0, [4]⟩] 8 2 true = 0 ∧ acqL [⟨8, 0, [4]⟩] 8 2 true = [⟨8, 0, [2, 4]⟩] ∧ acqT [⟨8, 0, [4]⟩] 8 2 true = false := by decide +kernel
theorem alive10_c : relE [⟨8, 0, [2, 4]⟩] 8 = 0 ∧ relL [⟨8, 0, [2, 4]⟩] 8 = [⟨8, 0, [4]⟩] ∧ relW [⟨8, 0, [2, 4]⟩] 8 = 2 := by decide +kernel

theorem law10_alive (w : World) : Calls Try.prog 39 #[] w fun e w' => e = .returned (.bool true) ∧ Below w.heap.size w w' := by
  have h1 := hid (fun W => sema_Acquire (.slice none 0 0) [] 8 4 false W (Row.nil _ _ _))
  have h2 := hid (fun W v (h : Row spotE W W.heap.size v [⟨8, 0, [4]⟩]) => sema_Acquire v [⟨8, 0, [4]⟩] 8 2 true W h)
  have h3 := hid (fun W v (h : Row spotE W W.heap.size v [⟨8, 0, [2, 4]⟩]) => sema_Release v [⟨8, 0, [2, 4]⟩] 8 W h)
  rw [alive10_a.1, alive10_a.2.1, alive10_a.2.2] at h1
  rw [alive10_b.1, alive10_b.2.1, alive10_b.2.2] at h2
  rw [alive10_c.1, alive10_c.2.1, alive10_c.2.2] at h3
  generalize ([⟨8, 0, [4]⟩] : List Spot) = L1 at h1 h2 h3
  generalize ([⟨8, 0, [2, 4]⟩] : List Spot) = L2 at h2 h3
  go_enter Try.func39, Try.ntmps39
  go_wp2_with fail
  refine (h1.out _).mono ?_
  rintro e w1 ⟨v1, rfl, hr1, hb1⟩
  obtain ⟨A1, c1, rfl, _, _⟩ := hr1.open
  have hr1 := hid hr1
  have hb1 := hid hb1
  go_wp2_with fail
  refine (h2.out _ _ hr1.out).mono ?_
  rintro e w2 ⟨v2, rfl, hr2, hb2⟩
  obtain ⟨A2, c2, rfl, _, _⟩ := hr2.open
  have hr2 := hid hr2
  have hb2 := hid (below_step hb1.out hb2)
  go_wp2_with fail
  refine (h3.out _ _ hr2.out).mono ?_
  rintro e w3 ⟨v3, rfl, hr3, hb3⟩
  obtain ⟨A3, c3, rfl, _, _⟩ := hr3.open
  have hb3 := hid (below_step hb2.out hb3)
  clear hr3
  go_wp2_with fail
  go_ret
  exact ⟨rfl, hb3.out⟩
end Go.Proofs.Ytbbkgibopicaeaa
