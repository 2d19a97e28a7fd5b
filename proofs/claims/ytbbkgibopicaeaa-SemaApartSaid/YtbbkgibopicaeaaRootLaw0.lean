/- The laws of layer 9: what they cut, and their sign of life. -/
import Derived.Test.YtbbkgibopicaeaaRootSet
import Derived.Test.YtbbkgibopicaeaaRootGet2
namespace Go.Proofs.Ytbbkgibopicaeaa
set_option linter.unusedVariables false
set_option linter.unusedSimpArgs false
open Go.RowKit

def cutS (s : Spot) : Spot := ⟨s.addr, s.count, s.line.take 70⟩
def fewS (t : List Spot) : List Spot := (t.take 70).map cutS

set_option maxHeartbeats 800000 in
theorem law09_cut (s : Spot) (u : Value) (B : Nat) (w : World) (hu : Row intE w B u s.line) (hB : B ≤ w.heap.size) :
    Calls Try.prog 21 #[.agg #[.int .i64 s.addr, .int .i64 s.count, u]] w fun e w' => ∃ v', e = .returned (.agg #[.int .i64 (cutS s).addr, .int .i64 (cutS s).count, v']) ∧ Row intE w' B v' (cutS s).line ∧ Below w.heap.size w w' := by
  obtain ⟨A, c, rfl, hlc, hcm⟩ := hu.open
  have H := hid hu
  clear hu
  have hsl : ∀ k, k ≤ s.line.length → Hid (∀ W, Below w.heap.size w W → Row intE W B (.slice A k c) (s.line.take k)) := fun k hk W hb => (H.out.take k hk).keep (hb.mono hB) (Nat.le_refl _)
  by_cases h : s.line.length ≤ 70
  · have hT := hsl s.line.length (Nat.le_refl _)
    have he : Hid ((cutS s).line = s.line.take s.line.length) := by show _ = _; rw [List.take_length]; exact List.take_of_length_le h
    clear hsl
    go_enter Try.func21, Try.ntmps21
    go_wp2
    exact bodyPost_ret (v := .agg #[.int .i64 s.addr, .int .i64 s.count, .slice A s.line.length c]) (by simp [results, Try.results21, go_sem]) rfl ⟨_, rfl, by rw [he.out]; exact hT.out _ (by repeat (first | assumption | exact Below.refl _ _ | refine bdrawN ?_ _ | refine Below.drew ?_ | refine Below.alloc ?_ (by (try simp) <;> omega) _ | refine Below.setCell ?_ (by (try simp) <;> omega) _)), by repeat (first | assumption | exact Below.refl _ _ | refine bdrawN ?_ _ | refine Below.drew ?_ | refine Below.alloc ?_ (by (try simp) <;> omega) _ | refine Below.setCell ?_ (by (try simp) <;> omega) _)⟩
  · have hT := hsl 70 (by omega)
    have h70 : (70 : Int) ≤ (s.line.length : Int) := by omega
    clear hsl
    go_enter Try.func21, Try.ntmps21
    go_wp2
    exact bodyPost_ret (v := .agg #[.int .i64 s.addr, .int .i64 s.count, .slice A 70 c]) (by simp [results, Try.results21, go_sem]) rfl ⟨_, rfl, hT.out _ (by repeat (first | assumption | exact Below.refl _ _ | refine bdrawN ?_ _ | refine Below.drew ?_ | refine Below.alloc ?_ (by (try simp) <;> omega) _ | refine Below.setCell ?_ (by (try simp) <;> omega) _)), by repeat (first | assumption | exact Below.refl _ _ | refine bdrawN ?_ _ | refine Below.drew ?_ | refine Below.alloc ?_ (by (try simp) <;> omega) _ | refine Below.setCell ?_ (by (try simp) <;> omega) _)⟩

theorem fewS_snoc (t : List Spot) (k : Nat) (hk : k < t.length) : (t.take (k + 1)).map cutS = (t.take k).map cutS ++ [cutS t[k]] := by
  rw [List.take_succ_eq_append_getElem hk, List.map_append]; rfl

/-- Elements of which what they lead to lies below a fixed place. -/
def lowE {α : Type} (E : En α) (B0 : Nat) : En α where
  k := E.k
  ok w B x cs := B0 ≤ B ∧ E.ok w B0 x cs
  len h := E.len h.2
  one h := E.one h.2
  keep h hb hB := ⟨Nat.le_trans h.1 hB, E.keep h.2 (hb.mono h.1) (Nat.le_refl _)⟩

theorem Own.high {α : Type} {E : En α} {B0 : Nat} {e : TypeId} {w : World} {base : Nat} {v : Value} {l : List α} (h : Own (lowE E B0) e w base v l) : Own E e w base v l := by
  obtain ⟨css, h1, h2, h3⟩ := h
  exact ⟨css, h1, fun i x cs hx hc => E.keep (h2 i x cs hx hc).2 (Below.refl _ _) (h2 i x cs hx hc).1, h3⟩

/-- A store between what is below and what is one's own. -/
theorem Own.lowSet {α : Type} {E : En α} {B0 : Nat} {e : TypeId} {w : World} {base : Nat} {v : Value} {l : List α} (h : Own (lowE E B0) e w base v l) {a : Addr} (h1 : B0 ≤ a.block) (h2 : a.block < base) (x : Value) : Own (lowE E B0) e (w.setCell a x) base v l := by
  obtain ⟨css, k1, k2, k3, k4⟩ := h
  refine ⟨css, k1, fun i y cs hy hc => ⟨(k2 i y cs hy hc).1, E.keep (k2 i y cs hy hc).2 ((Below.refl _ _).setCell h1 _) (Nat.le_refl _)⟩, k3, ?_⟩
  rcases k4 with k4 | ⟨g, cap, cur, rfl, hbg, hgg, rest⟩
  · exact .inl k4
  · exact .inr ⟨g, cap, cur, rfl, hbg, (Below.heap_setCell w a x g (by omega)).trans hgg, rest⟩

set_option maxHeartbeats 1600000 in
theorem law09_few_own (v : Value) (t : List Spot) (B0 : Nat) (w : World) (h : Row spotE w B0 v t) (hB0 : B0 ≤ w.heap.size) :
    Calls Try.prog 16 #[v] w fun e w' => ∃ v', e = .returned v' ∧ Own (lowE spotE B0) 42 w' w.heap.size v' (fewS t) ∧ Below w.heap.size w w' := by
  obtain ⟨A, c, rfl, hlc, hcm⟩ := h.open
  unfold maxLen at hcm
  have H := hid h
  clear h
  obtain ⟨m, hm, hmt⟩ : ∃ m, m = min t.length 70 ∧ m ≤ t.length := ⟨_, rfl, Nat.min_le_left _ _⟩
  have hm70 : m ≤ 70 := by omega
  have hT := hid (show fewS t = (t.take m).map cutS by
    unfold fewS
    rcases Nat.le_total t.length 70 with h | h
    · rw [hm, Nat.min_eq_left h, List.take_of_length_le h, List.take_length]
    · rw [hm, Nat.min_eq_right h])
  have hmin : Hid (m = min t.length 70) := hm
  have key : ∀ X, fewS t = X → Calls Try.prog 16 #[.slice A t.length c] w fun e w' => ∃ v', e = .returned v' ∧ Own (lowE spotE B0) 42 w' w.heap.size v' X ∧ Below w.heap.size w w' := by
    intro X hX
    have hX := hid hX
    clear hm
    by_cases hle : t.length ≤ 70
    · have e : m = t.length := by have := hmin.out; omega
      subst e
      clear hmin
      go_enter Try.func16, Try.ntmps16
      go_wp2
      have hmm : t.length ≤ t.length := Nat.le_refl _
      go_loopg [3, 12] t.length (fun g o i wr => ∃ k A1 c1, k + g = t.length ∧ i = .int .i64 (k : Nat) ∧ o = .slice A1 k c1 ∧ Hid (Own (lowE spotE B0) 42 wr w.heap.size o ((t.take k).map cutS)) ∧ Below w.heap.size w wr)
      case atStart => exact ⟨0, _, 0, by omega, rfl, rfl, Own.nil _ _ _ _, Below.refl _ _⟩
      case round =>
        obtain ⟨k, A1, c1, hk, rfl, rfl, hown, hb⟩ := hrel
        cases gk with
        | zero =>
          have hkl := hid (show k = t.length by omega)
          go_wp2
          go_ret
          have e := hkl.out
          subst e
          exact ⟨_, rfl, by rw [← hX.out, hT.out]; exact hown.out, hb⟩
        | succ g =>
          have hlt : k < t.length := by omega
          have hki : (k : Int) < ((t.length : Nat) : Int) := by omega
          have hkt : (k : Int) < (t.length : Int) := by omega
          obtain ⟨b, o, A2, c2, rfl, hbb, hc0, hc1, hc2, hrow⟩ := H.out.spot k hlt
          have hbb : b < w.heap.size := Nat.lt_of_lt_of_le hbb hB0
          have hc0 := (hb.cell (p := ⟨b, _, none⟩) hbb).trans hc0
          have hc1 := (hb.cell (p := ⟨b, _, none⟩) hbb).trans hc1
          have hc2 := (hb.cell (p := ⟨b, _, none⟩) hbb).trans hc2
          have hrow := hid hrow
          have hbz := hb.size
          have hcall := hid (law09_cut t[k] (.slice A2 t[k].line.length c2) B0 (wr.alloc (.cells #[.int .i64 t[k].addr, .int .i64 t[k].count, .slice A2 t[k].line.length c2] 42)) (hrow.out.keep ((hb.alloc hbz _).mono hB0) (Nat.le_refl _)) (by simp; omega))
          have hsn := hid (fewS_snoc t k hlt)
          go_wp2_with fail
          refine hcall.out.mono ?_
          rintro e w2 ⟨v2, rfl, hr2, hb2⟩
          obtain ⟨A5, c5, rfl, _, _⟩ := hr2.open
          have hz2 : wr.heap.size < w2.heap.size := by have := hb2.size; simp at this; omega
          have hown2 := hid ((hown.out.alloc hbz (.cells #[.int .i64 t[k].addr, .int .i64 t[k].count, .slice A2 t[k].line.length c2] 42)).grown hb2 (by simp; omega))
          have hb2 := hid ((hb.alloc hbz _).trans (hb2.mono (by simp; omega)))
          have hbz2 := hb2.out.size
          have hok := hid (fun (W : World) (hW : Below w.heap.size w2 W) => show (lowE spotE B0).ok W w.heap.size (cutS t[k]) [.int .i64 (cutS t[k]).addr, .int .i64 (cutS t[k]).count, .slice A5 (cutS t[k]).line.length c5] from ⟨hB0, _, rfl, hr2.keep (hW.mono hB0) (Nat.le_refl _)⟩)
          go_wp2_with (at_builtin; refine wpList_app1 (lowE spotE B0) 33 42 (.agg #[.int .i64 0, .int .i64 0, .slice none 0 0]) 40 Try.underlying33 info_spot rfl (show 0 < 3 by decide) (.tmp 16) (.tmp 19) w.heap.size ((t.take k).map cutS) (cutS t[k]) ((t.take (k + 1)).map cutS) (k + 1) hsn.out.symm (by simp; omega) _ (hown2.out.alloc hbz2 _) rfl _ 1 rfl [.int .i64 (cutS t[k]).addr, .int .i64 (cutS t[k]).count, .slice A5 (cutS t[k]).line.length c5] (hok.out _ ((Below.refl _ _).alloc hbz2 _)) (cell_new _ _ (by simp) _ _) rfl rfl (by simp; omega) (by simp; omega) (by simp; omega) ?_; intro A3 c3 w3 hown3 hb3 _ _; have HO3 := hid hown3; clear hown3)
          go_roundg g
          case rel => exact ⟨k + 1, A3, c3, by omega, by go_num, rfl, HO3.out, (hb2.out.alloc hbz2 _).trans hb3⟩
          case measure => omega
    · have e : m = 70 := by have := hmin.out; omega
      subst e
      clear hmin
      have h70 : (70 : Int) ≤ (t.length : Int) := by omega
      have hmm : 70 ≤ t.length := hmt
      go_enter Try.func16, Try.ntmps16
      go_wp2
      go_loopg [3, 12] 70 (fun g o i wr => ∃ k A1 c1, k + g = 70 ∧ i = .int .i64 (k : Nat) ∧ o = .slice A1 k c1 ∧ Hid (Own (lowE spotE B0) 42 wr w.heap.size o ((t.take k).map cutS)) ∧ Below w.heap.size w wr)
      case atStart => exact ⟨0, _, 0, by omega, rfl, rfl, Own.nil _ _ _ _, Below.refl _ _⟩
      case round =>
        obtain ⟨k, A1, c1, hk, rfl, rfl, hown, hb⟩ := hrel
        cases gk with
        | zero =>
          have hkl := hid (show k = 70 by omega)
          go_wp2
          go_ret
          have e := hkl.out
          subst e
          exact ⟨_, rfl, by rw [← hX.out, hT.out]; exact hown.out, hb⟩
        | succ g =>
          have hlt : k < t.length := by omega
          have hki : (k : Int) < ((70 : Nat) : Int) := by omega
          have hkt : (k : Int) < (t.length : Int) := by omega
          obtain ⟨b, o, A2, c2, rfl, hbb, hc0, hc1, hc2, hrow⟩ := H.out.spot k hlt
          have hbb : b < w.heap.size := Nat.lt_of_lt_of_le hbb hB0
          have hc0 := (hb.cell (p := ⟨b, _, none⟩) hbb).trans hc0
          have hc1 := (hb.cell (p := ⟨b, _, none⟩) hbb).trans hc1
          have hc2 := (hb.cell (p := ⟨b, _, none⟩) hbb).trans hc2
          have hrow := hid hrow
          have hbz := hb.size
          have hcall := hid (law09_cut t[k] (.slice A2 t[k].line.length c2) B0 (wr.alloc (.cells #[.int .i64 t[k].addr, .int .i64 t[k].count, .slice A2 t[k].line.length c2] 42)) (hrow.out.keep ((hb.alloc hbz _).mono hB0) (Nat.le_refl _)) (by simp; omega))
          have hsn := hid (fewS_snoc t k hlt)
          go_wp2_with fail
          refine hcall.out.mono ?_
          rintro e w2 ⟨v2, rfl, hr2, hb2⟩
          obtain ⟨A5, c5, rfl, _, _⟩ := hr2.open
          have hz2 : wr.heap.size < w2.heap.size := by have := hb2.size; simp at this; omega
          have hown2 := hid ((hown.out.alloc hbz (.cells #[.int .i64 t[k].addr, .int .i64 t[k].count, .slice A2 t[k].line.length c2] 42)).grown hb2 (by simp; omega))
          have hb2 := hid ((hb.alloc hbz _).trans (hb2.mono (by simp; omega)))
          have hbz2 := hb2.out.size
          have hok := hid (fun (W : World) (hW : Below w.heap.size w2 W) => show (lowE spotE B0).ok W w.heap.size (cutS t[k]) [.int .i64 (cutS t[k]).addr, .int .i64 (cutS t[k]).count, .slice A5 (cutS t[k]).line.length c5] from ⟨hB0, _, rfl, hr2.keep (hW.mono hB0) (Nat.le_refl _)⟩)
          go_wp2_with (at_builtin; refine wpList_app1 (lowE spotE B0) 33 42 (.agg #[.int .i64 0, .int .i64 0, .slice none 0 0]) 40 Try.underlying33 info_spot rfl (show 0 < 3 by decide) (.tmp 16) (.tmp 19) w.heap.size ((t.take k).map cutS) (cutS t[k]) ((t.take (k + 1)).map cutS) (k + 1) hsn.out.symm (by simp; omega) _ (hown2.out.alloc hbz2 _) rfl _ 1 rfl [.int .i64 (cutS t[k]).addr, .int .i64 (cutS t[k]).count, .slice A5 (cutS t[k]).line.length c5] (hok.out _ ((Below.refl _ _).alloc hbz2 _)) (cell_new _ _ (by simp) _ _) rfl rfl (by simp; omega) (by simp; omega) (by simp; omega) ?_; intro A3 c3 w3 hown3 hb3 _ _; have HO3 := hid hown3; clear hown3)
          go_roundg g
          case rel => exact ⟨k + 1, A3, c3, by omega, by go_num, rfl, HO3.out, (hb2.out.alloc hbz2 _).trans hb3⟩
          case measure => omega
  exact key _ rfl

theorem law09_few (v : Value) (t : List Spot) (w : World) (h : Row spotE w w.heap.size v t) :
    Calls Try.prog 16 #[v] w (RowPost spotE (fewS t) w) :=
  (law09_few_own v t w.heap.size w h (Nat.le_refl _)).mono fun _ _ ⟨v', he, ho, hb⟩ => ⟨v', he, ho.high.row hb.size, hb⟩

theorem alive_set : setErr [] ⟨2008, 3, []⟩ = 0 ∧ setRow [] ⟨2008, 3, []⟩ = [⟨2008, 3, []⟩] := by decide +kernel

theorem law09_alive (w : World) : Calls Try.prog 19 #[] w fun e w' => e = .returned (.bool true) ∧ Below w.heap.size w w' := by
  have hS := hid (fun W => root_Set (.slice none 0 0) (.slice none 0 0) [] ⟨2008, 3, []⟩ W (Row.nil _ _ _) (Row.nil _ _ _))
  rw [alive_set.1, alive_set.2] at hS
  have hra : isAddr 2008 = true := by decide +kernel
  have hrt : rootOf 2008 = 0 := by decide +kernel
  have hR := hid (fun W => root_Root 2008 W hra)
  rw [hrt] at hR
  clear hra hrt
  go_enter Try.func19, Try.ntmps19
  go_wp2_with fail
  refine (hS.out _).mono ?_
  rintro e w1 ⟨v1, rfl, hr1, hb1⟩
  obtain ⟨A1, c1, rfl, hlc, hcm⟩ := hr1.open
  obtain ⟨b, o, A', c', rfl, hbb, hc0, hc1, hc2, hrow⟩ := hr1.spot 0 (by simp)
  simp only [List.getElem_cons_zero, List.length_singleton, Nat.zero_mul, Nat.add_zero] at hc0 hc1 hc2 hlc
  have hr1 := hid hr1
  have hb1 := hid hb1
  go_wp2_with (go_at_call 20; refine (hR.out _).mono ?_; rintro e w2 ⟨rfl, rfl⟩)
  go_ret
  exact ⟨rfl, hb1.out⟩
end Go.Proofs.Ytbbkgibopicaeaa
