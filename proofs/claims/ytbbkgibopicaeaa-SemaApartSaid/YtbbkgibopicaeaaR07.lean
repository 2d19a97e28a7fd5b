/- The reference of layer 7 (lines): each function comes to its plain function. -/
import Derived.Test.YtbbkgibopicaeaaProg
import Derived.Test.YtbbkgibopicaeaaInfo
namespace Go.Proofs.Ytbbkgibopicaeaa
set_option linter.unusedVariables false
set_option linter.unusedSimpArgs false
open Go.RowKit

set_option maxHeartbeats 400000 in
theorem ref07_Place (v : Value) (l : List Int) (who : Int) (w : World) (h : Row intE w w.heap.size v l) :
    Calls Try.prog 34 #[v, .int .i64 who] w fun e w' => e = .returned (.int .i64 (place l who)) ∧ w = w' := by
  obtain ⟨A, c, rfl, hlc, hcm⟩ := h.open
  unfold maxLen at hcm
  have H := hid h
  clear h
  go_enter Try.func34, Try.ntmps34
  go_wp2
  go_loop [9] (fun i => ∃ k : Nat, k ≤ l.length ∧ i = .int .i64 k ∧ Hid (∀ j (hj : j < l.length), j < k → l[j] ≠ who)) (fun i => l.length - (intOf i).toNat)
  case atStart => exact ⟨0, Nat.zero_le _, rfl, fun j hj h => by omega⟩
  case round =>
    obtain ⟨k, hk, rfl, hno⟩ := hrel
    by_cases hlt : k < l.length
    · obtain ⟨b, o, rfl, hb, hc⟩ := H.out.int k hlt
      by_cases he : l[k] = who
      · have he1 : (l[k] == who) = true := by simp [he]
        have hp := hid (place_eq l who k hlt he hno.out)
        go_wp2
        go_ret
        exact ⟨ret_int hp.out.symm, rfl⟩
      · have he1 : (l[k] == who) = false := by simp [he]
        have he := hid he
        go_wp2
        go_round
        case rel => exact ⟨k + 1, by omega, by go_num, fun j hj hjk => by by_cases e : j = k; · subst e; exact he.out
                                                                          · exact hno.out j hj (by omega)⟩
        case measure => simp [intOf]; omega
    · have hp := hid (place_none l who (fun j hj => hno.out j hj (by omega)))
      go_wp2
      go_ret
      exact ⟨ret_int hp.out.symm, rfl⟩

set_option maxHeartbeats 400000 in
theorem ref07_Same (v v' : Value) (l l' : List Int) (w : World) (h : Row intE w w.heap.size v l) (h' : Row intE w w.heap.size v' l') :
    Calls Try.prog 29 #[v, v'] w fun e w' => e = .returned (.bool (decide (l = l'))) ∧ Below w.heap.size w w' := by
  obtain ⟨A, c, rfl, hlc, hcm⟩ := h.open
  obtain ⟨A', c', rfl, hlc', hcm'⟩ := h'.open
  unfold maxLen at hcm hcm'
  have H := hid h
  have H' := hid h'
  clear h h'
  by_cases hl : l.length = l'.length
  · have hl1 : ((l.length : Int) != (l'.length : Int)) = false := by simp [hl]
    have hl2 : l.length ≤ l'.length := by omega
    have hl3 : l'.length ≤ l.length := by omega
    have hl := hid hl
    go_enter Try.func29, Try.ntmps29
    go_wp2
    go_loopw [13] (fun i wr => ∃ k : Nat, k ≤ l.length ∧ i = .int .i64 k ∧ Hid (∀ j (hj : j < l.length) (hj' : j < l'.length), j < k → l[j] = l'[j]) ∧ Below w.heap.size w wr) (fun i _ => l.length - (intOf i).toNat)
    case atStart => exact ⟨0, Nat.zero_le _, rfl, fun j hj _ h => by omega, Below.refl _ _⟩
    case round =>
      obtain ⟨k, hk, rfl, hno, hb⟩ := hrel
      by_cases hlt : k < l.length
      · have hlt' : k < l'.length := by omega
        obtain ⟨b, o, rfl, hbb, hc⟩ := H.out.int k hlt
        obtain ⟨b', o', rfl, hbb', hc'⟩ := H'.out.int k hlt'
        have hcr := (hb.cell (p := ⟨b, _, none⟩) hbb).trans hc
        have hcr' := (hb.cell (p := ⟨b', _, none⟩) hbb').trans hc'
        clear hc hc'
        by_cases he : l[k] = l'[k]
        · have he1 : (l[k] != l'[k]) = false := by simp [he]
          have he := hid he
          have hi1 : (k : Int) < (l.length : Int) := by omega
          have hi2 : (k : Int) < (l'.length : Int) := by omega
          go_wp2
          go_quiet (fail)
          go_wp2
          go_roundw
          case rel => exact ⟨k + 1, by omega, by go_num, fun j hj hj' hjk => by by_cases e : j = k; · subst e; exact he.out
                                                                                · exact hno.out j hj hj' (by omega), bdrawN hb _⟩
          case measure => simp [intOf]; omega
        · have he1 : (l[k] != l'[k]) = true := by simp [he]
          have he := hid he
          have hi1 : (k : Int) < (l.length : Int) := by omega
          have hi2 : (k : Int) < (l'.length : Int) := by omega
          go_wp2
          go_quiet (fail)
          go_wp2
          go_ret
          exact ⟨ret_bool (by rw [eq_comm, decide_eq_false_iff_not]; intro e; subst e; exact he.out rfl), bdrawN hb _⟩
      · have hfin : Hid (l = l') := List.ext_getElem hl.out (fun j hj hj' => hno.out j hj hj' (by omega))
        go_wp2
        go_ret
        exact ⟨ret_bool (by rw [eq_comm, decide_eq_true_iff]; exact hfin.out), hb⟩
  · have hl1 : ((l.length : Int) != (l'.length : Int)) = true := by simp; omega
    have hn : Hid (¬ l = l') := fun e => hl (by rw [e])
    have hl := hid hl
    go_enter Try.func29, Try.ntmps29
    go_wp2
    go_ret
    exact ⟨ret_bool (by rw [eq_comm, decide_eq_false_iff_not]; exact hn.out), Below.refl _ _⟩

/-- A line with one more. -/
theorem ref07_Push (v : Value) (l : List Int) (who : Int) (first : Bool) (w : World) (h : Row intE w w.heap.size v l) (hn : l.length ≤ 1000000000) :
    Calls Try.prog 37 #[v, .int .i64 who, .bool first] w (RowPost intE (if first = true then who :: l else l ++ [who]) w) := by
  obtain ⟨A, c, rfl, hlc, hcm⟩ := h.open
  unfold maxLen at hcm
  have H := hid h
  clear h
  have H1 := hid (H.out.keep ((Below.refl w.heap.size w).alloc (Nat.le_refl _) (.cells #[] 3)) (Nat.le_refl _))
  have HO := hid (Own.empty intE 3 w w.heap.size (Nat.le_refl _))
  cases first
  · go_enter Try.func37, Try.ntmps37
    go_wp2_with (first
      | (at_builtin; refine wpList_appn intE 36 3 (.int .i64 0) 8 Try.underlying36 info_int rfl (by decide) (.tmp 14) (.tmp 15) w.heap.size [] l l l.length (by simp) (by simp) _ HO.out rfl _ H1.out rfl rfl rfl (by simp; omega) (by simp; omega) (by simp) ?_; intro A1 c1 w1 hown1 hb1 hc1 hc2; have HO1 := hid hown1; clear hown1; have hs1 := hb1.size; simp only [World.size_alloc] at hs1)
      | (at_builtin; go_loud (refine wpList_app1 intE 36 3 (.int .i64 0) 8 Try.underlying36 info_int rfl (by decide) (.tmp 19) (.tmp 21) w.heap.size l who (l ++ [who]) (l.length + 1) rfl rfl _ (HO1.out.alloc (by omega) _) rfl _ 1 rfl [.int .i64 who] rfl (cell_one _ _ _) rfl rfl (by omega) (by omega) (by simp; omega) ?_); intro A2 c2 w2 hown2 hb2 hc3 hc4; have HO2 := hid hown2; clear hown2; have hs2 := hb2.size; simp only [World.size_alloc] at hs2))
    go_ret
    exact ⟨_, rfl, HO2.out.row (by omega), (((Below.refl _ _).alloc (Nat.le_refl _) _).trans hb1).trans ((((Below.refl _ _).alloc (by omega) _).trans hb2))⟩
  · go_enter Try.func37, Try.ntmps37
    go_wp2_with (first
      | (at_builtin; refine wpList_app1 intE 36 3 (.int .i64 0) 8 Try.underlying36 info_int rfl (by decide) (.tmp 10) (.tmp 12) w.heap.size [] who [who] 1 rfl rfl _ (HO.out.alloc (by simp) _) rfl _ 1 rfl [.int .i64 who] rfl (by simpa using cell_one (w.alloc (.cells #[] 3)) (.int .i64 who) 3) rfl rfl (by simp) (by simp) (by (try simp) <;> omega) ?_; intro A1 c1 w1 hown1 hb1 hc1 hc2; have HO1 := hid hown1; clear hown1; have hs1 := hb1.size; simp only [World.size_alloc] at hs1; have HR := hid (H1.out.keep (((Below.refl _ _).alloc (by simp) (.cells #[.int .i64 who] 3)).trans hb1) (Nat.le_refl _)))
      | (at_builtin; go_loud (refine wpList_appn intE 36 3 (.int .i64 0) 8 Try.underlying36 info_int rfl (by decide) (.tmp 14) (.tmp 15) w.heap.size [who] l (who :: l) (l.length + 1) rfl (by simp; omega) _ HO1.out rfl _ HR.out rfl rfl rfl (by simp; omega) (by simp; omega) (by omega) ?_); intro A2 c2 w2 hown2 hb2 hc3 hc4; have HO2 := hid hown2; clear hown2; have hs2 := hb2.size))
    go_ret
    exact ⟨_, rfl, HO2.out.row (by omega), ((((Below.refl _ _).alloc (Nat.le_refl _) _).alloc (by simp) _).trans hb1).trans hb2⟩

set_option maxHeartbeats 800000 in
theorem ref07_Right (v : Value) (l : List Int) (w : World) (h : Row intE w w.heap.size v l) :
    Calls Try.prog 65 #[v] w fun e w' => e = .returned (.bool (lineRight l)) ∧ w = w' := by
  obtain ⟨A, c, rfl, hlc, hcm⟩ := h.open
  unfold maxLen at hcm
  have H := hid h
  clear h
  go_enter Try.func65, Try.ntmps65
  go_wp2
  go_loop [7] (fun i => ∃ k : Nat, k ≤ l.length ∧ i = .int .i64 k ∧ Hid (∀ j (hj : j < l.length), j < k → 0 ≤ l[j]) ∧ Hid ((l.take k).Nodup)) (fun i => l.length - (intOf i).toNat)
  case atStart => exact ⟨0, Nat.zero_le _, rfl, fun j hj h => by omega, by simp [Hid]⟩
  case round =>
    obtain ⟨k, hk, rfl, hpos, hnd⟩ := hrel
    by_cases hlt : k < l.length
    · obtain ⟨b, o, hA, hb, hc⟩ := H.out.int k hlt
      have HT := hid (H.out.take k hk)
      subst hA
      by_cases hx : l[k] < 0
      · have hp := hid (lineRight_neg l k hlt hx)
        go_wp2
        go_ret
        exact ⟨ret_bool hp.out.symm, rfl⟩
      · have hx' : ¬ (l[k] < 0) := hx
        have hx0 : 0 ≤ l[k] := by omega
        clear hx
        by_cases hm : place (l.take k) l[k] < 0
        · have hm' : ¬ (0 ≤ place (l.take k) l[k]) := by omega
          have hst := hid (nodup_step l k hlt hnd.out ((place_neg _ _).1 hm))
          clear hm
          go_wp2_with (go_at_call 34; refine (ref07_Place _ (l.take k) _ _ HT.out).mono ?_; rintro e w' ⟨rfl, rfl⟩)
          go_round
          case rel => exact ⟨k + 1, by omega, by go_num, fun j hj hjk => by by_cases e : j = k; · subst e; exact hx0
                                                                            · exact hpos.out j hj (by omega), hst.out⟩
          case measure => simp [intOf]; omega
        · have hm' : 0 ≤ place (l.take k) l[k] := by omega
          have hp := hid (lineRight_dup l k hlt (by have h1 := mt (place_neg (l.take k) l[k]).2 hm; simpa using h1))
          clear hm
          go_wp2_with (go_at_call 34; refine (ref07_Place _ (l.take k) _ _ HT.out).mono ?_; rintro e w' ⟨rfl, rfl⟩)
          go_ret
          exact ⟨ret_bool hp.out.symm, rfl⟩
    · obtain rfl : k = l.length := by omega
      have hp := hid (lineRight_end l (fun j hj => hpos.out j hj hj) hnd.out)
      go_wp2
      go_ret
      exact ⟨ret_bool (by rw [hp.out]; simp; omega), rfl⟩
end Go.Proofs.Ytbbkgibopicaeaa
