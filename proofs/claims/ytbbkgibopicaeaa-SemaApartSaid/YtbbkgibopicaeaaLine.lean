/- Layer 7 of the program: lines; and the library's Index and Contains at whole numbers. -/
import Derived.Test.YtbbkgibopicaeaaInfo
namespace Go.Proofs.Ytbbkgibopicaeaa
set_option linter.unusedVariables false
set_option linter.unusedSimpArgs false
open Go.RowKit

set_option maxHeartbeats 400000 in
theorem slices_Index (v : Value) (l : List Int) (who : Int) (w : World) (h : Row intE w w.heap.size v l) :
    Calls Try.prog 88 #[v, .int .i64 who] w fun e w' => e = .returned (.int .i64 (place l who)) ∧ w = w' := by
  obtain ⟨A, c, rfl, hlc, hcm⟩ := h.open
  unfold maxLen at hcm
  have H := hid h
  clear h
  go_enter Try.func88, Try.ntmps88
  go_wp2
  go_loop [8] (fun i => ∃ k : Nat, k ≤ l.length ∧ i = .int .i64 k ∧ Hid (∀ j (hj : j < l.length), j < k → l[j] ≠ who)) (fun i => l.length - (intOf i).toNat)
  case atStart => exact ⟨0, Nat.zero_le _, rfl, fun j hj h => by omega⟩
  case round =>
    obtain ⟨k, hk, rfl, hno⟩ := hrel
    by_cases hlt : k < l.length
    · obtain ⟨b, o, rfl, hb, hc⟩ := H.out.int k hlt
      by_cases he : l[k] = who
      · have he1 : (who == l[k]) = true := by simp [he]
        have hp := hid (place_eq l who k hlt he hno.out)
        go_wp2
        go_ret
        exact ⟨ret_int hp.out.symm, rfl⟩
      · have he1 : (who == l[k]) = false := by simp; exact fun e => he e.symm
        have he := hid he
        go_wp2
        go_round
        case rel => exact ⟨k + 1, by omega, by go_num, fun j hj hjk => by by_cases e : j = k; · subst e; exact he.out
                                                                          · exact hno.out j hj (by omega)⟩
        case measure => simp [intOf]; omega
    · have hp := hid (place_none l who (fun j hj => hno.out j hj (by omega)))
      go_wp2
      go_ret
      exact ⟨ret_int hp.out.symm, rfl⟩

theorem slices_Contains (v : Value) (l : List Int) (who : Int) (w : World) (h : Row intE w w.heap.size v l) :
    Calls Try.prog 66 #[v, .int .i64 who] w fun e w' => e = .returned (.bool (decide (0 ≤ place l who))) ∧ w = w' := by
  have H := hid h
  clear h
  go_enter Try.func66, Try.ntmps66
  go_wp2_with (go_at_call 88; refine (slices_Index _ l _ _ H.out).mono ?_; rintro e w' ⟨rfl, rfl⟩)
  go_ret
  exact ⟨rfl, rfl⟩

set_option maxHeartbeats 1600000 in
theorem line_Right (v : Value) (l : List Int) (w : World) (h : Row intE w w.heap.size v l) :
    Calls Try.prog 76 #[v] w fun e w' => e = .returned (.bool (lineRight l)) ∧ w = w' := by
  obtain ⟨A, c, rfl, hlc, hcm⟩ := h.open
  unfold maxLen at hcm
  have H := hid h
  clear h
  go_enter Try.func76, Try.ntmps76
  go_wp2
  go_step3
  go_wp2
  go_step3
  go_wp2
  go_loopg [9] (l.length) (fun g i wr => ∃ k : Nat, k + g = l.length ∧ i = .int .i64 k ∧ Hid (∀ j (hj : j < l.length), j < k → 0 ≤ l[j]) ∧ Hid ((l.take k).Nodup) ∧ w = wr)
  case atStart => exact ⟨0, by omega, rfl, fun j hj h => by omega, by simp [Hid], rfl⟩
  case round =>
    obtain ⟨k, hk, rfl, hpos, hnd, rfl⟩ := hrel
    cases gk with
    | zero =>
      obtain rfl : k = l.length := by omega
      have hp := hid (lineRight_end l (fun j hj => hpos.out j hj hj) hnd.out)
      go_wp2
      rw [Exit.noGoto_ret]
      go_ret
      exact ⟨ret_bool (by rw [hp.out]; simp; omega), rfl⟩
    | succ g =>
      have hlt : k < l.length := by omega
      obtain ⟨b, o, hA, hb, hc⟩ := H.out.int k hlt
      subst hA
      go_wp2
      go_loopg [18] k (fun g2 i wr => ∃ j : Nat, j + g2 = k ∧ i = .int .i64 j ∧ Hid (∀ m (hm : m < l.length), m < j → l[k] ≠ l[m]) ∧ w = wr)
      case atStart => exact ⟨0, by omega, rfl, fun j hj h => by omega, rfl⟩
      case round =>
        obtain ⟨j, hj, rfl, hne, rfl⟩ := hrel
        cases gk with
        | zero =>
          obtain rfl : j = k := by omega
          by_cases hx : l[j] < 0
          · have hp := hid (lineRight_neg l j hlt hx)
            go_wp2
            rw [Exit.noGoto_ret]
            go_ret
            exact ⟨ret_bool hp.out.symm, rfl⟩
          · have hx0 : 0 ≤ l[j] := by omega
            have hst := hid (nodup_step l j hlt hnd.out (not_mem_take l j l[j] (by omega) hne.out))
            go_wp2
            go_roundg g
            case rel => exact ⟨j + 1, by omega, by go_num, fun m hm hmj => by by_cases e : m = j; · subst e; exact hx0
                                                                              · exact hpos.out m hm (by omega), hst.out, rfl⟩
            case measure => omega
        | succ g2 =>
          have hjk : (j : Int) < (k : Int) := by omega
          obtain ⟨b', o', e, _, hc'⟩ := H.out.int j (by omega)
          simp only [Option.some.injEq, Addr.mk.injEq, and_true] at e
          obtain ⟨rfl, rfl⟩ := e
          by_cases he : l[k] = l[j]
          · have he1 : (l[k] != l[j]) = false := by simp [he]
            have hp := hid (lineRight_dup l k hlt (mem_take_at l k j l[k] (by omega) (by omega) he))
            have he := hid he
            go_wp2
            rw [Exit.noGoto_ret]
            go_ret
            exact ⟨ret_bool hp.out.symm, rfl⟩
          · have he1 : (l[k] != l[j]) = true := by simp [he]
            have he := hid he
            go_wp2
            go_roundg g2
            case rel => exact ⟨j + 1, by omega, by go_num, fun m hm hmj => by by_cases e : m = j; · subst e; exact he.out
                                                                              · exact hne.out m hm (by omega), rfl⟩
            case measure => omega

theorem take_succ_flat (ls : List (List Int)) (k : Nat) (hk : k < ls.length) : (ls.take k).flatten ++ ls[k] = (ls.take (k + 1)).flatten := by
  rw [List.take_succ_eq_append_getElem hk, List.flatten_append]; simp

theorem flat_take_le (ls : List (List Int)) (k : Nat) : (ls.take k).flatten.length ≤ ls.flatten.length := by
  conv => rhs; rw [← List.take_append_drop k ls, List.flatten_append, List.length_append]
  omega

set_option maxHeartbeats 800000 in
/-- Rows, one behind the other. -/
theorem line_joined (v : Value) (ls : List (List Int)) (w : World) (h : Row (rowE intE) w w.heap.size v ls) (hn : ls.flatten.length ≤ 1000000000) :
    Calls Try.prog 89 #[v] w (RowPost intE ls.flatten w) := by
  obtain ⟨A, c, rfl, hlc, hcm⟩ := h.open
  unfold maxLen at hcm
  have H := hid h
  clear h
  go_enter Try.func89, Try.ntmps89
  go_wp2
  go_loopg [3, 8] ls.length (fun g o i wr => ∃ k A n c, k + g = ls.length ∧ i = .int .i64 (k : Nat) ∧ o = .slice A n c ∧ Hid ((ls.take k).flatten.length = n) ∧ Hid (Own intE 3 wr w.heap.size o (ls.take k).flatten) ∧ Below w.heap.size w wr)
  case atStart => exact ⟨0, none, 0, 0, by omega, rfl, rfl, rfl, Own.nil _ _ _ _, Below.refl _ _⟩
  case round =>
    obtain ⟨k, A1, n1, c1, hk, rfl, rfl, hn1, hown, hb⟩ := hrel
    cases gk with
    | zero =>
      obtain rfl : k = ls.length := by omega
      have hs := hb.size
      go_wp2
      go_ret
      exact ⟨_, rfl, by have := hown.out.row hs; rw [List.take_length] at this; exact this, hb⟩
    | succ g =>
      have hlt : k < ls.length := by omega
      have hki : (k : Int) < (ls.length : Int) := by omega
      obtain ⟨b, o, cs, rfl, hbb, ⟨u, rfl, hrow⟩, hc⟩ := H.out.at k ls[k] (by simp [hlt])
      have hc := (hb.cell (p := ⟨b, _, none⟩) hbb).trans (hc 0 u rfl)
      simp only [rowE, Nat.mul_one, Nat.add_zero] at hc
      have hrow := hid (hrow.below hb)
      have hl1 := hid (take_succ_flat ls k hlt)
      have hl2 := flat_take_le ls (k + 1)
      obtain ⟨n2, hn2⟩ : ∃ n, (ls.take (k + 1)).flatten.length = n := ⟨_, rfl⟩
      have hl3 : (ls.take k).flatten.length + ls[k].length = n2 := by rw [← hn2, ← hl1.out, List.length_append]
      have hl4 : (ls.take k).flatten.length + ls[k].length ≤ 1000000000 := by rw [hl3, ← hn2]; omega
      have hl3 := hid hl3
      have hl4 := hid hl4
      have hn2 := hid hn2
      clear hl2
      have hs := hb.size
      obtain ⟨A2, c2, rfl, _, _⟩ := hrow.out.open
      go_wp2_with (at_builtin; refine wpList_appn intE 36 3 (.int .i64 0) 8 Try.underlying36 info_int rfl (by decide) (.tmp 12) (.tmp 13) w.heap.size (ls.take k).flatten ls[k] (ls.take (k + 1)).flatten n2 hl1.out hl3.out _ hown.out rfl _ hrow.out rfl rfl rfl (by have := hl4.out; omega) (by have := hl4.out; omega) hs ?_; intro A3 c3 w3 hown3 hb3 hc31 hc32; have HO3 := hid hown3; clear hown3)
      go_roundg g
      case rel => exact ⟨k + 1, _, _, _, by omega, by go_num, rfl, hn2, HO3, hb.trans hb3⟩
      case measure => omega

/-- One comes to a line. -/
def pushE (l : List Int) (who : Int) (first : Bool) : Int := if lineRight l = false ∨ who < 0 then 1 else if 0 ≤ place l who then 7 else if l.length = 64 then 5 else 0
def pushL (l : List Int) (who : Int) (first : Bool) : List Int := if pushE l who first = 0 then (if first = true then who :: l else l ++ [who]) else []

set_option maxHeartbeats 800000 in
theorem line_Push (v : Value) (l : List Int) (who : Int) (first : Bool) (w : World) (h : Row intE w w.heap.size v l) (hn : l.length ≤ 100000000) :
    Calls Try.prog 67 #[v, .int .i64 who, .bool first] w (RowErrPost intE (pushL l who first) (pushE l who first) w) := by
  obtain ⟨A, c, rfl, hlc, hcm⟩ := h.open
  unfold maxLen at hcm
  have H := hid h
  clear h
  have aR := hid (fun W => line_Right (.slice A l.length c) l W)
  have aC := hid (fun W => slices_Contains (.slice A l.length c) l who W)
  by_cases h1 : lineRight l = true
  · by_cases h2 : who < 0
    · have hE := hid (show pushE l who first = 1 by simp [pushE, h1, h2])
      have hL := hid (show pushL l who first = [] by simp [pushL, hE.out])
      go_enter Try.func67, Try.ntmps67
      go_wp2_with (first
        | (go_at_call 76; refine (aR.out _ H.out).mono ?_; rintro e w' ⟨rfl, rfl⟩)
        | (go_at_call 66; refine (aC.out _ H.out).mono ?_; rintro e w' ⟨rfl, rfl⟩))
      go_ret2
      exact errNil hL.out hE.out (Below.refl _ _)
    · by_cases h3 : 0 ≤ place l who
      · have hE := hid (show pushE l who first = 7 by simp [pushE, h1, h2, h3])
        have hL := hid (show pushL l who first = [] by simp [pushL, hE.out])
        go_enter Try.func67, Try.ntmps67
        go_wp2_with (first
          | (go_at_call 76; refine (aR.out _ H.out).mono ?_; rintro e w' ⟨rfl, rfl⟩)
          | (go_at_call 66; refine (aC.out _ H.out).mono ?_; rintro e w' ⟨rfl, rfl⟩))
        go_ret2
        exact errNil hL.out hE.out (Below.refl _ _)
      · by_cases h4 : l.length = 64
        · have hE := hid (show pushE l who first = 5 by simp [pushE, h1, h2, h3, h4])
          have hL := hid (show pushL l who first = [] by simp [pushL, hE.out])
          have h4' : ((l.length : Int) == 64) = true := by simp [h4]
          have h4x := hid h4
          clear h4
          go_enter Try.func67, Try.ntmps67
          go_wp2_with (first
            | (go_at_call 76; refine (aR.out _ H.out).mono ?_; rintro e w' ⟨rfl, rfl⟩)
            | (go_at_call 66; refine (aC.out _ H.out).mono ?_; rintro e w' ⟨rfl, rfl⟩))
          go_ret2
          exact errNil hL.out hE.out (Below.refl _ _)
        · have h4' : ((l.length : Int) == 64) = false := by simp; omega
          have hE := hid (show pushE l who first = 0 by simp [pushE, h1, h2, h3, h4])
          have h4x := hid h4
          clear h4
          cases first
          · have hL := hid (show pushL l who false = l ++ [who] by simp [pushL, hE.out])
            go_enter Try.func67, Try.ntmps67
            go_wp2_with (first
              | (go_at_call 76; refine (aR.out _ H.out).mono ?_; rintro e w' ⟨rfl, rfl⟩)
              | (go_at_call 66; refine (aC.out _ H.out).mono ?_; rintro e w' ⟨rfl, rfl⟩)
              | (go_at_call 89; refine (line_joined _ [l, [who]] _ (row_two _ _ (by simp) (H.out.keep ((Below.refl _ _).alloc (Nat.le_refl _) _) (by simp)) (row_one _ _ _ _ rfl)) (by simp; omega)).mono ?_; rintro e w' ⟨v, rfl, hr, hb⟩; have hr := hid hr))
            go_ret2
            exact ⟨v, by rw [hE.out]; rfl, by rw [hL.out]; simpa using hr.out, (((Below.refl _ _).alloc (Nat.le_refl _) _).alloc (by simp) _).trans (hb.mono (by simp; omega))⟩
          · have hL := hid (show pushL l who true = who :: l by simp [pushL, hE.out])
            go_enter Try.func67, Try.ntmps67
            go_wp2_with (first
              | (go_at_call 76; refine (aR.out _ H.out).mono ?_; rintro e w' ⟨rfl, rfl⟩)
              | (go_at_call 66; refine (aC.out _ H.out).mono ?_; rintro e w' ⟨rfl, rfl⟩)
              | (go_at_call 89; refine (line_joined _ [[who], l] _ (row_two _ _ (by simp) (row_one _ _ _ _ rfl) (H.out.keep ((Below.refl _ _).alloc (Nat.le_refl _) _) (by simp))) (by simp; omega)).mono ?_; rintro e w' ⟨v, rfl, hr, hb⟩; have hr := hid hr))
            go_ret2
            exact ⟨v, by rw [hE.out]; rfl, by rw [hL.out]; simpa using hr.out, (((Below.refl _ _).alloc (Nat.le_refl _) _).alloc (by simp) _).trans (hb.mono (by simp; omega))⟩
  · have hE := hid (show pushE l who first = 1 by simp [pushE, h1])
    have hL := hid (show pushL l who first = [] by simp [pushL, hE.out])
    go_enter Try.func67, Try.ntmps67
    go_wp2_with (first
      | (go_at_call 76; refine (aR.out _ H.out).mono ?_; rintro e w' ⟨rfl, rfl⟩)
      | (go_at_call 66; refine (aC.out _ H.out).mono ?_; rintro e w' ⟨rfl, rfl⟩))
    go_ret2
    exact errNil hL.out hE.out (Below.refl _ _)

/-- The next one goes: the line without, that, and an error. -/
def popE (l : List Int) : Int := if lineRight l = false then 1 else if l = [] then 4 else 0
def PopPost (l : List Int) (w : World) (e : Ending) (w' : World) : Prop :=
  ∃ v, e = .returned (.tuple #[v, .int .i64 (if popE l = 0 then l.headD 0 else 0), .int .i64 (popE l)]) ∧ Row intE w' w.heap.size v (if popE l = 0 then l.tail else []) ∧ Below w.heap.size w w'

set_option maxHeartbeats 800000 in
theorem line_Pop (v : Value) (l : List Int) (w : World) (h : Row intE w w.heap.size v l) :
    Calls Try.prog 68 #[v] w (PopPost l w) := by
  obtain ⟨A, c, rfl, hlc, hcm⟩ := h.open
  unfold maxLen at hcm
  have H := hid h
  clear h
  have aR := hid (fun W => line_Right (.slice A l.length c) l W)
  by_cases h1 : lineRight l = true
  · by_cases hl : l.length = 0
    · obtain rfl : l = [] := List.eq_nil_of_length_eq_zero hl
      have hE := hid (show popE [] = 4 by simp [popE, h1])
      clear hl
      go_enter Try.func68, Try.ntmps68
      go_wp2_with (first
        | (go_at_call 76; refine (aR.out _ H.out).mono ?_; rintro e w' ⟨rfl, rfl⟩))
      go_ret3
      exact ⟨_, by rw [hE.out]; rfl, by rw [hE.out]; exact Row.nil _ _ _, Below.refl _ _⟩
    · have hE := hid (show popE l = 0 by simp [popE, h1]; intro e; subst e; simp at hl)
      have hl1 : 0 < l.length := by omega
      have hl0 : ((l.length : Int) == 0) = false := beq_eq_false_iff_ne.2 (by omega)
      have hd := hid (show l.headD 0 = l[0] by cases l with | nil => simp at hl1 | cons x r => rfl)
      have ht := hid (show l.tail = l.drop 1 by simp)
      clear hl
      obtain ⟨b, o, rfl, hbb, hc⟩ := H.out.int 0 hl1
      simp only [Nat.add_zero] at hc
      have hi1 : (0 : Int) < (l.length : Int) := by omega
      have hi2 : (1 : Int) ≤ (l.length : Int) := by omega
      by_cases hc1 : c = 1
      · subst hc1
        go_enter Try.func68, Try.ntmps68
        go_wp2_with (first
          | (go_at_call 76; refine (aR.out _ H.out).mono ?_; rintro e w' ⟨rfl, rfl⟩))
        go_quiet (fail)
        go_wp2
        go_ret3
        exact ⟨_, by rw [hE.out, if_pos rfl, hd.out]; rfl, by rw [hE.out, if_pos rfl, ht.out]; exact (H.out.drop (A' := some ⟨b, o, none⟩) 1 hl1 (by omega) (by simp) _ _ (by omega) (by omega)).below (bdrawN (Below.refl _ _) _), bdrawN (Below.refl _ _) _⟩
      · go_enter Try.func68, Try.ntmps68
        go_wp2_with (first
          | (go_at_call 76; refine (aR.out _ H.out).mono ?_; rintro e w' ⟨rfl, rfl⟩))
        go_quiet (fail)
        go_wp2
        go_ret3
        exact ⟨_, by rw [hE.out, if_pos rfl, hd.out]; rfl, by rw [hE.out, if_pos rfl, ht.out]; exact (H.out.drop 1 hl1 (by intro _ b' o' e; simp at e; obtain ⟨rfl, rfl⟩ := e; simp [intE]) (by simp) _ _ (by omega) (by omega)).below (bdrawN (Below.refl _ _) _), bdrawN (Below.refl _ _) _⟩
  · have hE := hid (show popE l = 1 by simp [popE, h1])
    go_enter Try.func68, Try.ntmps68
    go_wp2_with (first
      | (go_at_call 76; refine (aR.out _ H.out).mono ?_; rintro e w' ⟨rfl, rfl⟩))
    go_ret3
    exact ⟨_, by rw [hE.out]; rfl, by rw [hE.out]; exact Row.nil _ _ _, Below.refl _ _⟩
end Go.Proofs.Ytbbkgibopicaeaa
