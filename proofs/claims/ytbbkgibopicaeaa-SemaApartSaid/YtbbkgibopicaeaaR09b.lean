/- The reference of layer 9, the rest: what is the same; what an address has; the addresses of a root; a spot in its place. -/
import Derived.Test.YtbbkgibopicaeaaR09
namespace Go.Proofs.Ytbbkgibopicaeaa
set_option linter.unusedVariables false
set_option linter.unusedSimpArgs false
open Go.RowKit

set_option maxHeartbeats 800000 in
theorem ref09_Spots (s u : Spot) (v v' : Value) (w : World) (h : Row intE w w.heap.size v s.line) (h' : Row intE w w.heap.size v' u.line) :
    Calls Try.prog 27 #[.agg #[.int .i64 s.addr, .int .i64 s.count, v], .agg #[.int .i64 u.addr, .int .i64 u.count, v']] w fun e w' => e = .returned (.bool (decide (s = u))) ∧ Below w.heap.size w w' := by
  obtain ⟨A, c, rfl, hlc, hcm⟩ := h.open
  obtain ⟨A', c', rfl, hlc', hcm'⟩ := h'.open
  have hfin := hid (show decide (s = u) = (decide (s.addr = u.addr) && decide (s.count = u.count) && decide (s.line = u.line)) by
    cases s; cases u; rw [Bool.eq_iff_iff]; simp [and_assoc])
  have H := hid (fun o o' => h.keep (((Below.refl w.heap.size w).alloc (Nat.le_refl _) o).alloc (by simp) o') (by simp; omega : w.heap.size ≤ ((w.alloc o).alloc o').heap.size))
  have H' := hid (fun o o' => h'.keep (((Below.refl w.heap.size w).alloc (Nat.le_refl _) o).alloc (by simp) o') (by simp; omega : w.heap.size ≤ ((w.alloc o).alloc o').heap.size))
  clear h h'
  by_cases h1 : s.addr = u.addr
  · have h1' : (s.addr == u.addr) = true := by simp [h1]
    have h1x := hid h1
    clear h1
    by_cases h2 : s.count = u.count
    · have h2' : (s.count == u.count) = true := by simp [h2]
      have h2x := hid h2
      clear h2
      go_enter Try.func27, Try.ntmps27
      go_wp2_with (go_at_call 29; refine (ref07_Same _ _ s.line u.line _ (H.out _ _) (H'.out _ _)).mono ?_; rintro e w2 ⟨rfl, hb2⟩)
      go_ret
      exact ⟨ret_bool (by rw [hfin.out]; simp [h1x.out, h2x.out]), (((Below.refl _ _).alloc (Nat.le_refl _) _).alloc (by simp) _).trans (hb2.mono (by simp; omega))⟩
    · have h2' : (s.count == u.count) = false := by simp [h2]
      have h2x := hid h2
      clear h2
      go_enter Try.func27, Try.ntmps27
      go_wp2
      go_ret
      exact ⟨ret_bool (by rw [hfin.out]; simp [h2x.out]), ((Below.refl _ _).alloc (Nat.le_refl _) _).alloc (by simp) _⟩
  · have h1' : (s.addr == u.addr) = false := by simp [h1]
    have h1x := hid h1
    clear h1
    go_enter Try.func27, Try.ntmps27
    go_wp2
    go_ret
    exact ⟨ret_bool (by rw [hfin.out]; simp [h1x.out]), ((Below.refl _ _).alloc (Nat.le_refl _) _).alloc (by simp) _⟩

set_option maxHeartbeats 1600000 in
theorem ref09_Same (v v' : Value) (t t' : List Spot) (w : World) (h : Row spotE w w.heap.size v t) (h' : Row spotE w w.heap.size v' t') :
    Calls Try.prog 33 #[v, v'] w fun e w' => e = .returned (.bool (decide (t = t'))) ∧ Below w.heap.size w w' := by
  obtain ⟨A, c, rfl, hlc, hcm⟩ := h.open
  obtain ⟨A', c', rfl, hlc', hcm'⟩ := h'.open
  unfold maxLen at hcm hcm'
  have H := hid h
  have H' := hid h'
  clear h h'
  by_cases hl : t.length = t'.length
  · have hl1 : ((t.length : Int) != (t'.length : Int)) = false := by simp [hl]
    have hl2 : t.length ≤ t'.length := by omega
    have hl3 : t'.length ≤ t.length := by omega
    have hlx := hid hl
    clear hl
    go_enter Try.func33, Try.ntmps33
    go_wp2
    go_loopg [13] t.length (fun g i wr => ∃ k : Nat, k + g = t.length ∧ i = .int .i64 k ∧ Hid (∀ j (hj : j < t.length) (hj' : j < t'.length), j < k → t[j] = t'[j]) ∧ Below w.heap.size w wr)
    case atStart => exact ⟨0, by omega, rfl, fun j hj _ h => by omega, Below.refl _ _⟩
    case round =>
      obtain ⟨k, hk, rfl, hno, hb⟩ := hrel
      cases gk with
      | zero =>
        have hfin : Hid (t = t') := List.ext_getElem hlx.out (fun j hj hj' => hno.out j hj hj' (by omega))
        have hkl : k = t.length := by omega
        subst hkl
        go_wp2
        go_ret
        exact ⟨ret_bool (by rw [eq_comm, decide_eq_true_iff]; exact hfin.out), hb⟩
      | succ g =>
        have hlt : k < t.length := by omega
        have hlt' : k < t'.length := by omega
        have hki : (k : Int) < (t.length : Int) := by omega
        have hki' : (k : Int) < (t'.length : Int) := by omega
        obtain ⟨b, o, A1, c1, rfl, hbb, hc0, hc1, hc2, hrow⟩ := H.out.spot k hlt
        obtain ⟨b', o', A1', c1', rfl, hbb', hc0', hc1', hc2', hrow'⟩ := H'.out.spot k hlt'
        have d0 := Bel.cell ((hb.cell (p := ⟨b, _, none⟩) hbb).trans hc0)
        have d1 := Bel.cell ((hb.cell (p := ⟨b, _, none⟩) hbb).trans hc1)
        have d2 := Bel.cell ((hb.cell (p := ⟨b, _, none⟩) hbb).trans hc2)
        have d0' := Bel.cell ((hb.cell (p := ⟨b', _, none⟩) hbb').trans hc0')
        have d1' := Bel.cell ((hb.cell (p := ⟨b', _, none⟩) hbb').trans hc1')
        have d2' := Bel.cell ((hb.cell (p := ⟨b', _, none⟩) hbb').trans hc2')
        clear hc0 hc1 hc2 hc0' hc1' hc2'
        have hrW := hid (Row.bel (hrow.keep hb hb.size))
        have hrW' := hid (Row.bel (hrow'.keep hb hb.size))
        clear hrow hrow'
        by_cases he : t[k] = t'[k]
        · have he1 : decide (t[k] = t'[k]) = true := by simp [he]
          have hex := hid he
          clear he
          go_wp2
          refine wp_region_bel (by kernel_rfl) (by kernel_rfl) ?_
          (repeat (go_big_quiet_step ((go_at_call 27; exact Calls.bel (ref09_Spots t[k] t'[k] _ _ _ (hrW.out _) (hrW'.out _))))))
          refine wpQuiet_nil ?_
          rintro _ ⟨⟨w2, hb2⟩, rfl⟩
          have hb2 := hb.trans (hb2.mono hb.size)
          go_wp2
          go_roundg g
          case rel => exact ⟨k + 1, by omega, by go_num, fun j hj hj' hjk => by by_cases e : j = k; · subst e; exact hex.out
                                                                                · exact hno.out j hj hj' (by omega), hb2⟩
          case measure => omega
        · have he1 : decide (t[k] = t'[k]) = false := by simp [he]
          have hex := hid he
          clear he
          go_wp2
          refine wp_region_bel (by kernel_rfl) (by kernel_rfl) ?_
          (repeat (go_big_quiet_step ((go_at_call 27; exact Calls.bel (ref09_Spots t[k] t'[k] _ _ _ (hrW.out _) (hrW'.out _))))))
          refine wpQuiet_nil ?_
          rintro _ ⟨⟨w2, hb2⟩, rfl⟩
          have hb2 := hb.trans (hb2.mono hb.size)
          go_wp2
          go_ret
          exact ⟨ret_bool (by rw [eq_comm, decide_eq_false_iff_not]; intro e; subst e; exact hex.out rfl), hb2⟩
  · have hl1 : ((t.length : Int) != (t'.length : Int)) = true := by simp; omega
    have hn : Hid (¬ t = t') := fun e => hl (by rw [e])
    have hlx := hid hl
    clear hl
    go_enter Try.func33, Try.ntmps33
    go_wp2
    go_ret
    exact ⟨ret_bool (by rw [eq_comm, decide_eq_false_iff_not]; exact hn.out), Below.refl _ _⟩

/-- A call that hands back a spot. -/
def SpotPost (s : Spot) (w : World) (e : Ending) (w' : World) : Prop :=
  ∃ v, e = .returned (.agg #[.int .i64 s.addr, .int .i64 s.count, v]) ∧ Row intE w' w'.heap.size v s.line ∧ Below w.heap.size w w'

set_option maxHeartbeats 1600000 in
theorem ref09_Get (v : Value) (t : List Spot) (a : Int) (w : World) (h : Row spotE w w.heap.size v t) :
    Calls Try.prog 28 #[v, .int .i64 a] w (SpotPost (tabGet t a) w) := by
  obtain ⟨A, c, rfl, hlc, hcm⟩ := h.open
  unfold maxLen at hcm
  have H := hid h
  clear h
  go_enter Try.func28, Try.ntmps28
  go_wp2
  have hbx0 := hid (Box.new w #[.int .i64 0, .int .i64 0, .slice none 0 0] 42)
  go_loopg [9] t.length (fun g i wr => ∃ k : Nat, k + g = t.length ∧ i = .int .i64 k ∧ Hid (∀ j (hj : j < t.length), j < k → t[j].addr ≠ a) ∧ Below w.heap.size w wr ∧ Hid (Box wr w.heap.size #[.int .i64 0, .int .i64 0, .slice none 0 0] 42))
  case atStart => exact ⟨0, by omega, rfl, fun j hj h => by omega, by repeat (first | assumption | exact Below.refl _ _ | refine bdrawN ?_ _ | refine Below.drew ?_ | refine Below.alloc ?_ (by (try simp) <;> omega) _ | refine Below.setCell ?_ (by (try simp) <;> omega) _), hbx0⟩
  case round =>
    obtain ⟨k, hk, rfl, hno, hb, hbx⟩ := hrel
    have f0 := hbx.out.cell 0 _ rfl
    have f1 := hbx.out.cell 1 _ rfl
    have f2 := hbx.out.cell 2 _ rfl
    have g0 := hbx.out.frozen 0
    have g1 := hbx.out.frozen 1
    have g2 := hbx.out.frozen 2
    have hsz := hbx.out.lt
    cases gk with
    | zero =>
      have hkl : k = t.length := by omega
      subst hkl
      have hp := hid (tabGet_none t a (fun j hj => hno.out j hj hj))
      go_wp2
      refine bodyPost_ret (v := .agg #[.int .i64 a, .int .i64 0, .slice none 0 0]) (by simp [results, Try.results28, go_sem, f0, f1, f2]) rfl ⟨_, by rw [hp.out], by rw [hp.out]; exact Row.nil _ _ _, ?_⟩
      repeat (first | assumption | exact Below.refl _ _ | refine bdrawN ?_ _ | refine Below.drew ?_ | refine Below.alloc ?_ (by (try simp) <;> omega) _ | refine Below.setCell ?_ (by (try simp) <;> omega) _)
    | succ g =>
      have hlt : k < t.length := by omega
      have hki : (k : Int) < (t.length : Int) := by omega
      obtain ⟨b, o, A1, c1, rfl, hbb, hc0, hc1, hc2, hrow⟩ := H.out.spot k hlt
      have hc0 := (hb.cell (p := ⟨b, _, none⟩) hbb).trans hc0
      have hc1 := (hb.cell (p := ⟨b, _, none⟩) hbb).trans hc1
      have hc2 := (hb.cell (p := ⟨b, _, none⟩) hbb).trans hc2
      by_cases he : t[k].addr = a
      · have he1 : (t[k].addr == a) = true := by simp [he]
        have hp := hid (tabGet_eq t a k hlt he hno.out)
        clear he
        go_wp2
        refine wp_name_post ?_
        intro W hW
        have hbW : Below w.heap.size w W := by rw [hW]; repeat (first | assumption | exact Below.refl _ _ | refine bdrawN ?_ _ | refine Below.drew ?_ | refine Below.alloc ?_ (by (try simp) <;> omega) _ | refine Below.setCell ?_ (by (try simp) <;> omega) _)
        have e0 : W.cell? ⟨w.heap.size, 0, none⟩ = some (.int .i64 t[k].addr) := by rw [hW]; go_simp
        have e1 : W.cell? ⟨w.heap.size, 1, none⟩ = some (.int .i64 t[k].count) := by rw [hW]; go_simp
        have e2 : W.cell? ⟨w.heap.size, 2, none⟩ = some (.slice A1 t[k].line.length c1) := by rw [hW]; go_simp
        refine bodyPost_ret (v := .agg #[.int .i64 t[k].addr, .int .i64 t[k].count, .slice A1 t[k].line.length c1]) (by simp [results, Try.results28, go_sem, e0, e1, e2]) rfl ⟨_, by rw [hp.out], by rw [hp.out]; exact hrow.keep hbW hbW.size, hbW⟩
      · have he1 : (t[k].addr == a) = false := by simp [he]
        have hex := hid he
        clear he
        go_wp2
        go_roundg g
        case rel => exact ⟨k + 1, by omega, by go_num, fun j hj hjk => by by_cases e : j = k; · subst e; exact hex.out
                                                                          · exact hno.out j hj (by omega), by repeat (first | assumption | exact Below.refl _ _ | refine bdrawN ?_ _ | refine Below.drew ?_ | refine Below.alloc ?_ (by (try simp) <;> omega) _ | refine Below.setCell ?_ (by (try simp) <;> omega) _), hbx.out.alloc _⟩
        case measure => omega

set_option maxHeartbeats 1600000 in
/-- The addresses of a root, in the table's order. -/
theorem ref09_Under (v : Value) (t : List Spot) (n : Int) (w : World) (h : Row spotE w w.heap.size v t) (hadr : ∀ s ∈ t, 0 ≤ s.addr ∧ s.addr ≤ 4294967295) (hlen : t.length ≤ 1000000000) :
    Calls Try.prog 30 #[v, .int .i64 n] w (RowPost intE (tabUnder t n) w) := by
  obtain ⟨A, c, rfl, hlc, hcm⟩ := h.open
  unfold maxLen at hcm
  have H := hid h
  have HA := hid hadr
  clear h hadr
  have hown0 := hid (Own.empty intE 3 w w.heap.size (Nat.le_refl _))
  go_enter Try.func30, Try.ntmps30
  go_wp2
  go_loopg [5, 11] t.length (fun g o i wr => ∃ k A n' c, k + g = t.length ∧ i = .int .i64 (k : Nat) ∧ o = .slice A n' c ∧ Hid ((tabUnder (t.take k) n).length = n') ∧ n' ≤ k ∧ Hid (Own intE 3 wr w.heap.size o (tabUnder (t.take k) n)) ∧ Below w.heap.size w wr)
  case atStart => exact ⟨0, _, 0, _, by omega, rfl, rfl, rfl, by omega, hown0, by repeat (first | assumption | exact Below.refl _ _ | refine bdrawN ?_ _ | refine Below.drew ?_ | refine Below.alloc ?_ (by (try simp) <;> omega) _ | refine Below.setCell ?_ (by (try simp) <;> omega) _)⟩
  case round =>
    obtain ⟨k, A1, n1, c1, hk, rfl, rfl, hn1, hn1k, hown, hb⟩ := hrel
    cases gk with
    | zero =>
      have hkl : k = t.length := by omega
      subst hkl
      have hs := hb.size
      go_wp2
      go_ret
      exact ⟨_, rfl, by have := hown.out.row hs; rw [List.take_length] at this; exact this, hb⟩
    | succ g =>
      have hlt : k < t.length := by omega
      have hki : (k : Int) < (t.length : Int) := by omega
      obtain ⟨b, o, A2, c2, rfl, hbb, hc0, hc1, hc2, hrow⟩ := H.out.spot k hlt
      have hc0 := (hb.cell (p := ⟨b, _, none⟩) hbb).trans hc0
      have hc1 := (hb.cell (p := ⟨b, _, none⟩) hbb).trans hc1
      have hc2 := (hb.cell (p := ⟨b, _, none⟩) hbb).trans hc2
      have hs := hb.size
      have hstep := hid (tabUnder_snoc t n k hlt)
      have ha1 := (HA.out t[k] (by simp)).1
      have ha2 := (HA.out t[k] (by simp)).2
      by_cases he : rootOf t[k].addr = n
      · have he1 : (rootOf t[k].addr == n) = true := by simp [he]
        have hl1 := hid (show tabUnder (t.take (k + 1)) n = tabUnder (t.take k) n ++ [t[k].addr] by rw [hstep.out, if_pos he])
        clear he
        go_wp2_with (first
          | (go_at_call 26; refine (ref09_Root _ _ (by assumption) (by assumption)).mono ?_; rintro e w' ⟨rfl, rfl⟩)
          | (at_builtin; go_loud (refine wpList_app1 intE 36 3 (.int .i64 0) 8 Try.underlying36 info_int rfl (by decide) (.tmp 20) (.tmp 23) w.heap.size (tabUnder (t.take k) n) t[k].addr (tabUnder (t.take (k + 1)) n) (n1 + 1) hl1.out.symm (by rw [hn1.out]) _ ((hown.out.alloc (by omega) _).alloc (by simp; omega) _) rfl _ 1 rfl [.int .i64 t[k].addr] rfl (cell_new _ _ (by simp) _ _) rfl rfl (by rw [hn1.out]; omega) (by rw [hn1.out]; omega) (by simp; omega) ?_); intro A3 c3 w3 hown3 hb3 hc31 hc32; have HO3 := hid hown3; clear hown3))
        go_roundg g
        case rel => exact ⟨k + 1, _, _, _, by omega, by go_num, rfl, by rw [hl1.out, List.length_append, hn1.out]; rfl, by omega, HO3, ((hb.alloc hs _).alloc (by simp; omega) _).trans hb3⟩
        case measure => omega
      · have he1 : (rootOf t[k].addr == n) = false := by simp [he]
        have hl1 := hid (show tabUnder (t.take (k + 1)) n = tabUnder (t.take k) n by rw [hstep.out, if_neg he])
        clear he
        go_wp2_with (first
          | (go_at_call 26; refine (ref09_Root _ _ (by assumption) (by assumption)).mono ?_; rintro e w' ⟨rfl, rfl⟩))
        go_roundg g
        case rel => exact ⟨k + 1, _, _, _, by omega, by go_num, rfl, by rw [hl1.out]; exact hn1, by omega, by rw [hl1.out]; exact hown.out.alloc hs _, hb.alloc hs _⟩
        case measure => omega
end Go.Proofs.Ytbbkgibopicaeaa
