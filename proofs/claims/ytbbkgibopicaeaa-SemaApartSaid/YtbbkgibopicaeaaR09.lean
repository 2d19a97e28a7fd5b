/- The references of layers 8 and 9 (keys; tables): each function comes to its plain function. -/
import Derived.Test.YtbbkgibopicaeaaInfo
import Derived.Test.YtbbkgibopicaeaaSpecT
import Derived.Test.YtbbkgibopicaeaaR07
import Derived.Deep.RegionHeld3
import Derived.Deep.RegionWith
namespace Go.Proofs.Ytbbkgibopicaeaa
set_option linter.unusedVariables false
set_option linter.unusedSimpArgs false
open Go.RowKit

theorem ref08_Key (n : Int) (w : World) :
    Calls Try.prog 25 #[.int .i64 n] w fun e w' => e = .returned (.bool (isAddr n)) ∧ w = w' := by
  have h1 := hid (show 0 ≤ n → isAddr n = decide (n ≤ 4294967295) by intro h; simp [isAddr, h])
  have h2 := hid (show n < 0 → isAddr n = false by intro h; rw [← Bool.not_eq_true, isAddr_iff]; omega)
  go_enter Try.func25, Try.ntmps25
  go_wp2
  · go_ret
    exact ⟨ret_bool (h1.out (by assumption)).symm, rfl⟩
  · go_ret
    exact ⟨ret_bool (h2.out (by assumption)).symm, rfl⟩

theorem ref09_Root (n : Int) (w : World) (h : 0 ≤ n) (h' : n ≤ 4294967295) :
    Calls Try.prog 26 #[.int .i64 n] w fun e w' => e = .returned (.int .i64 (rootOf n)) ∧ w = w' := by
  go_enter Try.func26, Try.ntmps26
  go_wp2
  go_ret
  exact ⟨rfl, rfl⟩

theorem ref09_Empty (s : Spot) (v : Value) (w : World) (h : Row intE w w.heap.size v s.line) :
    Calls Try.prog 35 #[.agg #[.int .i64 s.addr, .int .i64 s.count, v]] w fun e w' => e = .returned (.bool (spotEmpty s)) ∧ Below w.heap.size w w' := by
  obtain ⟨A, c, rfl, hlc, hcm⟩ := h.open
  have h1 := hid (show s.count = 0 → spotEmpty s = decide (s.line.length = 0) by intro h; simp [spotEmpty, h])
  have h2 := hid (show ¬ s.count = 0 → spotEmpty s = false by intro h; simp [spotEmpty, h])
  by_cases hc : s.count = 0
  · have hc1 : (s.count == 0) = true := by simp [hc]
    have hr := hid (h1.out hc)
    clear hc
    go_enter Try.func35, Try.ntmps35
    go_wp2
    go_ret
    exact ⟨ret_bool (by rw [hr.out, Bool.eq_iff_iff]; simp), (Below.refl _ _).alloc (Nat.le_refl _) _⟩
  · have hc1 : (s.count == 0) = false := by simp [hc]
    have hr := hid (h2.out hc)
    clear hc
    go_enter Try.func35, Try.ntmps35
    go_wp2
    go_ret
    exact ⟨ret_bool hr.out.symm, (Below.refl _ _).alloc (Nat.le_refl _) _⟩

theorem ref09_less (a b : Int) (w : World) (ha : 0 ≤ a) (ha' : a ≤ 4294967295) (hb : 0 ≤ b) (hb' : b ≤ 4294967295) :
    Calls Try.prog 64 #[.int .i64 a, .int .i64 b] w fun e w' => e = .returned (.bool (addrLess a b)) ∧ w = w' := by
  have h1 := hid (show rootOf a < rootOf b → addrLess a b = true by intro h; simp [addrLess, h])
  have h2 := hid (show ¬ rootOf a < rootOf b → ¬ rootOf a = rootOf b → addrLess a b = false by intro h h'; simp [addrLess, h, h'])
  have h3 := hid (show ¬ rootOf a < rootOf b → rootOf a = rootOf b → addrLess a b = decide (a < b) by intro h h'; simp [addrLess, h'])
  by_cases c1 : rootOf a < rootOf b
  · have hr := hid (h1.out c1)
    go_enter Try.func64, Try.ntmps64
    go_wp2_with (go_at_call 26; refine (ref09_Root _ _ (by assumption) (by assumption)).mono ?_; rintro e w' ⟨rfl, rfl⟩)
    go_ret
    exact ⟨ret_bool hr.out.symm, rfl⟩
  · by_cases c2 : rootOf a = rootOf b
    · have hr := hid (h3.out c1 c2)
      have c2' : (rootOf a == rootOf b) = true := by simp [c2]
      clear c2
      go_enter Try.func64, Try.ntmps64
      go_wp2_with (go_at_call 26; refine (ref09_Root _ _ (by assumption) (by assumption)).mono ?_; rintro e w' ⟨rfl, rfl⟩)
      go_ret
      exact ⟨ret_bool (by rw [hr.out, Bool.eq_iff_iff]; simp; omega), rfl⟩
    · have hr := hid (h2.out c1 c2)
      have c2' : (rootOf a == rootOf b) = false := by simp [c2]
      clear c2
      go_enter Try.func64, Try.ntmps64
      go_wp2_with (go_at_call 26; refine (ref09_Root _ _ (by assumption) (by assumption)).mono ?_; rintro e w' ⟨rfl, rfl⟩)
      go_ret
      exact ⟨ret_bool (by rw [hr.out]; simp; omega), rfl⟩

set_option maxHeartbeats 800000 in
theorem ref09_Spot (s : Spot) (v : Value) (w : World) (h : Row intE w w.heap.size v s.line) :
    Calls Try.prog 31 #[.agg #[.int .i64 s.addr, .int .i64 s.count, v]] w fun e w' => e = .returned (.bool (spotRight s)) ∧ Below w.heap.size w w' := by
  obtain ⟨A, c, rfl, hlc, hcm⟩ := h.open
  have H := hid (fun o => h.keep ((Below.refl w.heap.size w).alloc (Nat.le_refl _) o) (by simp : w.heap.size ≤ (w.alloc o).heap.size))
  clear h
  have hs := hid (show spotRight s = (isAddr s.addr && decide (0 ≤ s.count) && decide (s.count ≤ 2147483647) && lineRight s.line && (decide (s.count = 0) || decide (s.line.length = 0))) from rfl)
  go_enter Try.func31, Try.ntmps31
  go_wp2_with (first
    | (go_at_call 25; refine (ref08_Key _ _).mono ?_; rintro e w' ⟨rfl, rfl⟩)
    | (go_at_call 65; refine (ref07_Right _ s.line _ (H.out _)).mono ?_; rintro e w' ⟨rfl, rfl⟩))
  all_goals
    go_ret
    exact ⟨ret_bool (by rw [hs.out]; first | (simp [*]; done) | (simp [*]; omega) | (rw [Bool.eq_iff_iff]; simp [*]; done) | (rw [Bool.eq_iff_iff]; simp [*]; omega)), (Below.refl _ _).alloc (Nat.le_refl _) _⟩

theorem info_spot : (Try.prog.info? 42).map (fun i => (i.zero, i.size, i.bytes)) = some (some (.agg #[.int .i64 0, .int .i64 0, .slice none 0 0]), 3, 40) := by kernel_rfl

/-- Spots. -/
def spotE : En Spot where
  k := 3
  ok w B s cs := ∃ v, cs = [.int .i64 s.addr, .int .i64 s.count, v] ∧ Row intE w B v s.line
  len h := by obtain ⟨v, rfl, _⟩ := h; rfl
  one h := by obtain ⟨v, rfl, A, c, rfl, _⟩ := h; simp [Value.oneCell']
  keep h hb hB := by obtain ⟨v, rfl, hr⟩ := h; exact ⟨v, rfl, hr.keep hb hB⟩

theorem Row.spot {w : World} {B n c : Nat} {A : Option Addr} {t : List Spot} (h : Row spotE w B (.slice A n c) t) (i : Nat) (hi : i < t.length) :
    ∃ b o A' c', A = some ⟨b, o, none⟩ ∧ b < B ∧ w.cell? ⟨b, o + i * 3, none⟩ = some (.int .i64 t[i].addr) ∧ w.cell? ⟨b, o + i * 3 + 1, none⟩ = some (.int .i64 t[i].count) ∧
      w.cell? ⟨b, o + i * 3 + 2, none⟩ = some (.slice A' t[i].line.length c') ∧ Row intE w B (.slice A' t[i].line.length c') t[i].line := by
  obtain ⟨b, o, cs, e, hb, ⟨v, rfl, hr⟩, hc⟩ := h.at i t[i] (by simp [hi])
  obtain ⟨A', c', rfl, _, _⟩ := hr.open
  exact ⟨b, o, A', c', e, hb, by simpa [spotE] using hc 0 _ rfl, by simpa [spotE] using hc 1 _ rfl, by simpa [spotE] using hc 2 _ rfl, hr⟩

set_option maxHeartbeats 1600000 in
theorem ref09_Right (v : Value) (t : List Spot) (w : World) (h : Row spotE w w.heap.size v t) :
    Calls Try.prog 24 #[v] w fun e w' => e = .returned (.bool (tabRight t)) ∧ Below w.heap.size w w' := by
  obtain ⟨A, c, rfl, hlc, hcm⟩ := h.open
  unfold maxLen at hcm
  have H := hid h
  clear h
  go_enter Try.func24, Try.ntmps24
  go_wp2
  go_loopg [7] t.length (fun g i wr => ∃ k : Nat, k + g = t.length ∧ i = .int .i64 k ∧ Hid (∀ j (hj : j < t.length), j < k → spotRight t[j] = true ∧ spotEmpty t[j] = false) ∧ Hid (∀ j (hj : j + 1 < t.length), j + 1 < k → addrLess t[j].addr t[j + 1].addr = true) ∧ Below w.heap.size w wr)
  case atStart => exact ⟨0, by omega, rfl, fun j hj h => by omega, fun j hj h => by omega, Below.refl _ _⟩
  case round =>
    obtain ⟨k, hk, rfl, hok, hrise, hb⟩ := hrel
    cases gk with
    | zero =>
      obtain rfl : k = t.length := by omega
      have hp := hid (tabRight_end t (fun j hj => hok.out j hj hj) (fun j hj => hrise.out j hj hj))
      go_wp2
      go_ret
      exact ⟨ret_bool (by rw [hp.out, Bool.eq_iff_iff]; simp; omega), hb⟩
    | succ g =>
      have hlt : k < t.length := by omega
      have hki : (k : Int) < (t.length : Int) := by omega
      obtain ⟨b, o, A', c', rfl, hbb, hc0, hc1, hc2, hrow⟩ := H.out.spot k hlt
      have hc0 := (hb.cell (p := ⟨b, _, none⟩) hbb).trans hc0
      have hc1 := (hb.cell (p := ⟨b, _, none⟩) hbb).trans hc1
      have hc2 := (hb.cell (p := ⟨b, _, none⟩) hbb).trans hc2
      have hsz := hb.size
      by_cases hs : spotRight t[k] = true
      · by_cases he : spotEmpty t[k] = true
        · have hp := hid (tabRight_bad t k hlt (Or.inr he))
          go_wp2
          refine wp_name ?_; intro W hW; have hbW : Below w.heap.size w W := (by rw [hW]; repeat (first | assumption | exact Below.refl _ _ | refine bdrawN ?_ _ | refine Below.drew ?_ | refine Below.alloc ?_ (by (try simp) <;> omega) _ | refine Below.setCell ?_ (by (try simp) <;> omega) _))
          have d0 := Bel.cell (W := W) (a := ⟨wr.heap.size, 0, none⟩) (v := .int .i64 t[k].addr) (by rw [hW]; simp)
          have d1 := Bel.cell (W := W) (a := ⟨wr.heap.size, 1, none⟩) (v := .int .i64 t[k].count) (by rw [hW]; simp)
          have d2 := Bel.cell (W := W) (a := ⟨wr.heap.size, 2, none⟩) (v := .slice A' t[k].line.length c') (by rw [hW]; simp)
          have hrW := hid (Row.bel (hrow.keep hbW hbW.size))
          clear hW
          refine wp_region_bel (by kernel_rfl) (by kernel_rfl) ?_; (repeat (go_big_quiet_step (((first | (go_at_call 31; exact Calls.bel (ref09_Spot t[k] _ _ (hrW.out _))) | (go_at_call 35; exact Calls.bel (ref09_Empty t[k] _ _ (hrW.out _))) | (go_at_call 64; exact Calls.bel_same (ref09_less _ _ _ hp1 hp2 hp3 hp4))))))); refine wpQuiet_nil ?_; rintro _ ⟨⟨w2, hb2⟩, rfl⟩; (try dsimp only); have hb2 := hbW.trans (hb2.mono hbW.size)
          go_wp2
          go_ret
          exact ⟨ret_bool hp.out.symm, hb2⟩
        · have hadr := hid (spotRight_addr hs)
          replace he : spotEmpty t[k] = false := by simpa using he
          by_cases hk0 : k = 0
          · have hkz : decide (0 < k) = false := by simp; omega
            have hkzz := hid hk0
            clear hk0
            have hst : Hid (∀ j (hj : j < t.length), j < k + 1 → spotRight t[j] = true ∧ spotEmpty t[j] = false) := fun j hj hjk => by
              have := hkzz.out
              obtain rfl : j = k := by omega
              exact ⟨hs, he⟩
            go_wp2
            refine wp_name ?_; intro W hW; have hbW : Below w.heap.size w W := (by rw [hW]; repeat (first | assumption | exact Below.refl _ _ | refine bdrawN ?_ _ | refine Below.drew ?_ | refine Below.alloc ?_ (by (try simp) <;> omega) _ | refine Below.setCell ?_ (by (try simp) <;> omega) _))
            have d0 := Bel.cell (W := W) (a := ⟨wr.heap.size, 0, none⟩) (v := .int .i64 t[k].addr) (by rw [hW]; simp)
            have d1 := Bel.cell (W := W) (a := ⟨wr.heap.size, 1, none⟩) (v := .int .i64 t[k].count) (by rw [hW]; simp)
            have d2 := Bel.cell (W := W) (a := ⟨wr.heap.size, 2, none⟩) (v := .slice A' t[k].line.length c') (by rw [hW]; simp)
            have hrW := hid (Row.bel (hrow.keep hbW hbW.size))
            clear hW
            refine wp_region_bel (by kernel_rfl) (by kernel_rfl) ?_; (repeat (go_big_quiet_step (((first | (go_at_call 31; exact Calls.bel (ref09_Spot t[k] _ _ (hrW.out _))) | (go_at_call 35; exact Calls.bel (ref09_Empty t[k] _ _ (hrW.out _))) | (go_at_call 64; exact Calls.bel_same (ref09_less _ _ _ hp1 hp2 hp3 hp4))))))); refine wpQuiet_nil ?_; rintro _ ⟨⟨w2, hb2⟩, rfl⟩; (try dsimp only); have hb2 := hbW.trans (hb2.mono hbW.size)
            go_wp2
            go_roundg g
            case rel => exact ⟨k + 1, by omega, by go_num, hst, (fun j hj hjk => by have := hkzz.out; omega), hb2⟩
            case measure => omega
          · have hk1 : k - 1 < t.length := by omega
            have hst : Hid (∀ j (hj : j < t.length), j < k + 1 → spotRight t[j] = true ∧ spotEmpty t[j] = false) := fun j hj hjk => by
              by_cases e : j = k
              · subst e; exact ⟨hs, he⟩
              · exact hok.out j hj (by omega)
            obtain ⟨b1, o1, A1, c1, e1, hbb1, hk0c, _, _, _⟩ := H.out.spot (k - 1) hk1
            simp only [Option.some.injEq, Addr.mk.injEq, and_true] at e1
            obtain ⟨rfl, rfl⟩ := e1
            have hk0c := (hb.cell (p := ⟨b, _, none⟩) hbb).trans hk0c
            have hadr1 := hid (spotRight_addr (hok.out (k - 1) hk1 (by omega)).1)
            have hkk : 0 < k := by omega
            have hbb' : ¬ b = wr.heap.size := by omega
            have hki1 : ((k - 1 : Nat) : Int) < (t.length : Int) := by omega
            have hki0 : (0 : Int) ≤ ((k - 1 : Nat) : Int) := by omega
            have hkk1 : (k : Int) - 1 = ((k - 1 : Nat) : Int) := by omega
            have hp1 := hadr1.out.1
            have hp2 := hadr1.out.2
            have hp3 := hadr.out.1
            have hp4 := hadr.out.2
            by_cases hls : addrLess t[k - 1].addr t[k].addr = true
            · have hrs : Hid (∀ j (hj : j + 1 < t.length), j + 1 < k + 1 → addrLess t[j].addr t[j + 1].addr = true) := fun j hj hjk => by
                by_cases e : j + 1 = k
                · subst e; exact hls
                · exact hrise.out j hj (by omega)
              go_wp2
              refine wp_name ?_; intro W hW; have hbW : Below w.heap.size w W := (by rw [hW]; repeat (first | assumption | exact Below.refl _ _ | refine bdrawN ?_ _ | refine Below.drew ?_ | refine Below.alloc ?_ (by (try simp) <;> omega) _ | refine Below.setCell ?_ (by (try simp) <;> omega) _))
              have d0 := Bel.cell (W := W) (a := ⟨wr.heap.size, 0, none⟩) (v := .int .i64 t[k].addr) (by rw [hW]; simp)
              have d1 := Bel.cell (W := W) (a := ⟨wr.heap.size, 1, none⟩) (v := .int .i64 t[k].count) (by rw [hW]; simp)
              have d2 := Bel.cell (W := W) (a := ⟨wr.heap.size, 2, none⟩) (v := .slice A' t[k].line.length c') (by rw [hW]; simp)
              have hrW := hid (Row.bel (hrow.keep hbW hbW.size))
              have d3 := Bel.cell (W := W) (a := ⟨b, o + (k - 1) * 3, none⟩) (v := .int .i64 t[k - 1].addr) (by rw [hW]; rw [World.cell?_alloc_past _ _ _ (by omega)]; exact hk0c)
              clear hW

              refine wp_region_bel (by kernel_rfl) (by kernel_rfl) ?_; (repeat (go_big_quiet_step (((first | (go_at_call 31; exact Calls.bel (ref09_Spot t[k] _ _ (hrW.out _))) | (go_at_call 35; exact Calls.bel (ref09_Empty t[k] _ _ (hrW.out _))) | (go_at_call 64; exact Calls.bel_same (ref09_less _ _ _ hp1 hp2 hp3 hp4))))))); refine wpQuiet_nil ?_; rintro _ ⟨⟨w2, hb2⟩, rfl⟩; (try dsimp only); have hb2 := hbW.trans (hb2.mono hbW.size)
              go_wp2
              go_roundg g
              case rel => exact ⟨k + 1, by omega, by go_num, hst, hrs, hb2⟩
              case measure => omega
            · replace hls : addrLess t[k - 1].addr t[k].addr = false := by simpa using hls
              have hp := hid (show tabRight t = false by
                have h0 := tabRight_unsorted t (k - 1) (by omega)
                simp only [show k - 1 + 1 = k from by omega] at h0
                exact h0 hls)
              go_wp2
              refine wp_name ?_; intro W hW; have hbW : Below w.heap.size w W := (by rw [hW]; repeat (first | assumption | exact Below.refl _ _ | refine bdrawN ?_ _ | refine Below.drew ?_ | refine Below.alloc ?_ (by (try simp) <;> omega) _ | refine Below.setCell ?_ (by (try simp) <;> omega) _))
              have d0 := Bel.cell (W := W) (a := ⟨wr.heap.size, 0, none⟩) (v := .int .i64 t[k].addr) (by rw [hW]; simp)
              have d1 := Bel.cell (W := W) (a := ⟨wr.heap.size, 1, none⟩) (v := .int .i64 t[k].count) (by rw [hW]; simp)
              have d2 := Bel.cell (W := W) (a := ⟨wr.heap.size, 2, none⟩) (v := .slice A' t[k].line.length c') (by rw [hW]; simp)
              have hrW := hid (Row.bel (hrow.keep hbW hbW.size))
              have d3 := Bel.cell (W := W) (a := ⟨b, o + (k - 1) * 3, none⟩) (v := .int .i64 t[k - 1].addr) (by rw [hW]; rw [World.cell?_alloc_past _ _ _ (by omega)]; exact hk0c)
              clear hW

              refine wp_region_bel (by kernel_rfl) (by kernel_rfl) ?_; (repeat (go_big_quiet_step (((first | (go_at_call 31; exact Calls.bel (ref09_Spot t[k] _ _ (hrW.out _))) | (go_at_call 35; exact Calls.bel (ref09_Empty t[k] _ _ (hrW.out _))) | (go_at_call 64; exact Calls.bel_same (ref09_less _ _ _ hp1 hp2 hp3 hp4))))))); refine wpQuiet_nil ?_; rintro _ ⟨⟨w2, hb2⟩, rfl⟩; (try dsimp only); have hb2 := hbW.trans (hb2.mono hbW.size)
              go_wp2
              go_ret
              exact ⟨ret_bool hp.out.symm, hb2⟩
      · have hp := hid (tabRight_bad t k hlt (Or.inl (by simpa using hs)))
        replace hs : spotRight t[k] = false := by simpa using hs
        go_wp2
        refine wp_name ?_; intro W hW; have hbW : Below w.heap.size w W := (by rw [hW]; repeat (first | assumption | exact Below.refl _ _ | refine bdrawN ?_ _ | refine Below.drew ?_ | refine Below.alloc ?_ (by (try simp) <;> omega) _ | refine Below.setCell ?_ (by (try simp) <;> omega) _))
        have d0 := Bel.cell (W := W) (a := ⟨wr.heap.size, 0, none⟩) (v := .int .i64 t[k].addr) (by rw [hW]; simp)
        have d1 := Bel.cell (W := W) (a := ⟨wr.heap.size, 1, none⟩) (v := .int .i64 t[k].count) (by rw [hW]; simp)
        have d2 := Bel.cell (W := W) (a := ⟨wr.heap.size, 2, none⟩) (v := .slice A' t[k].line.length c') (by rw [hW]; simp)
        have hrW := hid (Row.bel (hrow.keep hbW hbW.size))
        clear hW
        refine wp_region_bel (by kernel_rfl) (by kernel_rfl) ?_; (repeat (go_big_quiet_step (((first | (go_at_call 31; exact Calls.bel (ref09_Spot t[k] _ _ (hrW.out _))) | (go_at_call 35; exact Calls.bel (ref09_Empty t[k] _ _ (hrW.out _))) | (go_at_call 64; exact Calls.bel_same (ref09_less _ _ _ hp1 hp2 hp3 hp4))))))); refine wpQuiet_nil ?_; rintro _ ⟨⟨w2, hb2⟩, rfl⟩; (try dsimp only); have hb2 := hbW.trans (hb2.mono hbW.size)
        go_wp2
        go_ret
        exact ⟨ret_bool hp.out.symm, hb2⟩
end Go.Proofs.Ytbbkgibopicaeaa
