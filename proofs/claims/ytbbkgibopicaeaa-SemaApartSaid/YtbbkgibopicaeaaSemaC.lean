/- Layer 10 of the program: in how many lines somebody waits. -/
import Derived.Test.YtbbkgibopicaeaaSpecSema
namespace Go.Proofs.Ytbbkgibopicaeaa
set_option linter.unusedVariables false
set_option linter.unusedSimpArgs false
open Go.RowKit

theorem sema_Queued1 (s : Spot) (u : Value) (who n : Int) (bw bn : Nat) (w : World) (hu : Row intE w w.heap.size u s.line) (hw : Box w bw #[.int .i64 who] 3) (hn : Box w bn #[.int .i64 n] 3) (h0 : 0 ≤ n) (h1 : n ≤ 1000000) :
    Calls Try.prog 69 (#[.agg #[.int .i64 s.addr, .int .i64 s.count, u]] ++ #[.pointer (some ⟨bw, 0, none⟩), .pointer (some ⟨bn, 0, none⟩)]) w fun e w' =>
      e = .returned (.tuple #[]) ∧ Box w' bn #[.int .i64 (if 0 ≤ place s.line who then n + 1 else n)] 3 ∧ But (fun k => k = bn) w w' := by
  obtain ⟨A, c, rfl, hlc, hcm⟩ := hu.open
  have HC := hid (fun o => slices_Contains (.slice A s.line.length c) s.line who (w.alloc o) (hu.keep ((Below.refl _ _).alloc (Nat.le_refl _) _) (by simp)))
  have f0 := hw.cell 0 _ rfl
  have g0 := hn.cell 0 _ rfl
  have g1 := hn.frozen 0
  have z0 := hw.lt
  have z1 := hn.lt
  have HN := hid hn
  clear hu hw hn
  show Calls Try.prog 69 #[.agg #[.int .i64 s.addr, .int .i64 s.count, .slice A s.line.length c], .pointer (some ⟨bw, 0, none⟩), .pointer (some ⟨bn, 0, none⟩)] w _
  by_cases h : 0 ≤ place s.line who
  · have h' : decide (0 ≤ place s.line who) = true := by simpa using h
    rw [h'] at HC
    rw [if_pos h]
    have h := hid h
    clear h'
    go_enter Try.func69, Try.ntmps69
    go_wp2_with (go_at_call 66; refine (HC.out _).mono ?_; rintro e w' ⟨rfl, rfl⟩)
    go_end0
    exact ⟨rfl, (HN.out.set 0 _).alloc _, (But.set (S := fun k => k = bn) (p := ⟨bn, 0, none⟩) (But.refl _ _) rfl _).alloc _⟩
  · have h' : decide (0 ≤ place s.line who) = false := by simpa using h
    rw [h'] at HC
    rw [if_neg h]
    have h := hid h
    clear h'
    go_enter Try.func69, Try.ntmps69
    go_wp2_with (go_at_call 66; refine (HC.out _).mono ?_; rintro e w' ⟨rfl, rfl⟩)
    go_end0
    exact ⟨rfl, HN.out.alloc _, (But.refl _ _).alloc _⟩

theorem enter_Queued1 : ∀ (args : Array Value) (w : World), (callFunc 69 args).run Try.prog w = .ok (.enter 69 args) w := fun _ _ => by kernel_rfl

def fewQ (k : Nat) (t : List Spot) (who : Int) : Nat := ((t.take k).filter fun s => decide (0 ≤ place s.line who)).length
theorem fewQ_snoc (t : List Spot) (who : Int) (k : Nat) (hk : k < t.length) : (if 0 ≤ place t[k].line who then ((fewQ k t who : Nat) : Int) + 1 else ((fewQ k t who : Nat) : Int)) = ((fewQ (k + 1) t who : Nat) : Int) := by
  unfold fewQ
  rw [List.take_succ_eq_append_getElem hk, List.filter_append, List.length_append]
  by_cases h : 0 ≤ place t[k].line who <;> simp [h]
theorem fewQ_le (t : List Spot) (who : Int) (k : Nat) : fewQ k t who ≤ k := by
  unfold fewQ
  exact Nat.le_trans (List.length_filter_le _ _) (by rw [List.length_take]; omega)
theorem fewQ_all (t : List Spot) (who : Int) : ((fewQ t.length t who : Nat) : Int) = queN t who := by unfold fewQ queN; rw [List.take_length]

def queE (t : List Spot) (who : Int) : Int := if queOk t who = true then 0 else 1
def queR (t : List Spot) (who : Int) : Int := if queOk t who = true then queN t who else 0

set_option maxHeartbeats 1600000 in
set_option maxRecDepth 100000 in
theorem sema_Queued (v : Value) (t : List Spot) (who : Int) (w : World) (h : Row spotE w w.heap.size v t) :
    Calls Try.prog 42 #[v, .int .i64 who] w fun e w' => e = .returned (.tuple #[.int .i64 (queR t who), .int .i64 (queE t who)]) ∧ Below w.heap.size w w' := by
  obtain ⟨A, c, rfl, hlc, hcm⟩ := h.open
  unfold maxLen at hcm
  have H := hid h
  have hR := hid (fun W (hb : Below w.heap.size w W) => root_Right (.slice A t.length c) t W (h.keep hb hb.size))
  have hbw := hid (Box.new w #[.int .i64 who] 3)
  clear h
  cases hT : tabRight t with
  | false =>
    rw [hT] at hR
    have hq := hid (show queR t who = 0 ∧ queE t who = 1 by unfold queR queE queOk; rw [hT]; exact ⟨rfl, rfl⟩)
    go_enter Try.func42, Try.ntmps42
    go_wp2_with (go_at_call 17; refine (hR.out _ (by repeat (first | assumption | exact Below.refl _ _ | refine bdrawN ?_ _ | refine Below.drew ?_ | refine Below.alloc ?_ (by (try simp) <;> omega) _ | refine Below.setCell ?_ (by (try simp) <;> omega) _))).mono ?_; rintro e w1 ⟨rfl, hb1⟩; have hb1 := hid hb1)
    exact bodyPost_ret (v := .tuple #[.int .i64 0, .int .i64 1]) (by simp [results, Try.results42, go_sem]) rfl ⟨by rw [hq.out.1, hq.out.2], ((Below.refl _ _).alloc (Nat.le_refl _) _).trans (hb1.out.mono (by simp))⟩
  | true =>
    have hlen := ((tabRight_iff t).1 hT).len
    rw [hT] at hR
    by_cases hw0 : who < 0
    · have hq := hid (show queR t who = 0 ∧ queE t who = 1 by unfold queR queE queOk; rw [hT]; simp; omega)
      go_enter Try.func42, Try.ntmps42
      go_wp2_with fail
      refine (hR.out _ (by repeat (first | assumption | exact Below.refl _ _ | refine bdrawN ?_ _ | refine Below.drew ?_ | refine Below.alloc ?_ (by (try simp) <;> omega) _ | refine Below.setCell ?_ (by (try simp) <;> omega) _))).mono ?_
      rintro e w1 ⟨rfl, hb1⟩
      have hbw1 := hid (hbw.out.keep hb1 (by simp))
      have hb1 := hid (show Below w.heap.size w w1 from ((Below.refl _ _).alloc (Nat.le_refl _) _).trans (hb1.mono (by simp)))
      have k0 := hbw1.out.cell 0 _ rfl
      go_wp2
      exact bodyPost_ret (v := .tuple #[.int .i64 0, .int .i64 1]) (by simp [results, Try.results42, go_sem]) rfl ⟨by rw [hq.out.1, hq.out.2], hb1.out⟩
    · have hq := hid (show queR t who = queN t who ∧ queE t who = 0 by unfold queR queE queOk; rw [hT]; simp; omega)
      clear hT
      go_enter Try.func42, Try.ntmps42
      go_wp2_with fail
      refine (hR.out _ (by repeat (first | assumption | exact Below.refl _ _ | refine bdrawN ?_ _ | refine Below.drew ?_ | refine Below.alloc ?_ (by (try simp) <;> omega) _ | refine Below.setCell ?_ (by (try simp) <;> omega) _))).mono ?_
      rintro e w1 ⟨rfl, hb1⟩
      have hbw1 := hid (hbw.out.keep hb1 (by simp))
      have hb1 := hid (show Below w.heap.size w w1 from ((Below.refl _ _).alloc (Nat.le_refl _) _).trans (hb1.mono (by simp)))
      have hz1 := hbw1.out.lt
      have k0 := hbw1.out.cell 0 _ rfl
      go_wp2
      clear k0
      go_loopg [20] t.length (fun g i wr => ∃ k : Nat, k + g = t.length ∧ i = .int .i64 k ∧ Hid (Box wr w.heap.size #[.int .i64 who] 3) ∧ Hid (Box wr w1.heap.size #[.int .i64 (fewQ k t who : Nat)] 3) ∧ Below w.heap.size w wr)
      case atStart => exact ⟨0, by omega, rfl, hbw1.out.alloc _, Box.new _ _ _, hb1.out.alloc (by omega) _⟩
      case round =>
        obtain ⟨k, hk, rfl, hbx, hbn, hb⟩ := hrel
        cases gk with
        | zero =>
          have hkl : k = t.length := by omega
          subst hkl
          have hfin := hid (fewQ_all t who)
          have k0 := hbn.out.cell 0 _ rfl
          go_wp2
          exact bodyPost_ret (v := .tuple #[.int .i64 (fewQ t.length t who : Nat), .int .i64 0]) (by simp [results, Try.results42, go_sem]) rfl ⟨by rw [hq.out.1, hq.out.2, hfin.out], hb⟩
        | succ g =>
          have hlt : k < t.length := by omega
          have hki : (k : Int) < (t.length : Int) := by omega
          obtain ⟨b, o, A', c', rfl, hbb, hc0, hc1, hc2, hrow⟩ := (H.out.below hb).spot k hlt
          have hle := fewQ_le t who k
          have hsn := hid (fewQ_snoc t who k hlt)
          have hbz := hb.size
          have hnz := hbn.out.lt
          have hP := hid (sema_Queued1 t[k] (.slice A' t[k].line.length c') who (fewQ k t who : Nat) w.heap.size w1.heap.size (wr.alloc (.cells #[.int .i64 t[k].addr, .int .i64 t[k].count, .slice A' t[k].line.length c'] 42)) (hrow.keep ((Below.refl _ _).alloc hbz _) (by simp; omega)) (hbx.out.alloc _) (hbn.out.alloc _) (by omega) (by omega))
          clear hrow
          go_wp2_with fail
          refine hP.out.mono ?_
          rintro e w3 ⟨rfl, hbn3, hbut⟩
          rw [hsn.out] at hbn3
          have hbx3 := hid (hbut.box (hbx.out.alloc _) (by omega))
          have hbn3 := hid hbn3
          have hb3 := hid ((hb.alloc hbz (.cells #[.int .i64 t[k].addr, .int .i64 t[k].count, .slice A' t[k].line.length c'] 42)).trans (hbut.below (B := w.heap.size) (by simp; omega) (fun j hj e => by omega)))
          go_wp2
          go_roundg g
          case rel => exact ⟨k + 1, by omega, by go_num, hbx3, hbn3, hb3.out⟩
          case measure => omega
end Go.Proofs.Ytbbkgibopicaeaa
