/- Layer 9 of the program: a root's spots, one after the other. -/
import Derived.RangeFuncNested
import Derived.RangeFuncBound
import Derived.RangeFuncCalls
import Derived.RangeFuncLeaves
import Derived.Shelf.Abstract
import Derived.Shelf.RegionOpen
import Derived.WalkKit
import Derived.OwnWalkIn
import Derived.TacticsInMore
import Derived.LoopNIn
import Derived.LoopIn
import Derived.Test.YtbbkgibopicaeaaRootA
namespace Go.Proofs.Ytbbkgibopicaeaa
set_option linter.unusedVariables false
set_option linter.unusedSimpArgs false
open Go.RowKit Go.Shelf
attribute [local go_sem] Oper.semAt_some

/-- A spot as it comes: an address that may be; a count; a line's slice. -/
structure Come where
  addr : Int
  count : Int
  A : Option Addr
  n : Nat
  c : Nat
  ok : isAddr addr = true
def Come.args (x : Come) : Array Value := #[.agg #[.int .i64 x.addr, .int .i64 x.count, .slice x.A x.n x.c]]

/-- The spots lie in memory. -/
def Comes (W : World) (B : Nat) (A : Option Addr) (xs : List Come) : Prop :=
  ∀ (j : Nat) x, xs[j]? = some x → ∃ b o, A = some ⟨b, o, none⟩ ∧ b < B ∧ W.cell? ⟨b, o + j * 3, none⟩ = some (.int .i64 x.addr) ∧ W.cell? ⟨b, o + j * 3 + 1, none⟩ = some (.int .i64 x.count) ∧ W.cell? ⟨b, o + j * 3 + 2, none⟩ = some (.slice x.A x.n x.c)

/-- What a round keeps: all below n₁ but one block. -/
def KeepBut (n₁ bo : Nat) (W W' : World) : Prop := W.heap.size ≤ W'.heap.size ∧ ∀ k, k < n₁ → k ≠ bo → W'.heap[k]? = W.heap[k]?
theorem KeepBut.refl (n₁ bo : Nat) (W : World) : KeepBut n₁ bo W W := ⟨Nat.le_refl _, fun _ _ _ => rfl⟩
theorem KeepBut.trans {n₁ bo : Nat} {A B C : World} (h : KeepBut n₁ bo A B) (h' : KeepBut n₁ bo B C) : KeepBut n₁ bo A C := ⟨Nat.le_trans h.1 h'.1, fun k h1 h2 => (h'.2 k h1 h2).trans (h.2 k h1 h2)⟩
theorem KeepBut.alloc {n₁ bo : Nat} {A B : World} (h : KeepBut n₁ bo A B) (hB : n₁ ≤ B.heap.size) (o : Obj) : KeepBut n₁ bo A (B.alloc o) := h.trans ⟨by simp, fun k h1 _ => heap_alloc_old B o k (by omega)⟩
theorem KeepBut.cell {n₁ bo : Nat} {A B : World} (h : KeepBut n₁ bo A B) {b o : Nat} (h1 : b < n₁) (h2 : b ≠ bo) : B.cell? ⟨b, o, none⟩ = A.cell? ⟨b, o, none⟩ := World.cell?_of_block (h.2 b h1 h2)

/-- The spots of a root among those that have come. -/
def rootIs (root : Int) (x : Come) : Bool := rootOf x.addr == root

theorem filter_take {α : Type} (p : α → Bool) (xs : List α) (k : Nat) (hk : k < xs.length) : (xs.take (k + 1)).filter p = if p xs[k] = true then (xs.take k).filter p ++ [xs[k]] else (xs.take k).filter p := by
  rw [List.take_add_one]
  simp only [List.getElem?_eq_getElem hk, Option.toList_some, List.filter_append]
  by_cases h : p xs[k] = true <;> simp [h]

theorem filter_take_lt {α : Type} (p : α → Bool) (xs : List α) (k : Nat) (hk : k < xs.length) (h : p xs[k] = true) : ((xs.take k).filter p).length < (xs.filter p).length := by
  have e := filter_take p xs k hk
  rw [if_pos h] at e
  have h1 : ((xs.take (k + 1)).filter p).length ≤ (xs.filter p).length := ((List.take_sublist _ _).filter p).length_le
  rw [e] at h1
  simp at h1
  omega

set_option maxRecDepth 100000 in
set_option maxHeartbeats 2000000 in
theorem root_under1 (n : Nat) (hn : 1 ≤ n) (l bt br n₁ bo len cap : Nat) (root : Int) (A : Option Addr) (xs : List Come) (hlen : xs.length = len) (J Jx : List Come → World → Prop) (W : World) (hWn : n₁ ≤ W.heap.size)
    (hJ : AbidesFrom W.heap.size J)
    (hY : ∀ pre x W, J pre W → pre.length < (xs.filter (rootIs root)).length → YieldAt Fence.wide (n - 1) Try.prog l x.args W fun e W' =>
      (e = .returned (.bool true) ∧ J (pre ++ [x]) W' ∧ KeepBut n₁ bo W W') ∨ (e = .returned (.bool false) ∧ Jx (pre ++ [x]) W'))
    (hbt : W.cell? ⟨bt, 0, none⟩ = some (.slice A len cap)) (hbr : W.cell? ⟨br, 0, none⟩ = some (.int .i64 root)) (hb1 : br < n₁) (hb2 : br ≠ bo) (hcm : len ≤ 9223372036854775807) (hbo : bo ≤ n₁) (n₀ : Nat) (hn0 : n₀ ≤ bo) (hxs : Comes W n₀ A xs) (h0 : J [] W) :
    CallsIn Fence.wide n Try.prog 101 #[.func (.yield l) #[] #[], .pointer (some ⟨bt, 0, none⟩), .pointer (some ⟨br, 0, none⟩)] W fun e W' => (∃ v, e = .returned v) ∧
      ((∃ ys, ys = xs.filter (rootIs root) ∧ J ys W') ∨ (∃ pre, True ∧ Jx pre W')) := by
  refine callsIn_of_wp Try.func101 rfl trivial ?_ rfl
  simp only [Try.ntmps101, List.size_toArray, List.length_cons, List.length_nil, Nat.reduceAdd, Nat.reduceSub, Array.replicate_succ, Array.replicate_zero, List.push_toArray, List.append_toArray, List.nil_append, List.cons_append]
  gi_wp2
  gi_loopw [10] (fun i wr => ∃ k : Nat, k ≤ len ∧ i = .int .i64 k ∧ J ((xs.take k).filter (rootIs root)) wr ∧ KeepBut n₁ bo W wr)
    (fun i _ => len - (intOf i).toNat)
  case atStart => exact ⟨0, Nat.zero_le _, rfl, h0, KeepBut.refl _ _ _⟩
  case round =>
    obtain ⟨k, hk, rfl, hJs, hkp⟩ := hrel
    have hsz := hkp.1
    by_cases hlt : k < len
    · have hkx : k < xs.length := by omega
      obtain ⟨b, o, rfl, hb, c0, c1, c2⟩ := hxs k xs[k] (by simp [hkx])
      have hkb : ∀ o', wr.cell? ⟨b, o', none⟩ = W.cell? ⟨b, o', none⟩ := fun o' => hkp.cell (by omega) (by omega)
      have d0 := (hkb _).trans c0
      have d1 := (hkb _).trans c1
      have d2 := (hkb _).trans c2
      have dr := (hkp.cell (o := 0) hb1 hb2).trans hbr
      have hzb : b < wr.heap.size := by omega
      have hzr : br < wr.heap.size := by omega
      have hki : (k : Int) < (len : Int) := by omega
      have hft := filter_take (rootIs root) xs k hkx
      have hok := xs[k].ok
      have hJ1 : ∀ o, J ((xs.take k).filter (rootIs root)) (wr.alloc o) := fun o => hJ _ _ _ none hJs (World.grownBy_alloc wr o none) (fun r e => by cases e)
      by_cases hr : (rootOf xs[k].addr == root) = true
      · have hft' : (xs.take (k + 1)).filter (rootIs root) = (xs.take k).filter (rootIs root) ++ [xs[k]] := by rw [hft]; exact if_pos hr
        obtain ⟨fn, tmps, assign, body, hy, hR⟩ := hY _ xs[k] _ (hJ1 (.cells #[.int .i64 xs[k].addr, .int .i64 xs[k].count, .slice xs[k].A xs[k].n xs[k].c] 42)) (filter_take_lt (rootIs root) xs k hkx hr)
        dsimp only [Come.args] at hy
        generalize xs[k] = x at *
        gi_wp2_with (refine ⟨trivial, ?_⟩; gi_at_call 20; refine (callsIn_wide.2 (root_Root x.addr _ hok)).mono ?_; rintro e w' ⟨rfl, rfl⟩)
        refine hR.mono ?_
        rintro e W3 (⟨rfl, hJ3, hk3⟩ | ⟨rfl, hJx3⟩)
        · gi_wp2
          go_roundw
          case rel => exact ⟨k + 1, by omega, by simp, by rw [hft']; exact hJ3, (hkp.alloc (by omega) _).trans hk3⟩
          case measure => simp [intOf]; omega
        · gi_wp2
          refine bodyPost_ret (results_none rfl _ _ _) rfl ?_
          exact ⟨⟨_, rfl⟩, .inr ⟨_, trivial, hJx3⟩⟩
      · have hft' : (xs.take (k + 1)).filter (rootIs root) = (xs.take k).filter (rootIs root) := by rw [hft]; exact if_neg hr
        replace hr : (rootOf xs[k].addr == root) = false := by simpa using hr
        generalize xs[k] = x at *
        gi_wp2_with (refine ⟨trivial, ?_⟩; gi_at_call 20; refine (callsIn_wide.2 (root_Root x.addr _ hok)).mono ?_; rintro e w' ⟨rfl, rfl⟩)
        refine ⟨fun _ h => (by cases h), ?_⟩
        gi_wp2
        go_roundw
        case rel => exact ⟨k + 1, by omega, by simp, by rw [hft']; exact hJ1 _, hkp.alloc (by omega) _⟩
        case measure => simp [intOf]; omega
    · obtain rfl : k = len := by omega
      gi_wp2
      go_end0
      refine ⟨⟨_, rfl⟩, .inl ⟨_, rfl, ?_⟩⟩
      rw [← hlen, List.take_length] at hJs
      exact hJs

theorem root_seq (n : Nat) (hn : 1 ≤ n) (bt br n₁ bo len cap : Nat) (root : Int) (A : Option Addr) (xs : List Come) (hlen : xs.length = len) (w : World) (hbt : w.cell? ⟨bt, 0, none⟩ = some (.slice A len cap)) (hbr : w.cell? ⟨br, 0, none⟩ = some (.int .i64 root))
    (hbtl : bt < w.heap.size) (hb1 : br < n₁) (hb2 : br ≠ bo) (hcm : len ≤ 9223372036854775807) (hbo : bo ≤ n₁) (n₀ : Nat) (hn0 : n₀ ≤ bo) (hn1 : n₁ ≤ w.heap.size) (hxs : Comes w n₀ A xs) :
    SeqStopsK Fence.wide n Try.prog 101 #[.pointer (some ⟨bt, 0, none⟩), .pointer (some ⟨br, 0, none⟩)] Come.args (KeepBut n₁ bo) (fun ys => ys = xs.filter (rootIs root)) (fun _ => True) (xs.filter (rootIs root)).length w := fun l J Jx W hW hJ _ hY h0 =>
  root_under1 n hn l bt br n₁ bo len cap root A xs hlen J Jx W (Nat.le_trans hn1 hW.size) hJ hY ((hW.cell (p := ⟨bt, 0, none⟩) hbtl).trans hbt) ((hW.cell (p := ⟨br, 0, none⟩) (by show br < _; omega)).trans hbr) hb1 hb2 hcm hbo n₀ hn0
    (fun j x hj => by
      obtain ⟨b, o, e, h1, h2, h3, h4⟩ := hxs j x hj
      exact ⟨b, o, e, h1, (hW.cell (p := ⟨b, _, none⟩) (by show b < _; omega)).trans h2, (hW.cell (p := ⟨b, _, none⟩) (by show b < _; omega)).trans h3, (hW.cell (p := ⟨b, _, none⟩) (by show b < _; omega)).trans h4⟩) h0

theorem root_under (A : Option Addr) (n c : Nat) (root : Int) (w : World) :
    Calls Try.prog 81 #[.slice A n c, .int .i64 root] w fun e w' => e = .returned (.func (.func 101) #[] #[.pointer (some ⟨w.heap.size, 0, none⟩), .pointer (some ⟨w.heap.size + 1, 0, none⟩)]) ∧ w' = (w.alloc (.cells #[.slice A n c] 33)).alloc (.cells #[.int .i64 root] 3) := by
  go_enter Try.func81, Try.ntmps81
  go_wp2
  go_ret
  exact ⟨rfl, rfl⟩

theorem comes_of_row {W : World} {B n c : Nat} {A : Option Addr} {t : List Spot} (h : Row spotE W B (.slice A n c) t) (hok : ∀ s ∈ t, isAddr s.addr = true) :
    ∃ xs : List Come, xs.map (·.addr) = t.map (·.addr) ∧ Comes W B A xs ∧ xs.length = t.length := by
  have hf : ∀ i : Fin t.length, ∃ x : Come, x.addr = t[i].addr ∧ ∃ b o, A = some ⟨b, o, none⟩ ∧ b < B ∧ W.cell? ⟨b, o + i * 3, none⟩ = some (.int .i64 x.addr) ∧ W.cell? ⟨b, o + i * 3 + 1, none⟩ = some (.int .i64 x.count) ∧ W.cell? ⟨b, o + i * 3 + 2, none⟩ = some (.slice x.A x.n x.c) := fun i => by
    obtain ⟨b, o, A', c', e, hb, c0, c1, c2, _⟩ := h.spot i i.2
    exact ⟨⟨t[i].addr, t[i].count, A', t[i].line.length, c', hok _ (by simp)⟩, rfl, b, o, e, hb, c0, c1, c2⟩
  obtain ⟨f, hf1, hf2⟩ : ∃ f : Fin t.length → Come, (∀ i, (f i).addr = t[i].addr) ∧ ∀ i : Fin t.length, ∃ b o, A = some ⟨b, o, none⟩ ∧ b < B ∧ W.cell? ⟨b, o + i * 3, none⟩ = some (.int .i64 (f i).addr) ∧ W.cell? ⟨b, o + i * 3 + 1, none⟩ = some (.int .i64 (f i).count) ∧ W.cell? ⟨b, o + i * 3 + 2, none⟩ = some (.slice (f i).A (f i).n (f i).c) :=
    ⟨fun i => Classical.choose (hf i), fun i => (Classical.choose_spec (hf i)).1, fun i => (Classical.choose_spec (hf i)).2⟩
  refine ⟨List.ofFn f, ?_, ?_, by simp⟩
  · apply List.ext_getElem
    · simp
    · intro i h1 h2
      simp [hf1]
  · intro j x hj
    have hjl : j < t.length := by have := (List.getElem?_eq_some_iff.1 hj).1; simpa using this
    have : x = f ⟨j, hjl⟩ := by
      rw [List.getElem?_ofFn] at hj
      simp [hjl] at hj
      exact hj.symm
    subst this
    exact hf2 ⟨j, hjl⟩
end Go.Proofs.Ytbbkgibopicaeaa
