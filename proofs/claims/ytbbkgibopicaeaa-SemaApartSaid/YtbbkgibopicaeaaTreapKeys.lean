/- Layer 8 of the program: all keys of a tree. -/
import Derived.Test.YtbbkgibopicaeaaTreapFind
namespace Go.Proofs.Ytbbkgibopicaeaa
set_option linter.unusedVariables false
set_option linter.unusedSimpArgs false
open Go.RowKit

set_option maxRecDepth 100000 in
set_option maxHeartbeats 1600000 in
theorem treap_Keys1 (n : Node) (bl base : Nat) (v : Value) (pre : List Int) (w : World) (hb : Box w bl #[v] 36) (hbl : bl < base) (hown : Own intE 3 w base v pre) (hs : base ≤ w.heap.size) (hpl : pre.length < 64) :
    Calls Try.prog 79 (#[.agg #[.int .i64 n.key, .int .i64 n.left, .int .i64 n.right]] ++ #[.pointer (some ⟨bl, 0, none⟩)]) w fun e w' =>
      e = .returned (.tuple #[]) ∧ (∃ v', Box w' bl #[v'] 36 ∧ Own intE 3 w' base v' (pre ++ [n.key]) ∧ ∀ g, v'.ownBlock = some g → v.ownBlock = some g ∨ w.heap.size ≤ g) ∧ But (fun k => k = bl ∨ v.ownBlock = some k) w w' := by
  obtain ⟨A, c, rfl, hc1, hc2⟩ := hown.shape
  unfold maxLen at hc2
  have f0 := hb.cell 0 _ rfl
  have g0 := hb.frozen 0
  have hz := hb.lt
  have HB := hid hb
  have HO := hid ((hown.alloc hs (.cells #[.int .i64 n.key, .int .i64 n.left, .int .i64 n.right] 101)).alloc (by simp; omega) (.cells #[.int .i64 n.key] 3))
  clear hb hown
  show Calls Try.prog 79 #[.agg #[.int .i64 n.key, .int .i64 n.left, .int .i64 n.right], .pointer (some ⟨bl, 0, none⟩)] w _
  go_enter Try.func79, Try.ntmps79
  go_wp2_with (at_builtin; refine wpList_app1w intE 36 3 (.int .i64 0) 8 Try.underlying36 info_int rfl (by decide) (.tmp 3) (.tmp 6) base pre n.key (pre ++ [n.key]) (pre.length + 1) rfl rfl _ HO.out rfl _ 1 rfl [.int .i64 n.key] rfl (cell_new _ _ (by simp) _ _) rfl rfl (by omega) (by omega) (by simp; omega) ?_; intro A3 c3 w3 hown3 hb3 hc31 hc32 hoth hwh; have HO3 := hid hown3; have hoth := hid hoth; have hwh := hid hwh; have hb3' := hid hb3; have hbx3 := hid (((HB.out.alloc (.cells #[.int .i64 n.key, .int .i64 n.left, .int .i64 n.right] 101)).alloc (.cells #[.int .i64 n.key] 3)).keep hb3 hbl); have q0 := hbx3.out.cell 0 _ rfl; have q1 := hbx3.out.frozen 0; clear hown3 hb3)
  go_end0
  have hbut3 : But (fun k => k = bl ∨ (Value.slice A pre.length c).ownBlock = some k) w w3 := by
    refine ⟨hb3'.out.os, hb3'.out.tape, hb3'.out.output, ?_, fun k hk hn => ?_⟩
    · have := hb3'.out.size
      simp at this
      omega
    · rw [hoth.out k (by simp; omega) (fun e => hn (Or.inr e))]
      exact (((Below.refl w.heap.size w).alloc (Nat.le_refl _) _).alloc (by simp) _).block k hk
  refine ⟨rfl, ⟨.slice A3 (pre.length + 1) c3, hbx3.out.set 0 _, HO3.out.stay' (fun g hg => Below.heap_setCell w3 _ _ g (fun e => by have := (HO3.out.lt g hg).1; simp at e; omega)) (fun _ _ _ _ _ h => h), fun g hg => ?_⟩, hbut3.set (Or.inl rfl) _⟩
  rcases hwh.out g hg with h | h
  · exact .inl h
  · simp at h; exact .inr (by omega)

/-- The walk's second see: the keys that have come. -/
def Gathers (bl base : Nat) (pre : List Int) (g : Option Nat) (W : World) : Prop :=
  ∃ v, Box W bl #[v] 36 ∧ Own intE 3 W base v pre ∧ v.ownBlock = g ∧ base ≤ W.heap.size

set_option maxHeartbeats 1600000 in
theorem treap_Keys (ns : List Node) (t : T) (v : Value) (w : World) (hok : TreeOk ns t) (h : Row nodeE w w.heap.size v ns) :
    Calls Try.prog 53 #[.agg #[.int .i64 t.root, v]] w fun e w' => ∃ v', e = .returned (.tuple #[v', .int .i64 0]) ∧ Row intE w' w'.heap.size v' t.keys ∧ Below w.heap.size w w' := by
  obtain ⟨A, c, rfl, hlc, hcm⟩ := h.open
  unfold maxLen at hcm
  have H := hid h
  have hok := hid hok
  have hbt := hid (Box.new w #[.int .i64 t.root, .slice A ns.length c] 81)
  have hr := hid (fun W (hb : Below w.heap.size w W) => treap_Right ns t (.slice A ns.length c) W hok.out (h.keep hb hb.size))
  clear h
  go_enter Try.func53, Try.ntmps53
  go_wp2_with fail
  refine (hr.out _ (by repeat (first | assumption | exact Below.refl _ _ | refine bdrawN ?_ _ | refine Below.drew ?_ | refine Below.alloc ?_ (by (try simp) <;> omega) _ | refine Below.setCell ?_ (by (try simp) <;> omega) _))).mono ?_
  rintro e w1 ⟨rfl, hb1⟩
  have hbt1 := hid (hbt.out.keep hb1 (by simp))
  have hbw1 := hid (show Below w.heap.size w w1 from ((Below.refl _ _).alloc (Nat.le_refl _) _).trans (hb1.mono (by simp)))
  clear hb1
  have hz1 := hbw1.out.size
  have t1 := hbt1.out.cell 1 (.slice A ns.length c) rfl
  have t0 := hbt1.out.cell 0 (.int .i64 t.root) rfl
  have ht1 := hbt1.out.lt
  go_wp2_with fail
  refine calls_name ?_
  intro W hW
  have hbW := hid (show Below w1.heap.size w1 W by rw [hW]; repeat (first | assumption | exact Below.refl _ _ | refine bdrawN ?_ _ | refine Below.drew ?_ | refine Below.alloc ?_ (by (try simp) <;> omega) _ | refine Below.setCell ?_ (by (try simp) <;> omega) _))
  have hsW := hid (show W.heap.size = w1.heap.size + 1 by rw [hW]; simp)
  have b2 := hid (show Box W w1.heap.size #[.slice none 0 0] 36 by rw [hW]; exact boxAt _ _ (by simp) _ _)
  have hbWw := hid (hbw1.out.trans (hbW.out.mono hz1))
  have hrow := hid (H.out.keep hbWw.out hbWw.out.size)
  clear hW
  refine (treap_walk 79 #[.pointer (some ⟨w1.heap.size, 0, none⟩)] enter_Keys1 (fun k => k = w1.heap.size) (Gathers w1.heap.size (w1.heap.size + 1)) ns t _ W hok.out hrow.out
    (fun k hk => by have := hsW.out; omega) ?_ ?_ ?_ ?_ ?_).mono ?_
  · intro g hne hg hk
    have := H.out.block_lt hne hg
    omega
  · rintro pre g W1 W2 ⟨u, r1, r2, rfl, r3⟩ hb hgb hs
    have := hsW.out
    exact ⟨u, r1.keep hb (by omega), r2.stay (hb.mono (by omega)) hgb, rfl, Nat.le_trans r3 hb.size⟩
  · rintro pre g W1 ⟨u, r1, r2, rfl, r3⟩ k hk
    have := hsW.out
    have := r2.lt k hk
    omega
  · rintro pre g n W1 ⟨u, r1, r2, rfl, r3⟩ hs ⟨post, hp⟩
    have hlen : pre.length < 64 := by
      have h1 := congrArg List.length hp
      have h2 : t.keys.length ≤ 64 := by rw [← idx_keys, hok.out.len]; exact hok.out.le
      simp at h1
      omega
    refine (treap_Keys1 n _ _ u pre W1 r1 (by omega) r2 r3 hlen).mono ?_
    rintro e w' ⟨rfl, ⟨u', h1, h2, h3⟩, h4⟩
    exact ⟨rfl, ⟨u'.ownBlock, ⟨u', h1, h2, rfl, Nat.le_trans r3 h4.size⟩, h3⟩, h4⟩
  · exact ⟨_, b2.out, Own.nil _ _ _ _, rfl, by have := hsW.out; omega⟩
  rintro e w2 ⟨rfl, ⟨g, u, r1, r2, _, r3⟩, hbut⟩
  have hb2 := hid (show Below w.heap.size w w2 from hbWw.out.trans (hbut.below hbWw.out.size (fun k hk h => by omega)))
  obtain ⟨Au, cu, rfl, _, _⟩ := r2.shape
  have q0 := r1.cell 0 _ rfl
  have HR := hid (r2.row r3)
  clear r1 r2 hbut
  go_wp2
  exact bodyPost_ret (v := .tuple #[.slice Au t.keys.length cu, .int .i64 0]) (by simp [results, Try.results53, go_sem]) rfl ⟨_, rfl, HR.out, hb2.out⟩
end Go.Proofs.Ytbbkgibopicaeaa
