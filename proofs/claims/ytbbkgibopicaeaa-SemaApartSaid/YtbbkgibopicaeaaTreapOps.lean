/- Layer 8 of the program: Right, Keys, and what stands beside them, of trees that may be. -/
import Derived.Test.YtbbkgibopicaeaaTreapRight
import Derived.Laws.EntriesVeiled
namespace Go.Proofs.Ytbbkgibopicaeaa
set_option linter.unusedVariables false
set_option linter.unusedSimpArgs false
open Go.RowKit

theorem enter_Right1 : ∀ (args : Array Value) (w : World), (callFunc 95 args).run Try.prog w = .ok (.enter 95 args) w := fun _ _ => by kernel_rfl

theorem rises_see {ns : List Node} {t : T} (hok : TreeOk ns t) (br bl : Nat) (hne : br ≠ bl) (pre : List Int) (n : Node) (W : World) (h : Rises br bl t.keys pre W) (hpost : ∃ post, pre ++ n.key :: post = t.keys) :
    Calls Try.prog 95 (#[.agg #[.int .i64 n.key, .int .i64 n.left, .int .i64 n.right]] ++ #[.pointer (some ⟨br, 0, none⟩), .pointer (some ⟨bl, 0, none⟩)]) W fun e W' =>
      e = .returned (.tuple #[]) ∧ Rises br bl t.keys (pre ++ [n.key]) W' ∧ But (fun k => k = br ∨ k = bl) W W' := by
  obtain ⟨hr, last, hl, hlast⟩ := h
  obtain ⟨post, hp⟩ := hpost
  have hk := hok.isk n.key (by rw [← hp]; simp)
  refine (treap_Right1 n br bl last W hr hl hne hk.1 hk.2 (hlast _ _ hp)).mono ?_
  rintro e W' ⟨rfl, h1, h2, h3⟩
  refine ⟨rfl, ⟨h1, n.key, h2, fun k post' hp' => ?_⟩, h3⟩
  have hs := hok.sorted
  rw [← hp', List.append_assoc] at hs
  exact sorted_mid hs k (by simp)

set_option maxHeartbeats 1600000 in
theorem treap_Right (ns : List Node) (t : T) (v : Value) (w : World) (hok : TreeOk ns t) (h : Row nodeE w w.heap.size v ns) :
    Calls Try.prog 77 #[.agg #[.int .i64 t.root, v]] w fun e w' => e = .returned (.bool true) ∧ Below w.heap.size w w' := by
  obtain ⟨A, c, rfl, hlc, hcm⟩ := h.open
  unfold maxLen at hcm
  have hle : ns.length ≤ 64 := hok.le
  have hlt := hid hok.light
  have hok := hid hok
  have H := hid h
  clear h
  have hbt := hid (Box.new w #[.int .i64 t.root, .slice A ns.length c] 81)
  go_enter Try.func77, Try.ntmps77
  go_wp2_with fail
  refine calls_name ?_
  intro W hW
  have hbW := hid (show Below w.heap.size w W by rw [hW]; repeat (first | assumption | exact Below.refl _ _ | refine bdrawN ?_ _ | refine Below.drew ?_ | refine Below.alloc ?_ (by (try simp) <;> omega) _ | refine Below.setCell ?_ (by (try simp) <;> omega) _))
  have hsW : W.heap.size = w.heap.size + 3 := by rw [hW]; simp
  have b0 := hid (show Box W w.heap.size #[.int .i64 t.root, .slice A ns.length c] 81 by rw [hW]; exact (hbt.out.alloc _).alloc _)
  have b1 := hid (show Box W (w.heap.size + 1) #[.int .i64 (-1)] 3 by rw [hW]; exact (boxAt _ _ (by simp) _ _).alloc _)
  have b2 := hid (show Box W (w.heap.size + 2) #[.bool true] 4 by rw [hW]; exact boxAt _ _ (by simp) _ _)
  have hrow := hid (H.out.keep hbW.out hbW.out.size)
  have hsW := hid hsW
  clear hW
  refine (treap_walk 95 #[.pointer (some ⟨w.heap.size + 2, 0, none⟩), .pointer (some ⟨w.heap.size + 1, 0, none⟩)] enter_Right1 (fun k => k = w.heap.size + 2 ∨ k = w.heap.size + 1) (fun pre g W => g = none ∧ Rises (w.heap.size + 2) (w.heap.size + 1) t.keys pre W) ns t _ W hok.out hrow.out
    (fun k hk => by have := hsW.out; omega) ?_ ?_ ?_ ?_ ?_).mono ?_
  · intro g hne hg hk
    have := H.out.block_lt hne hg
    omega
  · rintro pre g W1 W2 ⟨rfl, r1, last, r2, r3⟩ hb _ hs
    have := hsW.out
    exact ⟨rfl, r1.keep hb (by omega), last, r2.keep hb (by omega), r3⟩
  · rintro pre g W1 ⟨rfl, _⟩ k hk
    simp at hk
  · rintro pre g n W1 ⟨rfl, hI⟩ hs hp
    refine (rises_see hok.out _ _ (by omega) pre n W1 hI hp).mono ?_
    rintro e w' ⟨h1, h2, h3⟩
    exact ⟨h1, ⟨none, ⟨rfl, h2⟩, fun k hk => by simp at hk⟩, by simpa using h3⟩
  · exact ⟨rfl, b2.out, -1, b1.out, fun k post hp => by have := (hok.out.isk k (by rw [← hp]; simp)).1; omega⟩
  rintro e w2 ⟨rfl, ⟨_, _, r1, last, r2, _⟩, hbut⟩
  have hbut := hid hbut
  have hb2 := hid (show Below w.heap.size w w2 from hbW.out.trans (hbut.out.below hbW.out.size (fun k hk h => by omega)))
  have q0 := r1.cell 0 (.bool true) rfl
  have hz2 := r1.lt
  have hbt2 := hid (hbut.out.box b0.out (by omega))
  have t1 := hbt2.out.cell 1 (.slice A ns.length c) rfl
  have t0 := hbt2.out.cell 0 (.int .i64 t.root) rfl
  have r1 := hid r1
  have r2 := hid r2
  have hrow2 := hid (H.out.keep hb2.out hb2.out.size)
  dsimp only
  have hz3 := hbt2.out.lt
  have hsz2 := hid hb2.out.size
  go_wp2_with fail
  refine (slices_ContainsNodes ns t.root (.slice A ns.length c) w.heap.size w2.heap.size _ hlt.out (hbt2.out.alloc _) (boxAt _ _ rfl _ _) (hrow2.out.keep ((Below.refl _ _).alloc (Nat.le_refl _) _) (by simp))).mono ?_
  rintro e w3 ⟨rfl, hb3⟩
  go_wp2_with fail
  go_ret
  exact ⟨rfl, (hb2.out.alloc hb2.out.size _).trans (hb3.mono (by have := hb2.out.size; simp; omega))⟩

theorem treap_may (ns : List Node) (t : T) (v : Value) (key : Int) (w : World) (hok : TreeOk ns t) (h : Row nodeE w w.heap.size v ns) (hk : isAddr key = true) :
    Calls Try.prog 83 #[.agg #[.int .i64 t.root, v], .int .i64 key] w fun e w' => e = .returned (.bool true) ∧ Below w.heap.size w w' := by
  have HR := hid (fun w (h : Row nodeE w w.heap.size v ns) => treap_Right ns t v w hok h)
  have HK := hid (fun w => treap_isKey key w)
  have H := hid h
  clear hok h
  go_enter Try.func83, Try.ntmps83
  go_wp2_with (first
    | (go_at_call 77; refine (HR.out _ (by first | exact H.out | exact H.out.keep ((Below.refl _ _).alloc (Nat.le_refl _) _) (by simp))).mono ?_; rintro e w2 ⟨rfl, hb2⟩)
    | (go_at_call 96; refine (HK.out _).mono ?_; rintro e w' ⟨rfl, rfl⟩))
  go_ret
  exact ⟨rfl, by first | exact hb2 | exact ((Below.refl _ _).alloc (Nat.le_refl _) _).trans (hb2.mono (by simp))⟩

end Go.Proofs.Ytbbkgibopicaeaa
