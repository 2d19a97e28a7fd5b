/- Layer 8 of the program: what is no tree; a key twice. -/
import Derived.Test.YtbbkgibopicaeaaTreapPut
namespace Go.Proofs.Ytbbkgibopicaeaa
set_option linter.unusedVariables false
set_option linter.unusedSimpArgs false
open Go.RowKit

set_option maxHeartbeats 1600000 in
theorem treap_walk_bad (cf : Value) (w : World) :
    Calls Try.prog 78 #[.agg #[.int .i64 0, .slice none 0 0], cf] w fun e w' => e = .returned (.bool false) ∧ Below w.heap.size w w' := by
  have hbx0 := hid (Box.new w #[.int .i64 0, .slice none 0 0] 81)
  go_enter Try.func78, Try.ntmps78
  go_wp2
  go_loopg [5, 6, 7] 0 (fun g ab me at_ wr => g = 0 ∧ ab = .slice none 0 0 ∧ me = .int .i64 0 ∧ at_ = .int .i64 0 ∧ wr = w.alloc (.cells #[.int .i64 0, .slice none 0 0] 81))
  case atStart => exact ⟨rfl, rfl, rfl, rfl, rfl⟩
  case round =>
    obtain ⟨rfl, rfl, rfl, rfl, rfl⟩ := hrel
    go_wp2
    go_loopg [5, 6, 7] 0 (fun g ab me at_ wr => g = 0 ∧ ab = .slice none 0 0 ∧ me = .int .i64 0 ∧ at_ = .int .i64 0 ∧ wr = w.alloc (.cells #[.int .i64 0, .slice none 0 0] 81))
    case atStart => exact ⟨rfl, rfl, rfl, rfl, rfl⟩
    case round =>
      obtain ⟨rfl, rfl, rfl, rfl, rfl⟩ := hrel
      go_wp2
      go_ret
      exact ⟨rfl, (Below.refl _ _).alloc (Nat.le_refl _) _⟩

theorem treap_Right_bad (w : World) :
    Calls Try.prog 77 #[.agg #[.int .i64 0, .slice none 0 0]] w fun e w' => e = .returned (.bool false) ∧ Below w.heap.size w w' := by
  go_enter Try.func77, Try.ntmps77
  go_wp2_with (go_at_call 78; refine calls_name ?_; intro W hW; have hbW := hid (show Below w.heap.size w W by rw [hW]; repeat (first | assumption | exact Below.refl _ _ | refine bdrawN ?_ _ | refine Below.drew ?_ | refine Below.alloc ?_ (by (try simp) <;> omega) _ | refine Below.setCell ?_ (by (try simp) <;> omega) _)); clear hW; refine (treap_walk_bad _ _).mono ?_; rintro e w1 ⟨rfl, hb1⟩)
  go_ret
  exact ⟨rfl, hbW.out.trans (hb1.mono hbW.out.size)⟩

theorem treap_may_bad (key : Int) (w : World) :
    Calls Try.prog 83 #[.agg #[.int .i64 0, .slice none 0 0], .int .i64 key] w fun e w' => e = .returned (.bool false) ∧ Below w.heap.size w w' := by
  go_enter Try.func83, Try.ntmps83
  go_wp2_with (first
    | (go_at_call 77; refine calls_name ?_; intro W hW; have hbW := hid (show Below w.heap.size w W by rw [hW]; repeat (first | assumption | exact Below.refl _ _ | refine bdrawN ?_ _ | refine Below.drew ?_ | refine Below.alloc ?_ (by (try simp) <;> omega) _ | refine Below.setCell ?_ (by (try simp) <;> omega) _)); clear hW; refine (treap_Right_bad _).mono ?_; rintro e w1 ⟨rfl, hb1⟩)
    | (go_at_call 96; refine (treap_isKey _ _).mono ?_; rintro e w' ⟨rfl, rfl⟩))
  go_ret
  exact ⟨rfl, hbW.out.trans (hb1.mono hbW.out.size)⟩

theorem treap_Put_bad (key : Int) (w : World) :
    Calls Try.prog 82 #[.agg #[.int .i64 0, .slice none 0 0], .int .i64 key] w fun e w' => e = .returned (.tuple #[.agg #[.int .i64 0, .slice none 0 0], .int .i64 1]) ∧ Below w.heap.size w w' := by
  go_enter Try.func82, Try.ntmps82
  go_wp2_with fail
  refine calls_name ?_
  intro W0 hW0
  have hb0 := hid (show Below w.heap.size w W0 by rw [hW0]; repeat (first | assumption | exact Below.refl _ _ | refine bdrawN ?_ _ | refine Below.drew ?_ | refine Below.alloc ?_ (by (try simp) <;> omega) _ | refine Below.setCell ?_ (by (try simp) <;> omega) _))
  have br0 := hid (show Box W0 (w.heap.size + 1 + 1) #[.int .i64 0, .slice none 0 0] 81 by rw [hW0]; exact boxAt _ _ (by simp) _ _)
  clear hW0
  refine (treap_may_bad _ _).mono ?_
  rintro e w1 ⟨rfl, hb1⟩
  have br1 := hid (br0.out.keep hb1 br0.out.lt)
  have hb1 := hid (hb0.out.trans (hb1.mono hb0.out.size))
  have q0 := br1.out.cell 0 _ rfl
  have q1 := br1.out.cell 1 _ rfl
  have q2 := br1.out.frozen 0
  have q3 := br1.out.frozen 1
  go_wp2
  refine wp_name_post ?_
  intro w9 hw9
  have br9 := hid (show Box w9 (w.heap.size + 1 + 1) #[.int .i64 0, .slice none 0 0] 81 by rw [hw9]; exact (br1.out.set 0 (.int .i64 0)).set 1 (.slice none 0 0))
  have hb9 := hid (show Below w.heap.size w w9 by rw [hw9]; exact (hb1.out.setCell (p := ⟨w.heap.size + 1 + 1, 0, none⟩) (by show _ ≤ w.heap.size + 1 + 1; omega) _).setCell (p := ⟨w.heap.size + 1 + 1, 1, none⟩) (by show _ ≤ w.heap.size + 1 + 1; omega) _)
  clear hw9
  have c0 := br9.out.cell 0 _ rfl
  have c1 := br9.out.cell 1 _ rfl
  exact bodyPost_ret (v := .tuple #[.agg #[.int .i64 0, .slice none 0 0], .int .i64 1]) (by simp [results, Try.results82, go_sem, c0, c1]) rfl ⟨rfl, hb9.out⟩

set_option maxRecDepth 100000 in
set_option maxHeartbeats 1600000 in
theorem treap_Put_dup (ns : List Node) (t : T) (v : Value) (key : Int) (w : World) (hok : TreeOk ns t) (h : Row nodeE w w.heap.size v ns) (hk : isAddr key = true) (hn : key ∈ t.keys) :
    Calls Try.prog 82 #[.agg #[.int .i64 t.root, v], .int .i64 key] w fun e w' => e = .returned (.tuple #[.agg #[.int .i64 0, .slice none 0 0], .int .i64 7]) ∧ Below w.heap.size w w' := by
  obtain ⟨A, c, rfl, hlc, hcm⟩ := h.open
  unfold maxLen at hcm
  obtain ⟨g, o, hA⟩ := h.start
  obtain ⟨r, hr, hr1, hr2⟩ := seek_root hok key
  have hrn : (r != -1) = true := by rw [hr2]; simp [hn]
  have H := hid h
  have hN : t.idx.length ≤ 64 := by rw [hok.len]; exact hok.le
  have hmay := hid (fun W (hb : Below w.heap.size w W) => treap_may ns t (.slice A ns.length c) key W hok (H.out.keep hb hb.size) hk)
  have hseek := hid (fun W bk (hb : Below w.heap.size w W) (hbx : Box W w.heap.size #[.int .i64 t.root, .slice A ns.length c] 81) (hbk : Box W bk #[.int .i64 key] 3) =>
    treap_seek 104 #[.pointer (some ⟨bk, 0, none⟩)] enter_other1 (fun k => k != key) key ns t ns.length c A w.heap.size g o W hok.rep hN hbx (H.out.keep hb hb.size) hA (fun m W' _ hW' => treap_other1 m key bk W' (hbk.keep hW' hbk.lt)))
  have hlink := hid (fun W (hb : Below w.heap.size w W) (hbx : Box W w.heap.size #[.int .i64 t.root, .slice A ns.length c] 81) =>
    link_cell (t := T) (C := (seekC (fun k => k != key) key t .top).1) (u := (seekC (fun k => k != key) key t .top).2) (bt := w.heap.size) (g := g) (o := o) (W := W) (B := W.heap.size) (by rw [seekC_fill]; exact hok.rep) (by rw [seekC_fill]; exact hbx) hbx.lt (H.out.keep hb hb.size) hA)
  have hok := hid hok
  have hn := hid hn
  clear h hA hN hr1 hr2
  go_enter Try.func82, Try.ntmps82
  go_wp2_with fail
  refine calls_name ?_
  intro W0 hW0
  have hb0 := hid (show Below w.heap.size w W0 by rw [hW0]; repeat (first | assumption | exact Below.refl _ _ | refine bdrawN ?_ _ | refine Below.drew ?_ | refine Below.alloc ?_ (by (try simp) <;> omega) _ | refine Below.setCell ?_ (by (try simp) <;> omega) _))
  have bt0 := hid (show Box W0 w.heap.size #[.int .i64 t.root, .slice A ns.length c] 81 by rw [hW0]; exact ((Box.new _ _ _).alloc _).alloc _)
  have bk0 := hid (show Box W0 (w.heap.size + 1) #[.int .i64 key] 3 by rw [hW0]; exact (boxAt _ _ (by simp) _ _).alloc _)
  have br0 := hid (show Box W0 (w.heap.size + 1 + 1) #[.int .i64 0, .slice none 0 0] 81 by rw [hW0]; exact boxAt _ _ (by simp) _ _)
  clear hW0
  refine (hmay.out _ hb0.out).mono ?_
  rintro e w1 ⟨rfl, hb1⟩
  have bt1 := hid (bt0.out.keep hb1 bt0.out.lt)
  have bk1 := hid (bk0.out.keep hb1 bk0.out.lt)
  have br1 := hid (br0.out.keep hb1 br0.out.lt)
  have hb1 := hid (hb0.out.trans (hb1.mono hb0.out.size))
  have k1 := bk1.out.cell 0 _ rfl
  have kz1 := bk1.out.lt
  go_wp2_with fail
  go_region_held3 (fun w' => w'.cell? ⟨w.heap.size + 1, 0, none⟩ = some (.int .i64 key)) (first | assumption | go_keep)
    ((first
      | (go_at_call 85; refine (treap_other _ _).mono ?_; rintro e w2 ⟨bk, rfl, hbk, hb2⟩; have bt2 := hid (bt1.out.drew.keep hb2 bt1.out.lt); have bk2 := hid (bk1.out.drew.keep hb2 bk1.out.lt); have br2 := hid (br1.out.drew.keep hb2 br1.out.lt); have hbk := hid hbk; have hb2 := hid (hb1.out.drew.trans (hb2.mono hb1.out.size)); have k2 := bk2.out.cell 0 _ rfl)
      | (go_at_call 84; refine (hseek.out _ _ hb2.out bt2.out hbk.out).mono ?_; rintro e w3 ⟨d, rfl, hb3⟩; have bt3 := hid (bt2.out.keep hb3 bt2.out.lt); have bk3 := hid (bk2.out.keep hb3 bk2.out.lt); have br3 := hid (br2.out.keep hb3 br2.out.lt); have hb3 := hid (hb2.out.trans (hb3.mono hb2.out.size)); have k3 := bk3.out.cell 0 _ rfl)))
  obtain ⟨lb, lo, hla, hlb, hlc'⟩ := hlink.out _ hb3.out bt3.out
  rw [hla]
  rw [hr] at hlc'
  have q0 := br3.out.cell 0 _ rfl
  have q1 := br3.out.cell 1 _ rfl
  have q2 := br3.out.frozen 0
  have q3 := br3.out.frozen 1
  clear hmay hseek hlink
  go_wp2
  refine wp_name_post ?_
  intro w9 hw9
  have br9 := hid (show Box w9 (w.heap.size + 1 + 1) #[.int .i64 0, .slice none 0 0] 81 by rw [hw9]; exact (br3.out.set 0 (.int .i64 0)).set 1 (.slice none 0 0))
  have hb9 := hid (show Below w.heap.size w w9 by rw [hw9]; exact (hb3.out.setCell (p := ⟨w.heap.size + 1 + 1, 0, none⟩) (by show _ ≤ w.heap.size + 1 + 1; omega) _).setCell (p := ⟨w.heap.size + 1 + 1, 1, none⟩) (by show _ ≤ w.heap.size + 1 + 1; omega) _)
  clear hw9
  have c0 := br9.out.cell 0 _ rfl
  have c1 := br9.out.cell 1 _ rfl
  exact bodyPost_ret (v := .tuple #[.agg #[.int .i64 0, .slice none 0 0], .int .i64 7]) (by simp [results, Try.results82, go_sem, c0, c1]) rfl ⟨rfl, hb9.out⟩
end Go.Proofs.Ytbbkgibopicaeaa
