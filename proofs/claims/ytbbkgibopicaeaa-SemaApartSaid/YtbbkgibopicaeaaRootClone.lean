/- Layer 9 of the program: a table's copy; what Set asks of each spot. -/
import Derived.Test.YtbbkgibopicaeaaRootIx
import Derived.Test.YtbbkgibopicaeaaTreapFind
namespace Go.Proofs.Ytbbkgibopicaeaa
set_option linter.unusedVariables false
set_option linter.unusedSimpArgs false
open Go.RowKit

set_option maxRecDepth 100000 in
theorem slices_CloneSpot (t : List Spot) (v : Value) (w : World) (h : Row spotE w w.heap.size v t) (hle : t.length ≤ 1000000) :
    Calls Try.prog 60 #[v] w fun e w' => ∃ v', e = .returned v' ∧ Own spotE 42 w' w.heap.size v' t ∧ Below w.heap.size w w' := by
  obtain ⟨A, c, rfl, hlc, hcm⟩ := h.open
  unfold maxLen at hcm
  have H := hid h
  have q : ∀ (w : World) (a : Option Addr) (n c n' c' : Nat), (binOp .eql 33 (.slice a n c) (.slice none n' c')).run Try.prog w = .ok (.bool a.isNone) w := fun w a n c n' c' => Lib.run_eql_slice_nil w _ _ a n c n' c' Try.underlying33
  have hn := hid h.len_eq.2.2.2
  have hown := hid (Own.emptyAt spotE 42 w w.heap.size w.heap.size (Nat.le_refl _) rfl)
  clear h
  cases A with
  | none =>
    obtain rfl := hn.out rfl
    have hnil : t = [] := List.eq_nil_of_length_eq_zero (by omega)
    subst hnil
    go_enter Try.func60, Try.ntmps60
    go_wp2
    go_ret
    exact ⟨_, rfl, Own.nil _ _ _ _, Below.refl _ _⟩
  | some a =>
    go_enter Try.func60, Try.ntmps60
    go_wp2_with (at_builtin; refine wpList_appn spotE 33 42 (.agg #[.int .i64 0, .int .i64 0, .slice none 0 0]) 40 Try.underlying33 info_spot rfl (by decide) (.tmp 5) (.tmp 6) w.heap.size [] t t t.length rfl (by simp) _ hown.out rfl _ (H.out.below ((Below.refl _ _).alloc (Nat.le_refl _) _)) rfl rfl rfl (by simp; omega) (by simp; omega) (by simp) ?_; intro A3 c3 w3 hown3 hb3 hc31 hc32; have HO3 := hid hown3; clear hown3)
    go_ret
    exact ⟨_, rfl, HO3.out, ((Below.refl _ _).alloc (Nat.le_refl _) _).trans hb3⟩

theorem enter_Set1 : ∀ (args : Array Value) (w : World), (callFunc 61 args).run Try.prog w = .ok (.enter 61 args) w := fun _ _ => by kernel_rfl
theorem enter_Set2 : ∀ (args : Array Value) (w : World), (callFunc 62 args).run Try.prog w = .ok (.enter 62 args) w := fun _ _ => by kernel_rfl

theorem root_Set1 (s : Spot) (u : Value) (x : Spot) (y : Value) (bk : Nat) (w : World) (hu : Row intE w w.heap.size u s.line) (hb : Box w bk #[.int .i64 x.addr, .int .i64 x.count, y] 42) :
    Calls Try.prog 61 (#[.agg #[.int .i64 s.addr, .int .i64 s.count, u]] ++ #[.pointer (some ⟨bk, 0, none⟩)]) w fun e w' => e = .returned (.bool (s.addr == x.addr)) ∧ Below w.heap.size w w' := by
  obtain ⟨A, c, rfl, _, _⟩ := hu.open
  have f0 := hb.cell 0 _ rfl
  have hz := hb.lt
  clear hb hu
  show Calls Try.prog 61 #[.agg #[.int .i64 s.addr, .int .i64 s.count, .slice A s.line.length c], .pointer (some ⟨bk, 0, none⟩)] w _
  go_enter Try.func61, Try.ntmps61
  go_wp2
  go_ret
  exact ⟨rfl, (Below.refl _ _).alloc (Nat.le_refl _) _⟩

theorem root_Set2 (s : Spot) (u : Value) (x : Spot) (y : Value) (bk : Nat) (w : World) (hu : Row intE w w.heap.size u s.line) (hb : Box w bk #[.int .i64 x.addr, .int .i64 x.count, y] 42) (hs : isAddr s.addr = true) (hx : isAddr x.addr = true) :
    Calls Try.prog 62 (#[.agg #[.int .i64 s.addr, .int .i64 s.count, u]] ++ #[.pointer (some ⟨bk, 0, none⟩)]) w fun e w' => e = .returned (.bool (addrLess x.addr s.addr)) ∧ Below w.heap.size w w' := by
  obtain ⟨A, c, rfl, _, _⟩ := hu.open
  have f0 := hb.cell 0 _ rfl
  have hz := hb.lt
  obtain ⟨s1, s2⟩ := (isAddr_iff _).1 hs
  obtain ⟨x1, x2⟩ := (isAddr_iff _).1 hx
  have hp := hid (addrOrd_pos s.addr x.addr)
  clear hb hu
  show Calls Try.prog 62 #[.agg #[.int .i64 s.addr, .int .i64 s.count, .slice A s.line.length c], .pointer (some ⟨bk, 0, none⟩)] w _
  go_enter Try.func62, Try.ntmps62
  go_wp2_with (go_at_call 52; refine (root_order _ _ _ (by assumption) (by assumption) (by assumption) (by assumption)).mono ?_; rintro e w' ⟨rfl, rfl⟩)
  go_ret
  exact ⟨ret_bool hp.out, (Below.refl _ _).alloc (Nat.le_refl _) _⟩
end Go.Proofs.Ytbbkgibopicaeaa
