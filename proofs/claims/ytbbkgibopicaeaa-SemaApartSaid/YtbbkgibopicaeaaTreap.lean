/- Layer 8 of the program: keys in a tree of nodes: the small functions. -/
import Derived.Test.YtbbkgibopicaeaaInfo
import Derived.Test.YtbbkgibopicaeaaSpecPut
namespace Go.Proofs.Ytbbkgibopicaeaa
set_option linter.unusedVariables false
set_option linter.unusedSimpArgs false
open Go.RowKit

theorem treap_isKey (n : Int) (w : World) :
    Calls Try.prog 96 #[.int .i64 n] w fun e w' => e = .returned (.bool (isAddr n)) ∧ w = w' := by
  have h1 := hid (show 0 ≤ n → isAddr n = decide (n ≤ 4294967295) by intro h; simp [isAddr, h])
  have h2 := hid (show n < 0 → isAddr n = false by intro h; rw [← Bool.not_eq_true, isAddr_iff]; omega)
  go_enter Try.func96, Try.ntmps96
  go_wp2
  · go_ret
    exact ⟨ret_bool (h1.out (by assumption)).symm, rfl⟩
  · go_ret
    exact ⟨ret_bool (h2.out (by assumption)).symm, rfl⟩

theorem i64_and32 (n : Int) : bits .and .i64 n 4294967295 = n % 4294967296 := by
  have h : (BitVec.ofInt 64 4294967295).toNat = 2 ^ 32 - 1 := by decide
  have key : (BitVec.ofInt 64 n &&& BitVec.ofInt 64 4294967295).toNat = (n % ((2 ^ 64 : Nat) : Int)).toNat % 2 ^ 32 := by
    rw [BitVec.toNat_and, BitVec.toNat_ofInt, h, Nat.and_two_pow_sub_one_eq_mod]
  show IntKind.i64.wrap ((BitVec.ofInt 64 n &&& BitVec.ofInt 64 4294967295).toNat : Nat) = n % 4294967296
  rw [key, IntKind.wrap_i64]
  omega

theorem treap_Pri (k : Int) (w : World) (h1 : 0 ≤ k) (h2 : k ≤ 4294967295) :
    Calls Try.prog 98 #[.int .i64 k] w fun e w' => e = .returned (.int .i64 (pri k)) ∧ w = w' := by
  have hk : isAddr k = true := (isAddr_iff k).2 ⟨h1, h2⟩
  go_enter Try.func98, Try.ntmps98
  go_wp2_with (go_at_call 96; refine (treap_isKey _ _).mono ?_; rintro e w' ⟨rfl, rfl⟩)
  go_ret
  refine ⟨ret_int ?_, rfl⟩
  rw [i64_and32]
  unfold wrap64 pri
  omega

theorem info_node : (Try.prog.info? 101).map (fun i => (i.zero, i.size, i.bytes)) = some (some (.agg #[.int .i64 0, .int .i64 0, .int .i64 0]), 3, 24) := by kernel_rfl

/-- Nodes. -/
def nodeE : En Node where
  k := 3
  ok _ _ n cs := cs = [.int .i64 n.key, .int .i64 n.left, .int .i64 n.right]
  len h := by subst h; rfl
  one h := by subst h; simp [Value.oneCell']
  keep h _ _ := h

theorem Row.node {w : World} {B n c : Nat} {A : Option Addr} {ns : List Node} (h : Row nodeE w B (.slice A n c) ns) (i : Nat) (x : Node) (hx : ns[i]? = some x) :
    ∃ b o, A = some ⟨b, o, none⟩ ∧ b < B ∧ w.cell? ⟨b, o + i * 3, none⟩ = some (.int .i64 x.key) ∧ w.cell? ⟨b, o + i * 3 + 1, none⟩ = some (.int .i64 x.left) ∧ w.cell? ⟨b, o + i * 3 + 2, none⟩ = some (.int .i64 x.right) := by
  obtain ⟨b, o, cs, e, hb, rfl, hc⟩ := h.at i x hx
  exact ⟨b, o, e, hb, by simpa [nodeE] using hc 0 _ rfl, by simpa [nodeE] using hc 1 _ rfl, by simpa [nodeE] using hc 2 _ rfl⟩

theorem treap_New (w : World) : Calls Try.prog 80 #[] w fun e w' => e = .returned (.agg #[.int .i64 (-1), .slice none 0 0]) ∧ Below w.heap.size w w' := by
  go_enter Try.func80, Try.ntmps80
  go_wp2
  refine bodyPost_ret (v := .agg #[.int .i64 (-1), .slice none 0 0]) (by simp [results, Try.results80, go_sem]) rfl ⟨rfl, ?_⟩
  repeat (first | assumption | exact Below.refl _ _ | refine bdrawN ?_ _ | refine Below.drew ?_ | refine Below.alloc ?_ (by (try simp) <;> omega) _ | refine Below.setCell ?_ (by (try simp) <;> omega) _)

/-- The walk's first see: whether keys rise. -/
theorem treap_Right1 (n : Node) (br bl : Nat) (last : Int) (w : World) (hbr : Box w br #[.bool true] 4) (hbl : Box w bl #[.int .i64 last] 3) (hne : br ≠ bl) (h1 : 0 ≤ n.key) (h2 : n.key ≤ 4294967295) (h3 : last < n.key) :
    Calls Try.prog 95 #[.agg #[.int .i64 n.key, .int .i64 n.left, .int .i64 n.right], .pointer (some ⟨br, 0, none⟩), .pointer (some ⟨bl, 0, none⟩)] w fun e w' =>
      e = .returned (.tuple #[]) ∧ Box w' br #[.bool true] 4 ∧ Box w' bl #[.int .i64 n.key] 3 ∧ But (fun k => k = br ∨ k = bl) w w' := by
  have hk : isAddr n.key = true := (isAddr_iff _).2 ⟨h1, h2⟩
  have f0 := hbr.cell 0 _ rfl
  have f1 := hbl.cell 0 _ rfl
  have g0 := hbr.frozen 0
  have g1 := hbl.frozen 0
  have z0 := hbr.lt
  have z1 := hbl.lt
  have hne' : ¬ bl = br := fun e => hne e.symm
  have Hr := hid hbr
  have Hl := hid hbl
  clear hbr hbl
  go_enter Try.func95, Try.ntmps95
  go_wp2_with (go_at_call 96; refine (treap_isKey _ _).mono ?_; rintro e w' ⟨rfl, rfl⟩)
  go_end0
  exact ⟨rfl, ((Hr.out.set 0 _).setOther hne _).alloc _, ((Hl.out.setOther hne' _).set 0 _).alloc _, (((But.refl _ _).set (.inl rfl) _).set (.inr rfl) _).alloc _⟩

theorem Row.nodes_but {S : Nat → Prop} {w w' : World} {B : Nat} {v : Value} {ns : List Node} (h : Row nodeE w B v ns) (hb : But S w w') (hB : B ≤ w.heap.size) (hv : ∀ g, ns ≠ [] → v.ownBlock = some g → ¬ S g) : Row nodeE w' B v ns := by
  obtain ⟨A, c, rfl, h2, h3, h4, h5⟩ := h
  refine ⟨A, c, rfl, h2, h3, h4, fun i x hx => ?_⟩
  obtain ⟨b, o, cs, rfl, g2, g3, g4⟩ := h5 i x hx
  refine ⟨b, o, cs, rfl, g2, g3, fun j u hu => ?_⟩
  rw [← g4 j u hu]
  exact World.cell?_of_block (hb.block b (by omega) (hv b (by intro e; subst e; simp at hx) rfl))

theorem Row.block_lt {α : Type} {E : En α} {w : World} {B : Nat} {v : Value} {l : List α} (h : Row E w B v l) (hl : l ≠ []) {g : Nat} (hg : v.ownBlock = some g) : g < B := by
  obtain ⟨A, c, rfl, h2, h3, h4, h5⟩ := h
  cases l with
  | nil => exact absurd rfl hl
  | cons x r =>
    obtain ⟨b, o, cs, rfl, g2, _, _⟩ := h5 0 x rfl
    simp [Value.ownBlock] at hg
    omega

/-- What waits in the walk's stack: a node's place, its key, what is to its right. -/
structure Wait where
  i : Nat
  k : Int
  r : T
def waitKeys : List Wait → List Int
  | [] => []
  | p :: P => p.k :: p.r.keys ++ waitKeys P
def waitIdx : List Wait → List Int
  | [] => []
  | p :: P => waitIdx P ++ [(p.i : Int)]
theorem waitIdx_len (P : List Wait) : (waitIdx P).length = P.length := by
  induction P with
  | nil => rfl
  | cons p P ih => simp [waitIdx, ih]
def waitCnt : List Wait → Nat
  | [] => 0
  | p :: P => p.r.keys.length + waitCnt P
def WaitRep (ns : List Node) (P : List Wait) : Prop := ∀ p ∈ P, (∃ lv, ns[p.i]? = some ⟨p.k, lv, p.r.root⟩) ∧ Rep ns p.r

end Go.Proofs.Ytbbkgibopicaeaa
