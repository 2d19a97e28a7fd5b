/- Layer 9 of the program: the first spot of a kind. -/
import Derived.Test.YtbbkgibopicaeaaRootA
namespace Go.Proofs.Ytbbkgibopicaeaa
set_option linter.unusedVariables false
set_option linter.unusedSimpArgs false
open Go.RowKit

def firstIx (p : Spot → Bool) (t : List Spot) : Int := if t.findIdx p < t.length then (t.findIdx p : Nat) else -1
theorem firstIx_at {p : Spot → Bool} {t : List Spot} {k : Nat} (hk : k < t.length) (h1 : p t[k] = true) (h2 : ∀ j (hj : j < t.length), j < k → p t[j] = false) : firstIx p t = k := by
  have e : t.findIdx p = k := (List.findIdx_eq hk).2 ⟨h1, fun j hj => h2 j (by omega) hj⟩
  unfold firstIx
  rw [e, if_pos hk]
theorem firstIx_none {p : Spot → Bool} {t : List Spot} (h : ∀ j (hj : j < t.length), p t[j] = false) : firstIx p t = -1 := by
  have e : t.findIdx p = t.length := by
    rw [List.findIdx_eq_length]
    intro x hx
    obtain ⟨j, hj, rfl⟩ := List.getElem_of_mem hx
    exact h j hj
  unfold firstIx
  rw [e, if_neg (Nat.lt_irrefl _)]

set_option maxHeartbeats 1600000 in
theorem slices_IndexSpots (cf : Nat) (caps : Array Value) (hcf : ∀ args w, (callFunc cf args).run Try.prog w = .ok (.enter cf args) w) (p : Spot → Bool) (t : List Spot) (v : Value) (w : World) (h : Row spotE w w.heap.size v t)
    (hon : ∀ (s : Spot) (u : Value) W, s ∈ t → Below w.heap.size w W → Row intE W W.heap.size u s.line → Calls Try.prog cf (#[.agg #[.int .i64 s.addr, .int .i64 s.count, u]] ++ caps) W fun e W' => e = .returned (.bool (p s)) ∧ Below W.heap.size W W') :
    Calls Try.prog 57 #[v, .func (.func cf) #[] caps] w fun e w' => e = .returned (.int .i64 (firstIx p t)) ∧ Below w.heap.size w w' := by
  obtain ⟨A, c, rfl, hlc, hcm⟩ := h.open
  unfold maxLen at hcm
  have H := hid h
  have hon := hid hon
  clear h
  go_enter Try.func57, Try.ntmps57
  go_wp2
  go_loopg [8] t.length (fun g i wr => ∃ k : Nat, k + g = t.length ∧ i = .int .i64 k ∧ Hid (∀ j (hj : j < t.length), j < k → p t[j] = false) ∧ Below w.heap.size w wr)
  case atStart => exact ⟨0, by omega, rfl, fun j hj h => by omega, Below.refl _ _⟩
  case round =>
    obtain ⟨k, hk, rfl, hno, hb⟩ := hrel
    cases gk with
    | zero =>
      have hkl : k = t.length := by omega
      have hfi := hid (firstIx_none (p := p) (t := t) (fun j hj => hno.out j hj (by omega)))
      subst hkl
      go_wp2
      go_ret
      exact ⟨ret_int hfi.out.symm, hb⟩
    | succ g =>
      have hlt : k < t.length := by omega
      have hki : (k : Int) < (t.length : Int) := by omega
      obtain ⟨b, o, A', c', rfl, hbb, hc0, hc1, hc2, hrow⟩ := (H.out.below hb).spot k hlt
      have hrow' := hid (hrow.keep (Below.refl _ _) hb.size)
      have hcall := hid (hon.out t[k] _ wr (by simp) hb hrow'.out)
      clear hrow
      obtain ⟨bo, hbo⟩ : ∃ bo, bo = p t[k] := ⟨_, rfl⟩
      have hbo' := hid hbo
      simp only [← hbo] at hcall
      clear hbo
      cases bo with
      | true =>
        have hfi := hid (firstIx_at hlt hbo'.out.symm hno.out)
        go_wp2_with fail
        refine hcall.out.mono ?_
        rintro e w2 ⟨rfl, hb2⟩
        have hb2 := hid (hb.trans (hb2.mono hb.size))
        go_wp2
        go_ret
        exact ⟨ret_int hfi.out.symm, hb2.out⟩
      | false =>
        go_wp2_with fail
        refine hcall.out.mono ?_
        rintro e w2 ⟨rfl, hb2⟩
        have hb2 := hid (hb.trans (hb2.mono hb.size))
        go_wp2
        go_roundg g
        case rel => exact ⟨k + 1, by omega, by go_num, (fun j hj hjk => by
          by_cases e : j = k
          · subst e; exact hbo'.out.symm
          · exact hno.out j hj (by omega)), hb2.out⟩
        case measure => omega
end Go.Proofs.Ytbbkgibopicaeaa
