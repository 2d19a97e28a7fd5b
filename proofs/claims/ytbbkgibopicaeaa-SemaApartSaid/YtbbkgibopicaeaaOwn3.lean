/- Rows of elements of more cells than one: copy, clear. Over whatever program. -/
import Derived.Test.YtbbkgibopicaeaaOwn2
import Derived.Laws.CopyRow
namespace Go.Proofs.Ytbbkgibopicaeaa
set_option linter.unusedVariables false
set_option linter.unusedSimpArgs false
open Go.RowKit

section
variable {P : Program}

/-- 'copy(d, s)' into a block that is known whole. -/
theorem run_copy_rowK (w : World) (dT sT ty elem : TypeId) (g o dLen dCap k n : Nat) (a : Addr) (sLen sCap : Nat) (cur : Array Value) (t : TypeId) (cs : List Value)
    (hu : P.underlying dT = some (.slice elem)) (hs : (P.info? elem).map (·.size) = some k)
    (hg : w.heap[g]? = some (.cells cur t (0, 0))) (hmin : Nat.min sLen dLen = n) (hn : cs.length = n * k)
    (hsrc : ∀ j v, cs[j]? = some v → w.cell? (a.add j) = some v) (hfit : o + cs.length ≤ cur.size) (h1 : ∀ v ∈ cs, v.oneCell' = true) :
    (Builtin.copy_ #[dT, sT] ty #[.slice (some ⟨g, o, none⟩) dLen dCap, .slice (some a) sLen sCap]).run P w =
      .ok (goInt n) (w.setRow g (cur.toList.take o ++ cs ++ cur.toList.drop (o + cs.length)).toArray) := by
  have hl := run_loadCells_list (P := P) w a cs hsrc
  have hst := run_storeCells_at P g o t cs 0 cur w hg (by simpa using hfit) h1
  cases hq : P.info? elem with
  | none => simp [hq] at hs
  | some i =>
    have hi : i.size = k := by simpa [hq] using hs
    simp [Builtin.copy_, run_underlying hu, Builtin.lenOf, Builtin.firstCells, sizeOf, typeInfo, hq, hi, hmin, ← hn, hl, hst]

/-- 'clear(s)' in a block that is known whole. -/
theorem run_clear_rowK (w : World) (t e ty : TypeId) (z : Value) (ht : P.underlying t = some (.slice e)) (hv : ∀ w, (zeroValue e).run P w = .ok z w) (h1 : ∀ v ∈ z.cells, v.oneCell' = true) (hz : 0 < z.cells.size) (g o n c : Nat) (cur : Array Value) (ct : TypeId)
    (hg : w.heap[g]? = some (.cells cur ct (0, 0))) (hfit : o + n * z.cells.size ≤ cur.size) :
    ∃ zs : List Value, zs.length = n * z.cells.size ∧ (Builtin.clear_ #[t] ty #[.slice (some ⟨g, o, none⟩) n c]).run P w = .ok (.tuple #[]) (w.setRow g (cur.toList.take o ++ zs ++ cur.toList.drop (o + zs.length)).toArray) := by
  cases n with
  | zero =>
    refine ⟨[], by simp, ?_⟩
    simp only [List.append_nil, List.length_nil, Nat.add_zero, List.take_append_drop, Array.toArray_toList]
    rw [setRow_self w g cur ct (0, 0) hg]
    simp [Builtin.clear_, run_underlying ht]
  | succ m =>
    have hlen : (Builtin.zeroCells z.cells (m + 1)).toList.length = (m + 1) * z.cells.size := by simp [Builtin.zeroCells]
    refine ⟨(Builtin.zeroCells z.cells (m + 1)).toList, hlen, ?_⟩
    have hone : ∀ v ∈ (Builtin.zeroCells z.cells (m + 1)).toList, v.oneCell' = true := by
      intro v hv'
      simp only [Builtin.zeroCells, Array.toList_map, List.mem_map, Array.mem_toList_iff, Array.mem_range] at hv'
      obtain ⟨i, _, rfl⟩ := hv'
      have : i % z.cells.size < z.cells.size := Nat.mod_lt _ hz
      rw [getElem!_pos z.cells (i % z.cells.size) this]
      exact h1 _ (Array.getElem_mem this)
    have hst := run_storeCells_at P g o ct (Builtin.zeroCells z.cells (m + 1)).toList 0 cur w hg (by rw [hlen]; simpa using hfit) hone
    simp only [Nat.add_zero] at hst
    simp [Builtin.clear_, run_underlying ht, hv, hst]
end
end Go.Proofs.Ytbbkgibopicaeaa
