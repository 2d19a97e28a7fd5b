/- The reference of layer 9: a spot in its place. -/
import Derived.Test.YtbbkgibopicaeaaR09b
namespace Go.Proofs.Ytbbkgibopicaeaa
set_option linter.unusedVariables false
set_option linter.unusedSimpArgs false
open Go.RowKit

set_option maxHeartbeats 3200000 in
theorem ref09_Set (v vs : Value) (t : List Spot) (s : Spot) (w : World) (h : Row spotE w w.heap.size v t) (hs : Row intE w w.heap.size vs s.line) (hadr : ∀ x ∈ t, 0 ≤ x.addr ∧ x.addr ≤ 4294967295) (hsa : 0 ≤ s.addr ∧ s.addr ≤ 4294967295) (hlen : t.length ≤ 1000000000) :
    Calls Try.prog 32 #[v, .agg #[.int .i64 s.addr, .int .i64 s.count, vs]] w (RowPost spotE (tabSet t s) w) := by
  obtain ⟨A, c, rfl, hlc, hcm⟩ := h.open
  obtain ⟨As, cs, rfl, _, _⟩ := hs.open
  unfold maxLen at hcm
  have H := hid h
  have HS := hid hs
  have HA := hid hadr
  have sa1 := hsa.1
  have sa2 := hsa.2
  clear h hadr hs hsa
  have hbx0 := hid (Box.new w #[.int .i64 s.addr, .int .i64 s.count, .slice As s.line.length cs] 42)
  have hown0 := hid (Own.emptyAt spotE 42 (w.alloc (.cells #[.int .i64 s.addr, .int .i64 s.count, .slice As s.line.length cs] 42)) (w.heap.size + 1) (w.heap.size + 1) (by simp) (by simp))
  have hE := hid (fun w' (hb : Below w.heap.size w w') => (ref09_Empty s (.slice As s.line.length cs) w' (HS.out.keep hb hb.size)))
  go_enter Try.func32, Try.ntmps32
  go_wp2_with (go_at_call 35; refine (hE.out _ (by repeat (first | assumption | exact Below.refl _ _ | refine bdrawN ?_ _ | refine Below.drew ?_ | refine Below.alloc ?_ (by (try simp) <;> omega) _ | refine Below.setCell ?_ (by (try simp) <;> omega) _))).mono ?_; rintro e w1 ⟨rfl, hb1⟩)
  have hbx1 := hid ((hbx0.out.alloc (.cells #[] 42)).keep hb1 (by simp; omega))
  have hown1 := hid (Own.grown hown0.out (by simpa using hb1) (by simp))
  have hbw1 := hid (show Below w.heap.size w w1 from (((Below.refl _ _).alloc (Nat.le_refl _) _).alloc (by simp) _).trans (hb1.mono (by simp; omega)))
  clear hb1
  go_loopg [5, 6, 14] t.length (fun g o d i wr => ∃ k A n' c, k + g = t.length ∧ i = .int .i64 (k : Nat) ∧ o = .slice A n' c ∧ d = .bool (setTo s (t.take k)).2 ∧ Hid ((setTo s (t.take k)).1.length = n') ∧ n' ≤ 2 * k ∧
    Hid (Own spotE 42 wr (w.heap.size + 1) o (setTo s (t.take k)).1) ∧ Below w.heap.size w wr ∧ Hid (Box wr w.heap.size #[.int .i64 s.addr, .int .i64 s.count, .slice As s.line.length cs] 42))
  case atStart => exact ⟨0, _, 0, _, by omega, rfl, rfl, rfl, rfl, by omega, hown1, hbw1.out, hbx1⟩
  case round =>
    obtain ⟨k, A1, n1, c1, hk, rfl, rfl, rfl, hn1, hn1k, hown, hb, hbx⟩ := hrel
    have f0 := hbx.out.cell 0 _ rfl
    have f1 := hbx.out.cell 1 _ rfl
    have f2 := hbx.out.cell 2 _ rfl
    have hsz := hbx.out.lt
    cases gk with
    | zero =>
      have hkl : k = t.length := by omega
      have hT := hid (show tabSet t s = if (setTo s (t.take k)).2 = false then (setTo s (t.take k)).1 ++ [s] else (setTo s (t.take k)).1 by rw [hkl, List.take_length]; rfl)
      generalize setTo s (t.take k) = st at *
      obtain ⟨st1, st2⟩ := st
      simp only at hT hn1 hown
      have hkl := hid hkl
      cases st2
      · have hT := hid (show tabSet t s = st1 ++ [s] by rw [hT.out]; simp)
        have hsok : spotE.ok wr (w.heap.size + 1) s [.int .i64 s.addr, .int .i64 s.count, .slice As s.line.length cs] := ⟨_, rfl, HS.out.keep hb (by omega)⟩
        have hsok := hid hsok
        go_wp2_with (at_builtin; refine wpList_app1 spotE 33 42 (.agg #[.int .i64 0, .int .i64 0, .slice none 0 0]) 40 Try.underlying33 info_spot rfl (by decide) (.tmp 43) (.tmp 45) (w.heap.size + 1) st1 s (st1 ++ [s]) (n1 + 1) rfl (by rw [hn1.out]) _ (hown.out.alloc (by omega) _) rfl _ 1 rfl [.int .i64 s.addr, .int .i64 s.count, .slice As s.line.length cs] (spotE.keep hsok.out ((Below.refl _ _).alloc (by omega) _) (Nat.le_refl _)) (cell_new _ _ (by simp) _ _) rfl rfl (by rw [hn1.out]; omega) (by rw [hn1.out]; omega) (by simp; omega) ?_; intro A3 c3 w3 hown3 hb3 hc31 hc32; have HO3 := hid hown3; clear hown3)
        go_ret
        have hb3' := hb3.size
        simp only [World.size_alloc] at hb3'
        exact ⟨_, rfl, by rw [hT.out]; exact HO3.out.row (by omega), (hb.alloc (by omega) _).trans (hb3.mono (by omega))⟩
      · have hT := hid (show tabSet t s = st1 by rw [hT.out]; simp)
        go_wp2
        go_ret
        exact ⟨_, rfl, by rw [hT.out]; exact hown.out.row (by omega), hb⟩
    | succ g =>
      have hlt : k < t.length := by omega
      have hki : (k : Int) < (t.length : Int) := by omega
      obtain ⟨b, o, A2, c2, rfl, hbb, hc0, hc1, hc2, hrow⟩ := H.out.spot k hlt
      have hc0 := (hb.cell (p := ⟨b, _, none⟩) hbb).trans hc0
      have hc1 := (hb.cell (p := ⟨b, _, none⟩) hbb).trans hc1
      have hc2 := (hb.cell (p := ⟨b, _, none⟩) hbb).trans hc2
      have hstep := hid (setTo_snoc s t k hlt)
      have ha1 := (HA.out t[k] (by simp)).1
      have ha2 := (HA.out t[k] (by simp)).2
      generalize setTo s (t.take k) = st at *
      obtain ⟨st1, st2⟩ := st
      simp only at hn1 hown
      have hsok : ∀ W, Below (w.heap.size + 1) wr W → spotE.ok W (w.heap.size + 1) s [.int .i64 s.addr, .int .i64 s.count, .slice As s.line.length cs] := fun W hW => ⟨_, rfl, (HS.out.keep hb (by omega : _ ≤ w.heap.size + 1)).keep hW (Nat.le_refl _)⟩
      have hxok : ∀ W, Below (w.heap.size + 1) wr W → spotE.ok W (w.heap.size + 1) t[k] [.int .i64 t[k].addr, .int .i64 t[k].count, .slice A2 t[k].line.length c2] := fun W hW => ⟨_, rfl, (hrow.keep hb (by omega : _ ≤ w.heap.size + 1)).keep hW (Nat.le_refl _)⟩
      have hsok := hid hsok
      have hxok := hid hxok
      clear hrow
      have hbo := hid (fun o => ((Below.refl (w.heap.size + 1) wr).alloc (by omega) o))
      by_cases he : t[k].addr = s.addr
      · have he1 : (t[k].addr == s.addr) = true := by simp [he]
        have hl1 := hid (show setTo s (t.take (k + 1)) = (st1, st2) by rw [hstep.out]; unfold setStep; rw [if_pos he])
        clear he
        go_wp2
        go_roundg g
        case rel => exact ⟨k + 1, _, _, _, by omega, by go_num, rfl, by rw [hl1.out], by rw [hl1.out]; exact hn1, by omega, by rw [hl1.out]; exact hown.out.alloc (by omega) _, hb.alloc (by omega) _, hbx.out.alloc _⟩
        case measure => omega
      · have he1 : (t[k].addr == s.addr) = false := by simp [he]
        cases st2
        · by_cases hl : addrLess s.addr t[k].addr = true
          · have hl1 := hid (show setTo s (t.take (k + 1)) = (st1 ++ [s] ++ [t[k]], true) by rw [hstep.out]; unfold setStep; rw [if_neg he, if_pos ⟨rfl, hl⟩])
            clear he
            go_wp2_with (first
              | (go_at_call 64; refine (ref09_less _ _ _ sa1 sa2 ha1 ha2).mono ?_; rintro e w' ⟨rfl, rfl⟩)
              | (at_builtin; refine wpList_app1' spotE 33 42 (.agg #[.int .i64 0, .int .i64 0, .slice none 0 0]) 40 Try.underlying33 info_spot rfl (by decide) (.tmp 32) (.tmp 34) (w.heap.size + 1) st1 s (st1 ++ [s]) (n1 + 1) rfl (by simp [hn1.out]) _ ((hown.out.alloc (by omega) _).alloc (by simp; omega) _) rfl _ 1 rfl [.int .i64 s.addr, .int .i64 s.count, .slice As s.line.length cs] (hsok.out _ ((hbo.out _).alloc (by simp; omega) _)) (cell_new _ _ (by simp) _ _) rfl rfl (by (try rw [List.length_append]); rw [hn1.out]; (try simp); omega) (by (try rw [List.length_append]); rw [hn1.out]; (try simp); omega) (by (try simp); omega) ?_; intro A3 c3 w3 hown3 hb3 _ _ hrest3; have HO3 := hid hown3; clear hown3; have hz3 := hb3.size; simp only [World.size_alloc] at hz3; have hbx2 := hid (((hbx.out.alloc (.cells #[.int .i64 t[k].addr, .int .i64 t[k].count, .slice A2 t[k].line.length c2] 42)).alloc (.cells #[.int .i64 s.addr, .int .i64 s.count, .slice As s.line.length cs] 42)).keep hb3 (by omega)); have q0 := hbx2.out.cell 0 _ rfl; have q1 := hbx2.out.cell 1 _ rfl; have q2 := hbx2.out.cell 2 _ rfl; have hbx3 := hid ((Box.alloc (Box.new wr #[.int .i64 t[k].addr, .int .i64 t[k].count, .slice A2 t[k].line.length c2] 42) (.cells #[.int .i64 s.addr, .int .i64 s.count, .slice As s.line.length cs] 42))); have hbx4 := hid (show Box w3 wr.heap.size #[.int .i64 t[k].addr, .int .i64 t[k].count, .slice A2 t[k].line.length c2] 42 from (hrest3 _ (by simp; omega) (fun e => by have := (hown.out.lt _ e).2; omega)).trans hbx3.out); clear hrest3; have r0 := hbx4.out.cell 0 _ rfl; have r1 := hbx4.out.cell 1 _ rfl; have r2 := hbx4.out.cell 2 _ rfl)
              | (at_builtin; refine wpList_app1 spotE 33 42 (.agg #[.int .i64 0, .int .i64 0, .slice none 0 0]) 40 Try.underlying33 info_spot rfl (by decide) (.tmp 36) (.tmp 38) (w.heap.size + 1) (st1 ++ [s]) t[k] (st1 ++ [s] ++ [t[k]]) (n1 + 1 + 1) rfl (by simp [hn1.out]) _ (HO3.out.alloc (by omega) _) rfl _ 1 rfl [.int .i64 t[k].addr, .int .i64 t[k].count, .slice A2 t[k].line.length c2] (hxok.out _ ((((hbo.out _).alloc (by simp; omega) _).trans hb3).alloc (by omega) _)) (cell_new _ _ (by simp) _ _) rfl rfl (by (try rw [List.length_append]); rw [hn1.out]; (try simp); omega) (by (try rw [List.length_append]); rw [hn1.out]; (try simp); omega) (by (try simp); omega) ?_; intro A4 c4 w4 hown4 hb4 _ _; have HO4 := hid hown4; clear hown4; have hz4 := hb4.size; simp only [World.size_alloc] at hz4))
            go_roundg g
            case rel => exact ⟨k + 1, _, _, _, by omega, by go_num, rfl, by rw [hl1.out], by rw [hl1.out]; simp; have := hn1.out; omega, by omega, by rw [hl1.out]; exact HO4.out, ((((hb.alloc (by omega) _).alloc (by simp; omega) _).trans (hb3.mono (by omega))).alloc (by omega) _).trans (hb4.mono (by omega)), hbx2.out.keep (((Below.refl _ _).alloc (by omega) _).trans hb4) (by omega : w.heap.size < w.heap.size + 1)⟩
            case measure => omega
          · have hl1 := hid (show setTo s (t.take (k + 1)) = (st1 ++ [t[k]], false) by rw [hstep.out]; unfold setStep; rw [if_neg he, if_neg (by simp [hl])])
            replace hl : addrLess s.addr t[k].addr = false := by simpa using hl
            clear he
            go_wp2_with (first
              | (go_at_call 64; refine (ref09_less _ _ _ sa1 sa2 ha1 ha2).mono ?_; rintro e w' ⟨rfl, rfl⟩)
              | (at_builtin; refine wpList_app1 spotE 33 42 (.agg #[.int .i64 0, .int .i64 0, .slice none 0 0]) 40 Try.underlying33 info_spot rfl (by decide) (.tmp 36) (.tmp 38) (w.heap.size + 1) st1 t[k] (st1 ++ [t[k]]) (n1 + 1) rfl (by simp [hn1.out]) _ ((hown.out.alloc (by omega) _).alloc (by simp; omega) _) rfl _ 1 rfl [.int .i64 t[k].addr, .int .i64 t[k].count, .slice A2 t[k].line.length c2] (hxok.out _ ((hbo.out _).alloc (by simp; omega) _)) (cell_new _ _ (by simp) _ _) rfl rfl (by (try rw [List.length_append]); rw [hn1.out]; (try simp); omega) (by (try rw [List.length_append]); rw [hn1.out]; (try simp); omega) (by (try simp); omega) ?_; intro A3 c3 w3 hown3 hb3 _ _; have HO3 := hid hown3; clear hown3; have hz3 := hb3.size; simp only [World.size_alloc] at hz3))
            go_roundg g
            case rel => exact ⟨k + 1, _, _, _, by omega, by go_num, rfl, by rw [hl1.out], by rw [hl1.out]; simp; have := hn1.out; omega, by omega, by rw [hl1.out]; exact HO3.out, ((hb.alloc (by omega) _).alloc (by simp; omega) _).trans (hb3.mono (by omega)), ((hbx.out.alloc _).alloc _).keep hb3 (by omega)⟩
            case measure => omega
        · have hl1 := hid (show setTo s (t.take (k + 1)) = (st1 ++ [t[k]], true) by rw [hstep.out]; unfold setStep; rw [if_neg he, if_neg (by simp)])
          clear he
          go_wp2_with (at_builtin; refine wpList_app1 spotE 33 42 (.agg #[.int .i64 0, .int .i64 0, .slice none 0 0]) 40 Try.underlying33 info_spot rfl (by decide) (.tmp 36) (.tmp 38) (w.heap.size + 1) st1 t[k] (st1 ++ [t[k]]) (n1 + 1) rfl (by simp [hn1.out]) _ ((hown.out.alloc (by omega) _).alloc (by simp; omega) _) rfl _ 1 rfl [.int .i64 t[k].addr, .int .i64 t[k].count, .slice A2 t[k].line.length c2] (hxok.out _ ((hbo.out _).alloc (by simp; omega) _)) (cell_new _ _ (by simp) _ _) rfl rfl (by (try rw [List.length_append]); rw [hn1.out]; (try simp); omega) (by (try rw [List.length_append]); rw [hn1.out]; (try simp); omega) (by (try simp); omega) ?_; intro A3 c3 w3 hown3 hb3 _ _; have HO3 := hid hown3; clear hown3; have hz3 := hb3.size; simp only [World.size_alloc] at hz3)
          go_roundg g
          case rel => exact ⟨k + 1, _, _, _, by omega, by go_num, rfl, by rw [hl1.out], by rw [hl1.out]; simp; have := hn1.out; omega, by omega, by rw [hl1.out]; exact HO3.out, ((hb.alloc (by omega) _).alloc (by simp; omega) _).trans (hb3.mono (by omega)), ((hbx.out.alloc _).alloc _).keep hb3 (by omega)⟩
          case measure => omega
end Go.Proofs.Ytbbkgibopicaeaa
