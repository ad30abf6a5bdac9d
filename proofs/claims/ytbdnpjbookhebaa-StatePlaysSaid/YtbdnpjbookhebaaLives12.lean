/- StateLives: a goroutine's way from its beginning to its end. -/
import Derived.Test.YtbdnpjbookhebaaTold12
namespace Go.Proofs.Ytbdnpjbookhebaa
open Go.RowKit
set_option linter.unusedVariables false

/-- Who is dead. -/
def deadV (L : List Nat) : Array Value := (L.map fun s => Value.bool (s == 5)).toArray
theorem dead_set (L : List Nat) (g t : Nat) : deadV (L.set g t) = (deadV L).setIfInBounds g (.bool (t == 5)) := by
  simp [deadV, List.map_set]
theorem dead_at {L : List Nat} {g : Nat} (h : g < L.length) : (deadV L)[g]? = some (.bool (L.getD g 0 == 5)) := by
  simp [deadV, h]
theorem dead_same {L : List Nat} {g s t : Nat} (h : g < L.length) (hs : L.getD g 0 = s) (h1 : s ≠ 5) (h2 : t ≠ 5) : deadV (L.set g t) = deadV L := by
  have e1 : L[g] = s := by rw [← hs]; simp [h]
  unfold deadV
  congr 1
  apply List.ext_getElem (by simp)
  intro i h3 h4
  by_cases e : g = i
  · subst e
    have e2 : (t == 5) = (s == 5) := by
      rw [beq_eq_false_iff_ne.2 h1, beq_eq_false_iff_ne.2 h2]
    simp [e1, e2]
  · simp [e]

theorem alive_count {L : List Nat} : ∀ k, k ≤ L.length → (aliveTo L k).length + (L.take k).count 5 = k
  | 0, _ => by simp [aliveTo]
  | k + 1, h => by
    have ih := alive_count (L := L) k (by omega)
    have ht : L.take (k + 1) = L.take k ++ [L[k]] := (List.take_succ_eq_append_getElem (by omega))
    have hg : L.getD k 0 = L[k] := by simp [show k < L.length by omega]
    rw [ht, List.count_append]
    by_cases h5 : L.getD k 0 = 5
    · rw [alive_miss h5]
      rw [hg] at h5
      simp [h5]; omega
    · rw [alive_hit h5, List.length_append]
      rw [hg] at h5
      simp [h5]; omega

/-- What holds between two rounds. -/
def Live (w : World) (D : Nat) (wr : World) : Prop := ∃ v L, St wr w.heap.size v L ∧ L.length = 3 ∧ Box wr D (deadV L) 4 ∧ D ≠ w.heap.size ∧ v.ownBlock ≠ some D ∧ Below w.heap.size w wr

theorem Live.step {w wr w' : World} {D : Nat} {v : Value} {L L' : List Nat} (h : St wr w.heap.size v L) (hl : L'.length = 3) (hD : Box wr D (deadV L) 4) (h1 : D ≠ w.heap.size) (h2 : v.ownBlock ≠ some D) (hb : Below w.heap.size w wr)
    (hn : Nxt wr w.heap.size v L' w') : ∃ v', St w' w.heap.size v' L' ∧ Box w' D (deadV L) 4 ∧ v'.ownBlock ≠ some D ∧ Below w.heap.size w w' := by
  have hb' := hb.trans (Nxt.below h hn)
  obtain ⟨v', h3, hc, hv⟩ := hn
  refine ⟨v', h3, hD.chg hc ?_, ?_, hb'⟩
  · rintro (rfl | e)
    · exact h1 rfl
    · exact h2 e
  · intro e
    rcases hv D e with h4 | h4
    · exact h2 h4
    · have := hD.lt; omega

theorem Live.le {w wr : World} {D : Nat} {L : List Nat} {wz : World} (h1 : D ≠ w.heap.size) (h2 : Box wz D (deadV L) 4) (h3 : Below w.heap.size w wr) (h4 : w.heap.size ≤ D) : w.heap.size ≤ D := h4

theorem count_take {L : List Nat} (h : L.length = 3) : (L.take 3).count 5 = L.count 5 := by rw [List.take_of_length_le (by omega)]

set_option maxRecDepth 10000 in
set_option maxHeartbeats 16000000 in
theorem lives_walk (a : Option Addr) (len cap : Nat) (zs : List Int) (w : World)
    (hl : len ≤ cap) (hm : cap ≤ 9223372036854775807) (hb : len = 0 ∨ ∃ b off, a = some ⟨b, off, none⟩ ∧ b < w.heap.size ∧ ∀ i, i < len → w.cell? ⟨b, off + i, none⟩ = some (.int .i64 (zs.getD i 0))) :
    Calls Try.prog 6 #[.slice a len cap] w fun e w' => e = .returned (.bool true) ∧ Below w.heap.size w w' := by
  have Hb := Lib.hid hb
  have hmk : ∀ w, (Instr.makeSlice 39 (.int .i64 3) (.int .i64 3)).run Try.prog w = .ok (.slice (some ⟨w.heap.size, 0, none⟩) 3 3) (w.alloc (.cells #[.bool false, .bool false, .bool false] 4)) := fun _ => by kernel_rfl
  clear hb
  by_cases h60 : len ≤ 60
  · go_enter Try.func6, Try.ntmps6
    go_wp2_with fail
    refine (new_any _).mono ?_
    rintro e w1 ⟨rfl, h1, hx1, -⟩
    have H1 := Lib.hid h1
    have X1 : Hid (Below w.heap.size w w1) := Lib.hid hx1
    clear h1 hx1
    go_wp2_with fail
    go_loopw [4] (fun iv wr => ∃ i : Nat, i ≤ 3 ∧ iv = .int .i64 i ∧ (∃ v, St wr w.heap.size v (List.replicate i 1)) ∧ Below w.heap.size w wr) (fun iv _ => 3 - (intOf iv).toNat)
    case atStart => exact ⟨0, by omega, rfl, ⟨_, H1.out⟩, X1.out⟩
    case round =>
      obtain ⟨i, hi, rfl, ⟨v, hst⟩, hbb⟩ := hrel
      have H := Lib.hid hst
      have X := Lib.hid hbb
      clear hst hbb H1 X1
      by_cases hi3 : i < 3
      · go_wp2_with fail
        have hsp := spawn_any H.out (by simp; omega)
        rw [List.length_replicate, ← List.replicate_succ'] at hsp
        refine hsp.mono ?_
        rintro e w2 ⟨rfl, hn⟩
        have X2 := Lib.hid (X.out.trans (Nxt.below H.out hn))
        obtain ⟨v2, h2, -, -⟩ := hn
        have H2 := Lib.hid h2
        clear h2 hsp
        go_wp2_with fail
        go_roundw
        case rel => exact ⟨i + 1, by omega, by go_num, ⟨v2, H2.out⟩, X2.out⟩
        case measure => simp [intOf]; omega
      · obtain rfl : i = 3 := by omega
        rw [show ((3 : Nat) : Int) = (3 : Int) from rfl]
        obtain ⟨wo, rfl⟩ : ∃ wo : World, wo = wr := ⟨_, rfl⟩
        go_wp2_with fail
        have hD : wo.heap.size ≠ w.heap.size := by have := H.out.box.lt; omega
        have hwD : w.heap.size ≤ wo.heap.size := X.out.size
        have hst : Live w wo.heap.size (wo.alloc (.cells #[.bool false, .bool false, .bool false] 4)) := by
          refine ⟨v, [1, 1, 1], H.out.ex (Ex.made _ _), rfl, Box.fresh _ _ _, hD, ?_, Below.alloc X.out X.out.size _⟩
          intro e
          have := H.out.row.lt _ e
          omega
        have HL := Lib.hid hst
        obtain ⟨D, hDD⟩ : ∃ D, wo.heap.size = D := ⟨_, rfl⟩
        obtain ⟨ws, hws⟩ : ∃ ws, ws = wo.alloc (.cells #[.bool false, .bool false, .bool false] 4) := ⟨_, rfl⟩
        rw [← hws] at HL ⊢
        rw [hDD] at HL hD hwD
        rw [hDD]
        clear hst H X hws hDD
        go_loopw [8] (fun iv wr => ∃ k : Nat, k ≤ len ∧ iv = .int .i64 k ∧ Live w D wr) (fun iv _ => len - (intOf iv).toNat)
        case atStart => exact ⟨0, by omega, rfl, HL.out⟩
        case round =>
          obtain ⟨k, hk, rfl, v, L, h1, h2, h3, h4, h5, h6⟩ := hrel
          clear HL
          by_cases hkl : k < len
          · obtain ⟨b, off, rfl, hbb, hcell⟩ := Hb.out.resolve_left (by omega)
            obtain ⟨z, hzz⟩ : ∃ z, zs.getD k 0 = z := ⟨_, rfl⟩
            have hc : wr.cell? ⟨b, off + k, none⟩ = some (.int .i64 z) := by
              rw [← hzz, ← hcell k hkl]
              exact h6.cell (p := ⟨b, off + k, none⟩) hbb
            have hbw : b < wr.heap.size := Nat.lt_of_lt_of_le hbb h6.size
            obtain ⟨r, hr⟩ : ∃ r, (IntKind.u64.wrap z).tmod 3 = r := ⟨_, rfl⟩
            obtain ⟨r1, r2⟩ := umod_bd z 3 (by omega)
            rw [hr] at r1 r2
            obtain ⟨g, rfl⟩ : ∃ g : Nat, r = (g : Int) := ⟨r.toNat, by omega⟩
            have g3 : g < 3 := by omega
            obtain ⟨y, hy⟩ : ∃ y, (IntKind.u64.wrap (wrap64 (z.tdiv 3))).tmod 4 = y := ⟨_, rfl⟩
            obtain ⟨y1, y2⟩ := umod_bd (wrap64 (z.tdiv 3)) 4 (by omega)
            rw [hy] at y1 y2
            obtain ⟨s, hs⟩ : ∃ s, L.getD g 0 = s := ⟨_, rfl⟩
            have hsb := h1.ok s (by rw [← hs]; simp [show g < L.length by omega])
            have H1 := Lib.hid h1
            have H2 := Lib.hid h2
            have H3 := Lib.hid h3
            have H6 := Lib.hid h6
            have H5 := Lib.hid h5
            have HS := Lib.hid hs
            have fd := h3.soft g
            have hcd : wr.cell? ⟨D, g, none⟩ = some (.bool (s == 5)) := by rw [h3.cell g, dead_at (by omega), hs]
            clear h1 h2 h3 h5 h6 hs hcell hzz
            go_wp2_with fail
            refine (of_in H1.out g (by rw [H2.out]; exact g3) s HS.out).mono ?_
            rintro e w' ⟨rfl, rfl⟩
            have hs5 : s = 1 ∨ s = 2 ∨ s = 3 ∨ s = 4 ∨ s = 5 := by omega
            clear hsb
            rcases hs5 with rfl | rfl | rfl | rfl | rfl
            go_wp2_with fail
            refine (move_no H1.out g (by rw [H2.out]; exact g3) 1 3 HS.out (by decide)).mono ?_
            rintro e wa ⟨rfl, hx⟩
            have H1a := Lib.hid (H1.out.ex hx)
            have H3a := Lib.hid (H3.out.ex hx)
            have H6a := Lib.hid (H6.out.trans (Below.mono hx H6.out.size))
            clear hx
            go_wp2_with fail
            refine (move_yes H1a.out g (by rw [H2.out]; exact g3) 1 2 HS.out (by decide)).mono ?_
            rintro e wz ⟨rfl, hn⟩
            obtain ⟨vz, n1, n2, n3, n4⟩ := Live.step (L' := L.set g 2) H1a.out (by rw [List.length_set]; exact H2.out) H3a.out h4 H5.out H6a.out hn
            rw [← dead_same (t := 2) (by rw [H2.out]; exact g3) HS.out (by omega) (by omega)] at n2
            have TT : Hid (Live w D wz) := Lib.hid ⟨vz, _, n1, by rw [List.length_set]; exact H2.out, n2, h4, n3, n4⟩
            clear n1 n2 n3 n4 hn H1a H3a H6a H1 H3 H6 H5 HS fd hcd
            obtain ⟨wt, rfl⟩ : ∃ wt : World, wt = wz := ⟨_, rfl⟩
            go_wp2_with fail
            rotate_left
            have hy4 : y = 0 ∨ y = 1 ∨ y = 2 ∨ y = 3 := by omega
            rcases hy4 with rfl | rfl | rfl | rfl
            go_wp2_with fail
            have H1b := H1.out.ex (Ex.made wr (.cells #[.int .i64 1, .int .i64 3, .int .i64 4, .int .i64 5] 3))
            refine (move_no H1b g (by rw [H2.out]; exact g3) 2 2 HS.out (by decide)).mono ?_
            rintro e wa ⟨rfl, hx⟩
            have H1a := Lib.hid (H1b.ex hx)
            have H3a := Lib.hid ((H3.out.ex (Ex.made wr (.cells #[.int .i64 1, .int .i64 3, .int .i64 4, .int .i64 5] 3))).ex hx)
            have H6b := Below.alloc H6.out H6.out.size (.cells #[.int .i64 1, .int .i64 3, .int .i64 4, .int .i64 5] 3)
            have H6a := Lib.hid (H6b.trans (Below.mono hx H6b.size))
            clear hx H1b H6b
            go_wp2_with fail
            refine (move_yes H1a.out g (by rw [H2.out]; exact g3) 2 1 HS.out (by decide)).mono ?_
            rintro e wz ⟨rfl, hn⟩
            obtain ⟨vz, n1, n2, n3, n4⟩ := Live.step (L' := L.set g 1) H1a.out (by rw [List.length_set]; exact H2.out) H3a.out h4 H5.out H6a.out hn
            have TT : Hid (Live w D (wz.setCell ⟨D, g, none⟩ (.bool (1 == 5)))) := Lib.hid ⟨vz, _, n1.chg (Chg.cell (F := fun k => k = D) wz ⟨D, g, none⟩ _ rfl) (by
              intro i hi e
              subst e
              rcases hi with rfl | hi
              · exact h4 rfl
              · exact n3 hi), by rw [List.length_set]; exact H2.out, by rw [dead_set]; exact n2.put g _, h4, n3, n4.setCell (p := ⟨D, g, none⟩) (Live.le h4 n2 H6a.out hwD) _⟩
            have fd' := n2.soft g
            have hcd' : wz.cell? ⟨D, g, none⟩ = some (.bool (2 == 5)) := by rw [n2.cell g, dead_at (by rw [H2.out]; exact g3), HS.out]
            clear n1 n2 n3 n4 hn H1a H3a H6a H1 H3 H6 H5 HS fd hcd
            go_wp2_with fail
            obtain ⟨wt, hwt⟩ : ∃ wt, wt = wz.setCell ⟨D, g, none⟩ (.bool false) := ⟨_, rfl⟩
            change Hid (Live w D (wz.setCell ⟨D, g, none⟩ (.bool false))) at TT
            rw [← hwt] at TT ⊢
            clear hwt fd' hcd'
            rotate_left
            go_wp2_with fail
            have H1b := H1.out.ex (Ex.made wr (.cells #[.int .i64 1, .int .i64 3, .int .i64 4, .int .i64 5] 3))
            refine (move_no H1b g (by rw [H2.out]; exact g3) 2 2 HS.out (by decide)).mono ?_
            rintro e wa ⟨rfl, hx⟩
            have H1a := Lib.hid (H1b.ex hx)
            have H3a := Lib.hid ((H3.out.ex (Ex.made wr (.cells #[.int .i64 1, .int .i64 3, .int .i64 4, .int .i64 5] 3))).ex hx)
            have H6b := Below.alloc H6.out H6.out.size (.cells #[.int .i64 1, .int .i64 3, .int .i64 4, .int .i64 5] 3)
            have H6a := Lib.hid (H6b.trans (Below.mono hx H6b.size))
            clear hx H1b H6b
            go_wp2_with fail
            refine (move_yes H1a.out g (by rw [H2.out]; exact g3) 2 3 HS.out (by decide)).mono ?_
            rintro e wz ⟨rfl, hn⟩
            obtain ⟨vz, n1, n2, n3, n4⟩ := Live.step (L' := L.set g 3) H1a.out (by rw [List.length_set]; exact H2.out) H3a.out h4 H5.out H6a.out hn
            have TT : Hid (Live w D (wz.setCell ⟨D, g, none⟩ (.bool (3 == 5)))) := Lib.hid ⟨vz, _, n1.chg (Chg.cell (F := fun k => k = D) wz ⟨D, g, none⟩ _ rfl) (by
              intro i hi e
              subst e
              rcases hi with rfl | hi
              · exact h4 rfl
              · exact n3 hi), by rw [List.length_set]; exact H2.out, by rw [dead_set]; exact n2.put g _, h4, n3, n4.setCell (p := ⟨D, g, none⟩) (Live.le h4 n2 H6a.out hwD) _⟩
            have fd' := n2.soft g
            have hcd' : wz.cell? ⟨D, g, none⟩ = some (.bool (2 == 5)) := by rw [n2.cell g, dead_at (by rw [H2.out]; exact g3), HS.out]
            clear n1 n2 n3 n4 hn H1a H3a H6a H1 H3 H6 H5 HS fd hcd
            go_wp2_with fail
            obtain ⟨wt, hwt⟩ : ∃ wt, wt = wz.setCell ⟨D, g, none⟩ (.bool false) := ⟨_, rfl⟩
            change Hid (Live w D (wz.setCell ⟨D, g, none⟩ (.bool false))) at TT
            rw [← hwt] at TT ⊢
            clear hwt fd' hcd'
            rotate_left
            go_wp2_with fail
            have H1b := H1.out.ex (Ex.made wr (.cells #[.int .i64 1, .int .i64 3, .int .i64 4, .int .i64 5] 3))
            refine (move_no H1b g (by rw [H2.out]; exact g3) 2 2 HS.out (by decide)).mono ?_
            rintro e wa ⟨rfl, hx⟩
            have H1a := Lib.hid (H1b.ex hx)
            have H3a := Lib.hid ((H3.out.ex (Ex.made wr (.cells #[.int .i64 1, .int .i64 3, .int .i64 4, .int .i64 5] 3))).ex hx)
            have H6b := Below.alloc H6.out H6.out.size (.cells #[.int .i64 1, .int .i64 3, .int .i64 4, .int .i64 5] 3)
            have H6a := Lib.hid (H6b.trans (Below.mono hx H6b.size))
            clear hx H1b H6b
            go_wp2_with fail
            refine (move_yes H1a.out g (by rw [H2.out]; exact g3) 2 4 HS.out (by decide)).mono ?_
            rintro e wz ⟨rfl, hn⟩
            obtain ⟨vz, n1, n2, n3, n4⟩ := Live.step (L' := L.set g 4) H1a.out (by rw [List.length_set]; exact H2.out) H3a.out h4 H5.out H6a.out hn
            have TT : Hid (Live w D (wz.setCell ⟨D, g, none⟩ (.bool (4 == 5)))) := Lib.hid ⟨vz, _, n1.chg (Chg.cell (F := fun k => k = D) wz ⟨D, g, none⟩ _ rfl) (by
              intro i hi e
              subst e
              rcases hi with rfl | hi
              · exact h4 rfl
              · exact n3 hi), by rw [List.length_set]; exact H2.out, by rw [dead_set]; exact n2.put g _, h4, n3, n4.setCell (p := ⟨D, g, none⟩) (Live.le h4 n2 H6a.out hwD) _⟩
            have fd' := n2.soft g
            have hcd' : wz.cell? ⟨D, g, none⟩ = some (.bool (2 == 5)) := by rw [n2.cell g, dead_at (by rw [H2.out]; exact g3), HS.out]
            clear n1 n2 n3 n4 hn H1a H3a H6a H1 H3 H6 H5 HS fd hcd
            go_wp2_with fail
            obtain ⟨wt, hwt⟩ : ∃ wt, wt = wz.setCell ⟨D, g, none⟩ (.bool false) := ⟨_, rfl⟩
            change Hid (Live w D (wz.setCell ⟨D, g, none⟩ (.bool false))) at TT
            rw [← hwt] at TT ⊢
            clear hwt fd' hcd'
            rotate_left
            go_wp2_with fail
            have H1b := H1.out.ex (Ex.made wr (.cells #[.int .i64 1, .int .i64 3, .int .i64 4, .int .i64 5] 3))
            refine (move_no H1b g (by rw [H2.out]; exact g3) 2 2 HS.out (by decide)).mono ?_
            rintro e wa ⟨rfl, hx⟩
            have H1a := Lib.hid (H1b.ex hx)
            have H3a := Lib.hid ((H3.out.ex (Ex.made wr (.cells #[.int .i64 1, .int .i64 3, .int .i64 4, .int .i64 5] 3))).ex hx)
            have H6b := Below.alloc H6.out H6.out.size (.cells #[.int .i64 1, .int .i64 3, .int .i64 4, .int .i64 5] 3)
            have H6a := Lib.hid (H6b.trans (Below.mono hx H6b.size))
            clear hx H1b H6b
            go_wp2_with fail
            refine (move_yes H1a.out g (by rw [H2.out]; exact g3) 2 5 HS.out (by decide)).mono ?_
            rintro e wz ⟨rfl, hn⟩
            obtain ⟨vz, n1, n2, n3, n4⟩ := Live.step (L' := L.set g 5) H1a.out (by rw [List.length_set]; exact H2.out) H3a.out h4 H5.out H6a.out hn
            have TT : Hid (Live w D (wz.setCell ⟨D, g, none⟩ (.bool (5 == 5)))) := Lib.hid ⟨vz, _, n1.chg (Chg.cell (F := fun k => k = D) wz ⟨D, g, none⟩ _ rfl) (by
              intro i hi e
              subst e
              rcases hi with rfl | hi
              · exact h4 rfl
              · exact n3 hi), by rw [List.length_set]; exact H2.out, by rw [dead_set]; exact n2.put g _, h4, n3, n4.setCell (p := ⟨D, g, none⟩) (Live.le h4 n2 H6a.out hwD) _⟩
            have fd' := n2.soft g
            have hcd' : wz.cell? ⟨D, g, none⟩ = some (.bool (2 == 5)) := by rw [n2.cell g, dead_at (by rw [H2.out]; exact g3), HS.out]
            clear n1 n2 n3 n4 hn H1a H3a H6a H1 H3 H6 H5 HS fd hcd
            go_wp2_with fail
            obtain ⟨wt, hwt⟩ : ∃ wt, wt = wz.setCell ⟨D, g, none⟩ (.bool true) := ⟨_, rfl⟩
            change Hid (Live w D (wz.setCell ⟨D, g, none⟩ (.bool true))) at TT
            rw [← hwt] at TT ⊢
            clear hwt fd' hcd'
            rotate_left
            go_wp2_with fail
            refine (move_no H1.out g (by rw [H2.out]; exact g3) 3 5 HS.out (by decide)).mono ?_
            rintro e wa ⟨rfl, hx⟩
            have H1a := Lib.hid (H1.out.ex hx)
            have H3a := Lib.hid (H3.out.ex hx)
            have H6a := Lib.hid (H6.out.trans (Below.mono hx H6.out.size))
            clear hx
            go_wp2_with fail
            refine (move_yes H1a.out g (by rw [H2.out]; exact g3) 3 1 HS.out (by decide)).mono ?_
            rintro e wz ⟨rfl, hn⟩
            obtain ⟨vz, n1, n2, n3, n4⟩ := Live.step (L' := L.set g 1) H1a.out (by rw [List.length_set]; exact H2.out) H3a.out h4 H5.out H6a.out hn
            rw [← dead_same (t := 1) (by rw [H2.out]; exact g3) HS.out (by omega) (by omega)] at n2
            have TT : Hid (Live w D wz) := Lib.hid ⟨vz, _, n1, by rw [List.length_set]; exact H2.out, n2, h4, n3, n4⟩
            clear n1 n2 n3 n4 hn H1a H3a H6a H1 H3 H6 H5 HS fd hcd
            obtain ⟨wt, rfl⟩ : ∃ wt : World, wt = wz := ⟨_, rfl⟩
            go_wp2_with fail
            rotate_left
            go_wp2_with fail
            refine (move_no H1.out g (by rw [H2.out]; exact g3) 4 5 HS.out (by decide)).mono ?_
            rintro e wa ⟨rfl, hx⟩
            have H1a := Lib.hid (H1.out.ex hx)
            have H3a := Lib.hid (H3.out.ex hx)
            have H6a := Lib.hid (H6.out.trans (Below.mono hx H6.out.size))
            clear hx
            go_wp2_with fail
            refine (move_yes H1a.out g (by rw [H2.out]; exact g3) 4 1 HS.out (by decide)).mono ?_
            rintro e wz ⟨rfl, hn⟩
            obtain ⟨vz, n1, n2, n3, n4⟩ := Live.step (L' := L.set g 1) H1a.out (by rw [List.length_set]; exact H2.out) H3a.out h4 H5.out H6a.out hn
            rw [← dead_same (t := 1) (by rw [H2.out]; exact g3) HS.out (by omega) (by omega)] at n2
            have TT : Hid (Live w D wz) := Lib.hid ⟨vz, _, n1, by rw [List.length_set]; exact H2.out, n2, h4, n3, n4⟩
            clear n1 n2 n3 n4 hn H1a H3a H6a H1 H3 H6 H5 HS fd hcd
            obtain ⟨wt, rfl⟩ : ∃ wt : World, wt = wz := ⟨_, rfl⟩
            go_wp2_with fail
            rotate_left
            go_wp2_with fail
            refine (move_no H1.out g (by rw [H2.out]; exact g3) 5 1 HS.out (by decide)).mono ?_
            rintro e wa ⟨rfl, hx⟩
            have H1a := Lib.hid (H1.out.ex hx)
            have H3a := Lib.hid (H3.out.ex hx)
            have H6a := Lib.hid (H6.out.trans (Below.mono hx H6.out.size))
            clear hx
            go_wp2_with fail
            refine (move_no H1a.out g (by rw [H2.out]; exact g3) 5 5 HS.out (by decide)).mono ?_
            rintro e wz ⟨rfl, hx⟩
            have TT : Hid (Live w D wz) := Lib.hid ⟨v, L, H1a.out.ex hx, H2.out, H3a.out.ex hx, h4, H5.out, H6a.out.trans (Below.mono hx H6a.out.size)⟩
            clear hx H1a H3a H6a H1 H3 H6 H5 HS fd hcd
            obtain ⟨wt, rfl⟩ : ∃ wt : World, wt = wz := ⟨_, rfl⟩
            go_wp2_with fail
            all_goals
              clear H2 v L
              obtain ⟨v, L, t1, t2, t3, t4, t5, t6⟩ := TT.out
              have T1 := Lib.hid t1
              have T2 := Lib.hid t2
              have T3 := Lib.hid t3
              have T5 := Lib.hid t5
              have T6 := Lib.hid t6
              clear t1 t2 t3 t4 t5 t6
              go_loop [11, 12] (fun nv jv => ∃ j : Nat, j ≤ 3 ∧ jv = .int .i64 j ∧ nv = .int .i64 ((L.take j).count 5 : Nat)) (fun _ jv => 3 - (intOf jv).toNat)
              case atStart => exact ⟨0, by omega, rfl, rfl⟩
              case round =>
                obtain ⟨j, hj, rfl, rfl⟩ := hrel
                have hcl : (L.take j).count 5 ≤ 3 := Nat.le_trans List.count_le_length (by rw [List.length_take]; omega)
                obtain ⟨c, hc5⟩ : ∃ c, (L.take j).count 5 = c := ⟨_, rfl⟩
                rw [hc5] at hcl ⊢
                have HC := Lib.hid hc5
                clear hc5
                by_cases hj3 : j < 3
                · have hcj : wt.cell? ⟨D, j, none⟩ = some (.bool (L.getD j 0 == 5)) := by rw [T3.out.cell j, dead_at (by rw [T2.out]; exact hj3)]
                  have htk : Hid ((L.take (j + 1)).count 5 = c + (if L.getD j 0 = 5 then 1 else 0)) := by
                    have hlt : j < L.length := by rw [T2.out]; exact hj3
                    rw [List.take_succ_eq_append_getElem hlt, List.count_append, HC.out]
                    apply Lib.hid
                    congr 1
                    by_cases e5 : L[j] = 5 <;> simp [hlt, e5]
                  obtain ⟨q, hq⟩ : ∃ q, L.getD j 0 = q := ⟨_, rfl⟩
                  rw [hq] at hcj htk
                  clear hq
                  by_cases hq5 : q = 5
                  · rw [if_pos hq5] at htk
                    have hb5 : (q == 5) = true := by simpa using hq5
                    rw [hb5] at hcj
                    clear hq5 hb5
                    go_wp2
                    go_round
                    case rel => exact ⟨j + 1, by omega, by go_num, by rw [htk.out]; go_num⟩
                    case measure => simp [intOf]; omega
                  · rw [if_neg hq5] at htk
                    have hb5 : (q == 5) = false := by simpa using hq5
                    rw [hb5] at hcj
                    clear hq5 hb5
                    go_wp2
                    go_round
                    case rel => exact ⟨j + 1, by omega, by go_num, by rw [htk.out]; go_num⟩
                    case measure => simp [intOf]; omega
                · obtain rfl : j = 3 := by omega
                  rw [count_take T2.out] at HC
                  have hal : Hid ((aliveTo L L.length).length = 3 - c) := by
                    have := alive_count (L := L) L.length (Nat.le_refl _)
                    rw [List.take_length, HC.out, T2.out] at this
                    rw [T2.out]
                    exact Lib.hid (by omega)
                  have hmc : (((3 - c : Nat) : Int) != 3 - (c : Int)) = false := by simp; omega
                  obtain ⟨m, hm3⟩ : ∃ m, 3 - c = m := ⟨_, rfl⟩
                  rw [hm3] at hal hmc
                  clear hm3
                  go_wp2_with fail
                  have k1 := count_any T1.out 5 (by omega) (by omega)
                  rw [HC.out] at k1
                  refine k1.mono ?_
                  rintro e w' ⟨rfl, rfl⟩
                  clear k1
                  go_wp2_with fail
                  refine (alive_any T1.out).mono ?_
                  intro e w6 ha
                  obtain ⟨a', cap', rfl, q1, q2, -, hx⟩ := alive_shape ha hal.out
                  have S1 := Lib.hid (T1.out.ex hx)
                  have S3 := Lib.hid (T3.out.ex hx)
                  have S6 := Lib.hid (T6.out.trans (Below.mono hx T6.out.size))
                  clear hx ha
                  go_wp2_with fail
                  have k2 := len_any S1.out
                  rw [T2.out] at k2
                  refine k2.mono ?_
                  rintro e w' ⟨rfl, rfl⟩
                  clear k2
                  go_wp2_with fail
                  go_roundw
                  case rel => exact ⟨k + 1, by omega, by go_num, v, L, S1.out, T2.out, S3.out, h4, T5.out, S6.out⟩
                  case measure => simp [intOf]; omega
          · obtain rfl : k = len := by omega
            have X6 := Lib.hid h6
            clear h1 h3 h6
            go_wp2_with fail
            refine (told_any _).mono ?_
            rintro e w5 ⟨rfl, hx⟩
            have X7 := Lib.hid (X6.out.trans (Below.mono hx X6.out.size))
            clear hx
            go_wp2_with fail
            go_ret
            exact ⟨rfl, X7.out⟩
  · go_enter Try.func6, Try.ntmps6
    go_wp2_with fail
    refine (new_any _).mono ?_
    rintro e w1 ⟨rfl, h1, hx1, -⟩
    have X1 : Hid (Below w.heap.size w w1) := Lib.hid hx1
    clear h1 hx1
    have h60' : (60 : Int) < (len : Int) := by omega
    go_wp2_with fail
    refine (told_any _).mono ?_
    rintro e w2 ⟨rfl, hx⟩
    have X2 := Lib.hid (X1.out.trans (Below.mono hx X1.out.size))
    clear hx
    go_wp2_with fail
    go_ret
    exact ⟨rfl, X2.out⟩

theorem row_in {w : World} {a : Option Addr} {len cap : Nat} {zs : List Int}
    (h : (a = none ∧ len = 0 ∧ cap = 0 ∧ zs = []) ∨ ∃ x, a = some x ∧ len ≤ cap ∧ cap ≤ maxLen ∧ zs.length = cap ∧ (∀ i, i < zs.length → w.cell? (x.add i) = some (.int .i64 (zs.getD i 0))) ∧ ∀ n ∈ zs, (Lit.int .i64 n).wf = true) :
    len ≤ cap ∧ cap ≤ maxLen ∧ (len = 0 ∨ ∃ b off, a = some ⟨b, off, none⟩ ∧ b < w.heap.size ∧ ∀ i, i < len → w.cell? ⟨b, off + i, none⟩ = some (.int .i64 (zs.getD i 0))) := by
  rcases h with ⟨rfl, rfl, rfl, rfl⟩ | ⟨⟨b, off, spot⟩, rfl, hl, hm, hz, hcell, _⟩
  · exact ⟨by omega, by unfold maxLen; omega, .inl rfl⟩
  · refine ⟨hl, hm, ?_⟩
    by_cases h0 : len = 0
    · exact .inl h0
    · have hc := hcell 0 (by omega)
      have hspot : spot = none := by simpa [Addr.add] using World.cell?_spot hc
      subst hspot
      refine .inr ⟨b, off, rfl, ?_, ?_⟩
      · simp only [World.cell?, Addr.add, if_pos] at hc
        by_cases hlt : b < w.heap.size
        · exact hlt
        · rw [Array.getElem?_eq_none (by omega)] at hc
          cases hc
      · intro i hi
        rw [← hcell i (by omega)]
        by_cases hi0 : i = 0
        · subst hi0; simp [Addr.add]
        · simp [Addr.add, hi0]

theorem walk_StateLives (a : Option Addr) (len cap : Nat) (zs : List Int) (w : World)
    (h : (a = none ∧ len = 0 ∧ cap = 0 ∧ zs = []) ∨ ∃ x, a = some x ∧ len ≤ cap ∧ cap ≤ maxLen ∧ zs.length = cap ∧ (∀ i, i < zs.length → w.cell? (x.add i) = some (.int .i64 (zs.getD i 0))) ∧ ∀ n ∈ zs, (Lit.int .i64 n).wf = true) :
    Calls Try.prog 6 #[.slice a len cap] w fun e w' => e = .returned (.bool true) ∧ Below w.heap.size w w' := by
  obtain ⟨h1, h2, h3⟩ := row_in h
  exact lives_walk a len cap zs w h1 h2 h3

end Go.Proofs.Ytbdnpjbookhebaa
