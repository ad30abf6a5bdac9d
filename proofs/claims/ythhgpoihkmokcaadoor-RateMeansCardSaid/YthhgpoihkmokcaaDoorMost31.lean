/- Package rate: Most. -/
import Derived.Test.YthhgpoihkmokcaaDoorHeapLaw31
import Derived.Laws.MakeOwn
import Derived.Laws.OwnMore
namespace Go.Proofs.YthhgpoihkmokcaaDoor
open Go.RowKit
set_option linter.unusedVariables false

/-- The floats l can be read off a slice. -/
def Fs (w : World) (a : Option Addr) (n : Nat) (l : List Nat) : Prop :=
  l.length = n ∧ (n = 0 ∨ ∃ b off, a = some ⟨b, off, none⟩ ∧ b < w.heap.size ∧ ∀ i, i < n → w.cell? ⟨b, off + i, none⟩ = some (.float .f64 (l.getD i 0)))
theorem Fs.ex {w w' : World} {a : Option Addr} {n : Nat} {l : List Nat} (h : Fs w a n l) (k : Ex w w') : Fs w' a n l :=
  ⟨h.1, h.2.imp id fun ⟨b, off, e, hb, hc⟩ => ⟨b, off, e, Nat.lt_of_lt_of_le hb k.size, fun i hi => (k.cell (p := ⟨b, off + i, none⟩) hb).trans (hc i hi)⟩⟩
theorem RowF.fs {w : World} {base : Nat} {v : Value} {l : List Nat} (h : RowF w base v l) : ∃ a cap, v = .slice a l.length cap ∧ Fs w a l.length l := by
  rcases row_shape h with ⟨h1, h2, -⟩ | ⟨g, cap, h1, -, h3, -⟩
  · exact ⟨none, 0, by rw [h1, h2], rfl, .inl h2⟩
  · subst h1
    refine ⟨_, cap, rfl, rfl, .inr ⟨g, 0, rfl, h3, fun i hi => ?_⟩⟩
    rw [Nat.zero_add, h.cell i _ (cellsF_at l i hi)]
    simp [hi]

def addP (N : Nat) (h : List Nat) (x : Nat) : List Nat := if N < h.length + 1 then (popL (upL (h.length + 1) (h ++ [x]) h.length) h.length).take h.length else upL (h.length + 1) (h ++ [x]) h.length
def heapTo (N : Nat) (l : List Nat) (i : Nat) : List Nat := (l.take i).foldl (addP N) []
theorem heapTo_succ {N : Nat} {l : List Nat} {i : Nat} (hi : i < l.length) : heapTo N l (i + 1) = addP N (heapTo N l i) (l.getD i 0) := by
  unfold heapTo
  rw [List.take_add_one, List.foldl_append]
  simp [hi]
theorem upl_len (h : List Nat) (x : Nat) : (upL (h.length + 1) (h ++ [x]) h.length).length = h.length + 1 := by
  rw [(up_perm _ _ _ (by simp)).length_eq]; simp
theorem popl_len (l : List Nat) (n : Nat) (h : l.length = n + 1) : (popL l n).length = n + 1 := by
  unfold popL
  rw [(down_perm (n + 1) (swp l 0 n) n 0 (by rw [swp_length]; omega) (by rw [swp_length]; omega)).length_eq, swp_length, h]
theorem add_len (N : Nat) (h : List Nat) (x : Nat) : (addP N h x).length = if N < h.length + 1 then h.length else h.length + 1 := by
  unfold addP
  split
  · rw [List.length_take, popl_len _ _ (upl_len h x)]; omega
  · exact upl_len h x
theorem heapTo_le (N : Nat) (l : List Nat) : ∀ i, i ≤ l.length → (heapTo N l i).length ≤ i
  | 0, _ => by simp [heapTo]
  | i + 1, h => by
    have ih := heapTo_le N l i (by omega)
    rw [heapTo_succ (by omega), add_len]
    split <;> omega
def outL : Nat → List Nat → List Nat
  | 0, _ => []
  | m + 1, h => outL m ((popL h m).take m) ++ [(popL h m).getD m zz]
theorem outL_length : ∀ (m : Nat) (h : List Nat), (outL m h).length = m
  | 0, h => rfl
  | m + 1, h => by simp [outL, outL_length m]
def mostF (N : Nat) (l : List Nat) : List Nat := outL (heapTo N l l.length).length (heapTo N l l.length)

theorem make_floats (w : World) (n : Nat) (hn : n ≤ 1000) : ∃ w', (Instr.makeSlice 22 (.int .i64 (n : Int)) (.int .i64 (n : Int))).run Tryd.prog w = .ok (.slice (some ⟨w.heap.size, 0, none⟩) n n) w' ∧
      RowF w' w.heap.size (.slice (some ⟨w.heap.size, 0, none⟩) n n) (List.replicate n 0) ∧ w.grownBy w' none := by
  obtain ⟨i0, hi, hz0, hz1, hz2⟩ := info_parts info_flt
  obtain ⟨w', h1, h2, h3⟩ := run_makeSlice_full (P := Tryd.prog) w w.heap.size 22 23 i0 (.float .f64 0) 1 Tryd.underlying22 hi hz0 hz1 .i64 .i64 n (by omega) (by rw [hz2]; omega) (by unfold maxLen; omega) (Nat.le_refl _)
  refine ⟨w', h1, ?_, h3⟩
  unfold RowF
  rw [List.length_replicate]
  have e : (madeCells (Value.float .f64 0).cells (n * 1)).toList = cellsF (List.replicate n 0) := by
    rw [Nat.mul_one]
    show (madeCells #[Value.float .f64 0] n).toList = _
    rw [toList_madeCells_one]
    simp [cellsF]
  rw [e] at h2
  exact h2

theorem ex_ob {w wr w2 : World} {b : Nat} {v : Value} {base : Nat} {l : List Nat} (h : Ex w wr) (hs : Sv wr base b v l) (hb : w.heap.size ≤ b) (hw : w.heap.size ≤ base) (c : Chg (OB b v) wr w2) : Ex w w2 :=
  Below.trans h (c.below h.size (fun i hi => by rcases hi with rfl | hi; omega; have := hs.own i hi; omega))

theorem Sv.chg {w w' : World} {base b : Nat} {v : Value} {l : List Nat} {F : Nat → Prop} (h : Sv w base b v l) (x : Chg F w w') (h1 : ¬ F b) (h2 : ∀ g, v.ownBlock = some g → ¬ F g) : Sv w' base b v l := by
  have hb : w'.heap[b]? = w.heap[b]? := x.block b (by have := h.bl; have := h.wl; omega) h1
  refine ⟨?_, row_chg h.row x h2, ?_, h.bl, Nat.le_trans h.wl x.size⟩
  · have := h.cell
    simp only [World.cell?, hb] at this ⊢
    exact this
  · have := h.soft
    simp only [World.frozen?, hb] at this ⊢
    exact this
theorem ownsRow_base {w : World} {base base' : Nat} {e : TypeId} {size n : Nat} {v : Value} {xs : List Value} (h : w.ownsRow base e size v n xs) (hb : base' ≤ base) : w.ownsRow base' e size v n xs :=
  ⟨h.1, h.2.imp id fun ⟨g, cap, cur, h1, h2, h3⟩ => ⟨g, cap, cur, h1, Nat.le_trans hb h2, h3⟩⟩
theorem Sv.ex {w w' : World} {base b : Nat} {v : Value} {l : List Nat} (h : Sv w base b v l) (x : Ex w w') : Sv w' base b v l :=
  ⟨cell_later x h.cell, row_chg (F := fun _ => False) h.row (x.chg _) (fun _ _ h => h), (x.frozen (p := ⟨b, 0, none⟩) (show b < w.heap.size by have := h.bl; have := h.wl; omega)).trans h.soft, h.bl, Nat.le_trans h.wl x.size⟩

set_option maxRecDepth 20000 in
set_option maxHeartbeats 6400000 in
theorem most_any {w : World} {a : Option Addr} {n : Nat} {l : List Nat} (cap : Nat) (h : Fs w a n l) (hn : n ≤ 200) (k : Int) (N : Nat) (hN : k.toNat = N) :
    Calls Tryd.prog 22 #[.slice a n cap, .int .i64 k] w fun e w' => ∃ v, e = .returned v ∧ RowF w' w.heap.size v (mostF N l) ∧ Ex w w' := by
  have hmx : ∀ ts t (w : World), (Builtin.max_ ts t #[.int .i64 k, .int .i64 0]).run Tryd.prog w = .ok (.int .i64 (N : Int)) w := fun ts t w => by
    rw [run_max_int2]
    congr 2
    split <;> omega
  have H := Lib.hid h
  have HL : Hid (l.length = n) := Lib.hid h.1
  clear h hN
  go_enter Tryd.func22, Tryd.ntmps22
  go_upto_region 2 with fail
  have S0 : Hid (Sv (w.alloc (.cells #[.slice none 0 0] 50)) (w.heap.size + 1) w.heap.size (.slice none 0 0) []) := Lib.hid
    ⟨(Box.fresh w _ _).cell 0, World.ownsRow_nil _ _ _ _, (Box.fresh w _ _).soft 0, by omega, by simp⟩
  have E0 : Hid (Ex w (w.alloc (.cells #[.slice none 0 0] 50))) := Lib.hid (Ex.made w _)
  obtain ⟨W, hW⟩ : ∃ W, W = w.alloc (.cells #[.slice none 0 0] 50) := ⟨_, rfl⟩
  rw [← hW] at S0 E0 ⊢
  clear hW
  go_wp2_with fail
  go_loopw [12] (fun iv wr => ∃ (i : Nat) (v : Value), i ≤ n ∧ iv = .int .i64 i ∧ Sv wr (w.heap.size + 1) w.heap.size v (heapTo N l i) ∧ (∀ g, v.ownBlock = some g → g < wr.heap.size) ∧ Ex w wr) (fun iv _ => n - (intOf iv).toNat)
  case atStart => exact ⟨0, _, by omega, rfl, S0.out, (fun g hg => by simp [Value.ownBlock] at hg), E0.out⟩
  case round =>
    obtain ⟨i, v, hi, rfl, hs, hg, hx⟩ := hrel
    have HS := Lib.hid hs
    have HG := Lib.hid hg
    have HX := Lib.hid hx
    clear hs hg hx
    have hn' : (n : Int) ≤ 200 := by omega
    by_cases hlt : i < n
    · have q1 : (i : Int) < (n : Int) := by omega
      obtain ⟨x, hx⟩ : ∃ x, l.getD i 0 = x := ⟨_, rfl⟩
      obtain ⟨b, off, rfl, -, hc⟩ := (H.out.ex HX.out).2.resolve_left (by omega)
      have c0 : wr.cell? ⟨b, off + i, none⟩ = some (.float .f64 x) := hx ▸ hc i hlt
      have hlen : (heapTo N l i).length ≤ i := heapTo_le N l i (by rw [HL.out]; omega)
      have HA : Hid (heapTo N l (i + 1) = addP N (heapTo N l i) x) := Lib.hid (by rw [← hx]; exact heapTo_succ (by rw [HL.out]; omega))
      obtain ⟨h, hh⟩ : ∃ h, heapTo N l i = h := ⟨_, rfl⟩
      rw [hh] at HS HA hlen
      have K1 := Lib.hid (hpush_any HS.out x h.length rfl (by omega))
      clear hx hc hh
      unfold pS at K1
      go_wp2_with fail
      refine K1.out.mono ?_
      rintro e w2 ⟨rfl, ⟨g, cap2, h2, hg2, hat⟩, hc2⟩
      have C2 := Lib.hid (ex_ob HX.out HS.out (Nat.le_refl _) (by omega) hc2)
      have H2 := Lib.hid h2
      have G2 := Lib.hid hg2
      have U2 := Lib.hid (upl_len h x)
      have c2 := h2.cell
      clear h2 hg2 hc2 hat
      by_cases hpop : (N : Int) < ((h.length + 1 : Nat) : Int)
      · obtain ⟨p, hp⟩ : ∃ p, (popL (upL (h.length + 1) (h ++ [x]) h.length) h.length).getD h.length zz = p := ⟨_, rfl⟩
        have K2 := Lib.hid (hpop_any h.length H2.out U2.out G2.out (by omega) p hp)
        clear hp
        unfold pS at K2
        go_wp2_with fail
        refine K2.out.mono ?_
        rintro e w3 ⟨rfl, h3, hg3, hc3⟩
        have A3 : Hid (heapTo N l (i + 1) = (popL (upL (h.length + 1) (h ++ [x]) h.length) h.length).take h.length) := Lib.hid (by rw [HA.out, addP, if_pos (by omega)])
        have H3 := Lib.hid h3
        have G3 := Lib.hid hg3
        have C3 : Hid (Ex w w3) := Lib.hid (ex_ob C2.out H2.out (Nat.le_refl _) (by omega) (hc3.weak (fun j _ hj => hj.imp id (fun e => by rw [e]; rfl))))
        clear h3 hg3 hc3
        go_wp2_with fail
        go_roundw
        case rel =>
          refine ⟨i + 1, _, by omega, by simp, A3.out ▸ H3.out, ?_, C3.out⟩
          intro g' hg'
          cases hg'
          exact G3.out
        case measure => simp [intOf]; omega
      · have A3 : Hid (heapTo N l (i + 1) = upL (h.length + 1) (h ++ [x]) h.length) := Lib.hid (by rw [HA.out, addP, if_neg (by omega)])
        go_wp2_with fail
        go_roundw
        case rel =>
          refine ⟨i + 1, _, by omega, by simp, A3.out ▸ H2.out, ?_, C2.out⟩
          intro g' hg'
          cases hg'
          exact G2.out
        case measure => simp [intOf]; omega
    · have e : i = n := by omega
      subst e
      have q1 : ¬ ((i : Int) < (i : Int)) := by omega
      have hH : heapTo N l i = heapTo N l l.length := by rw [HL.out]
      have hlen : (heapTo N l i).length ≤ i := heapTo_le N l i (by rw [HL.out]; omega)
      have HM : Hid (mostF N l = outL (heapTo N l i).length (heapTo N l i)) := Lib.hid (by unfold mostF; rw [hH])
      clear hH
      obtain ⟨h, hh⟩ : ∃ h, heapTo N l i = h := ⟨_, rfl⟩
      rw [hh] at HS HM hlen
      clear hh
      obtain ⟨ao, cap2, hv, hao⟩ : ∃ ao cap2, v = .slice ao h.length cap2 ∧ (0 < h.length → ∃ g, ao = some ⟨g, 0, none⟩) := by
        rcases row_shape HS.out.row with ⟨h1, h2, -⟩ | ⟨g, cap2, h1, -⟩
        · exact ⟨none, 0, by rw [h1, h2], fun h => by omega⟩
        · exact ⟨_, cap2, h1, fun _ => ⟨g, rfl⟩⟩
      subst hv
      have HAO := Lib.hid hao
      have c0 := HS.out.cell
      obtain ⟨w3, hmk, hrow, hgr⟩ := make_floats wr h.length (by omega)
      have X3 : Hid (Ex wr w3) := Lib.hid ((Chg.grown (F := fun _ => False) hgr (fun i hi => by cases hi)).below (Nat.le_refl _) (fun _ h => h.elim))
      have HR := Lib.hid hrow
      have c3 : w3.cell? ⟨w.heap.size, 0, none⟩ = some (.slice ao h.length cap2) := cell_later X3.out c0
      have S3 : Hid (Sv w3 (w.heap.size + 1) w.heap.size (.slice ao h.length cap2) h) := Lib.hid (HS.out.ex X3.out)
      have E3 : Hid (Ex w w3) := Lib.hid (HX.out.trans X3.out)
      obtain ⟨B, hB⟩ : ∃ B, wr.heap.size = B := ⟨_, rfl⟩
      have hBw : w.heap.size + 1 ≤ B := by rw [← hB]; exact HS.out.wl
      have hgB : ∀ g, ao = some ⟨g, 0, none⟩ → g < B := fun g hg => by rw [← hB]; exact HG.out g (by rw [hg]; rfl)
      rw [hB] at hmk HR
      have HGB := Lib.hid hgB
      have q2 : wrap64 ((h.length : Int) - 1) = (h.length : Int) - 1 := by unfold wrap64; omega
      clear hrow hgr hgB hB hao HG HS HX
      have hst := fun (w : World) (a : Addr) (m : Mode) (x : Nat) => run_store Tryd.prog w a (.float .f64 x) m rfl
      have hta : ∀ (w : World) (x : Value), (Instr.typeAssert (.iface 23 x) 20 23 false).run Tryd.prog w = .ok x w := fun _ _ => by kernel_rfl
      go_wp2_with fail
      go_loopw [9] (fun jv wl => ∃ (m : Nat) (hm D : List Nat), m ≤ h.length ∧ jv = .int .i64 ((m : Int) - 1) ∧ hm.length = m ∧ D.length + m = h.length ∧ Sv wl (w.heap.size + 1) w.heap.size (.slice ao m cap2) hm ∧ (∀ g, ao = some ⟨g, 0, none⟩ → g < wl.heap.size) ∧
        wl.ownsRow B 23 1 (.slice (some ⟨B, 0, none⟩) h.length h.length) h.length (cellsF (List.replicate m 0 ++ D)) ∧ outL m hm ++ D = outL h.length h ∧ Ex w wl) (fun jv _ => (intOf jv + 1).toNat)
      case atStart =>
        refine ⟨h.length, h, [], by omega, rfl, rfl, by simp, S3.out, ?_, ?_, by simp, E3.out⟩
        · intro g hg
          exact S3.out.row |> fun hr => by rcases row_shape hr with ⟨h1, -⟩ | ⟨g', c', h1, -, h3, -⟩ <;> simp [hg] at h1; rw [h1.1]; exact h3
        · have := HR.out
          unfold RowF at this
          rw [List.length_replicate] at this
          simpa using this
      case round =>
        obtain ⟨m, hm, D, hm1, rfl, hm2, hm3, hs, hg, hr, ho, hx⟩ := hrel
        have HS := Lib.hid hs
        have HG := Lib.hid hg
        have HR2 := Lib.hid hr
        have HO := Lib.hid ho
        have HX := Lib.hid hx
        have HD := Lib.hid hm3
        have HM2 := Lib.hid hm2
        clear hs hg hr ho hx hm3 hm2
        cases m with
        | zero =>
          rw [show (((0 : Nat) : Int) - 1) = -1 from rfl]
          go_wp2_with fail
          go_ret
          refine ⟨_, rfl, ?_, HX.out⟩
          have e : mostF N l = D := by
            rw [HM.out, ← HO.out]; rfl
          unfold RowF
          rw [e, show D.length = h.length by have := HD.out; omega]
          exact ownsRow_base HR2.out (by omega)
        | succ m =>
          rw [show (((m + 1 : Nat) : Int) - 1) = (m : Int) by omega]
          have q3 : (0 : Int) ≤ (m : Int) := by omega
          have q4 : (m : Int) < (h.length : Int) := by omega
          obtain ⟨g, rfl⟩ := HAO.out (by omega)
          obtain ⟨p, hp⟩ : ∃ p, (popL hm m).getD m zz = p := ⟨_, rfl⟩
          have K2 := Lib.hid (hpop_any m HS.out HM2.out (HG.out g rfl) (by omega) p hp)
          have HP := Lib.hid hp
          clear hp
          unfold pS at K2
          go_wp2_with fail
          refine K2.out.mono ?_
          rintro e w4 ⟨rfl, h4, hg4, hc4⟩
          have hgl := HGB.out g rfl
          have H4 := Lib.hid h4
          have G4 := Lib.hid hg4
          have X4 : Hid (Ex w w4) := Lib.hid (ex_ob HX.out HS.out (Nat.le_refl _) (by omega) (hc4.weak (fun j _ hj => hj.imp id (fun e => by rw [e]; rfl))))
          have R4 := Lib.hid (row_chg HR2.out hc4 (fun j hj hf => by change some B = some j at hj; cases hj; rcases hf with hf | hf <;> omega))
          have cl : w4.cell? ⟨B, m, none⟩ = some (.float .f64 0) := by
            rw [World.ownsRow.cellAt R4.out m (by omega), cellsF_at (List.replicate (m + 1) 0 ++ D) m (by simp; omega)]
            simp
          have fr := World.ownsRow.frozenAt R4.out m
          clear h4 hg4 hc4
          go_wp2_with fail
          go_roundw
          case rel =>
            have hs := (World.ownsRow.stored R4.out m (.float .f64 p)).1
            have ch : Chg (fun i => i = B) w4 (w4.setCell ⟨B, m, none⟩ (.float .f64 p)) := Chg.cell (F := fun i => i = B) w4 ⟨B, m, none⟩ _ rfl
            have hd := HD.out
            refine ⟨m, (popL hm m).take m, p :: D, by omega, by simp, ?_, by simp; omega, H4.out.chg ch (by omega) (fun g' hg' => by change some g = some g' at hg'; cases hg'; omega), ?_, ?_, ?_, ?_⟩
            · rw [List.length_take, popl_len _ _ HM2.out]; omega
            · intro g' hg'
              cases hg'
              have := G4.out
              simpa [World.setCell] using this
            · have e : (cellsF (List.replicate (m + 1) 0 ++ D)).set m (.float .f64 p) = cellsF (List.replicate m 0 ++ p :: D) := by
                rw [← cellsF_set, List.replicate_succ', List.append_assoc]
                congr 1
                rw [List.set_append_right _ _ (by simp)]
                simp
              rw [e] at hs
              exact hs
            · rw [← HO.out, outL, HP.out, List.append_assoc]
              rfl
            · exact Below.trans X4.out (ch.below X4.out.size (fun j hj => by omega))
          case measure => simp [intOf]

end Go.Proofs.YthhgpoihkmokcaaDoor
