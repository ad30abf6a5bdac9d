/- Package timer: Push, Pop of the slice; heap.Push, heap.Pop. -/
import Derived.Test.YtofdlbnlfeocoaaDown13
import Derived.Deep.AppendLies
import Derived.Deep.RegionLaw
namespace Go.Proofs.Ytofdlbnlfeocoaa
open Go.RowKit
set_option linter.unusedVariables false

/-- The sleepers l, as the value v, in block b's first cell. -/
structure Sv (w : World) (base b : Nat) (k : Int) (v : Value) (l : List (Int × Int × Int)) : Prop where
  cell : w.cell? ⟨b, 0, none⟩ = some v
  row : Row3 w base v l
  soft : w.frozen? ⟨b, 0, none⟩ = false
  mkd : w.cell? ⟨b, 1, none⟩ = some (.int .i64 k)
  msoft : w.frozen? ⟨b, 1, none⟩ = false
  bl : b < base
  wl : base ≤ w.heap.size

theorem Sv.own {w : World} {k : Int} {base b : Nat} {v : Value} {l : List (Int × Int × Int)} (h : Sv w base b k v l) (i : Nat) (hi : v.ownBlock = some i) : base ≤ i := by
  rcases row_shape h.row with ⟨h1, -, -⟩ | ⟨g, cap, h1, h2, -⟩
  · subst h1; cases hi
  · subst h1; cases hi; exact h2
theorem Sv.far {w w1 : World} {k : Int} {base b : Nat} {v : Value} {l : List (Int × Int × Int)} {o : Obj} (h : Sv w base b k v l) (hg : (w.alloc o).drew.grownBy w1 v.ownBlock) :
    w1.cell? ⟨b, 0, none⟩ = some v ∧ w1.frozen? ⟨b, 0, none⟩ = false ∧ (w1.cell? ⟨b, 1, none⟩ = some (.int .i64 k) ∧ w1.frozen? ⟨b, 1, none⟩ = false) ∧ Chg (fun i => v.ownBlock = some i) w w1 := by
  have h1 := h.bl
  have h2 := h.wl
  have c : Chg (fun i => v.ownBlock = some i) w w1 := (Chg.trans ((Ex.made w o).chg (fun i => v.ownBlock = some i)).drew1 (Chg.grown (F := fun i => v.ownBlock = some i) hg (fun i hi => hi)) (fun _ _ h => h))
  have hb := c.block b (by omega) (fun e => by have := h.own b e; omega)
  refine ⟨?_, ?_, ⟨?_, ?_⟩, c⟩
  · have := h.cell
    simp only [World.cell?, hb] at this ⊢
    exact this
  · have := h.soft
    simp only [World.frozen?, hb] at this ⊢
    exact this
  · have := h.mkd
    simp only [World.cell?, hb] at this ⊢
    exact this
  · have := h.msoft
    simp only [World.frozen?, hb] at this ⊢
    exact this

/-- The block, and the row's own. -/
def OB (b : Nat) (v : Value) (i : Nat) : Prop := i = b ∨ v.ownBlock = some i

theorem push_end {w w1 : World} {k : Int} {base b g cap : Nat} {v : Value} {l : List (Int × Int × Int)} {p : Int × Int × Int} (h : Sv w base b k v l)
    (hown : w1.ownsRow base 57 3 (.slice (some ⟨g, 0, none⟩) (l.length + 1) cap) (l.length + 1) (cells3 l ++ [.int .i64 p.1, .int .i64 p.2.1, .int .i64 p.2.2]))
    (ch : Chg (fun i => v.ownBlock = some i) w w1) (hat : v.ownBlock = some g ∨ w.heap.size ≤ g) (hlt : g < w1.heap.size) (cb : w1.cell? ⟨b, 0, none⟩ = some v) (fb : w1.frozen? ⟨b, 0, none⟩ = false) (mb : w1.cell? ⟨b, 1, none⟩ = some (.int .i64 k) ∧ w1.frozen? ⟨b, 1, none⟩ = false) :
    (∃ g' cap', Sv (w1.setCell ⟨b, 0, none⟩ (.slice (some ⟨g, 0, none⟩) (l.length + 1) cap)) base b k (.slice (some ⟨g', 0, none⟩) (l.length + 1) cap') (l ++ [p]) ∧ g' < (w1.setCell ⟨b, 0, none⟩ (.slice (some ⟨g, 0, none⟩) (l.length + 1) cap)).heap.size ∧ (v.ownBlock = some g' ∨ w.heap.size ≤ g')) ∧
      Chg (fun i => i = b ∨ v.ownBlock = some i) w (w1.setCell ⟨b, 0, none⟩ (.slice (some ⟨g, 0, none⟩) (l.length + 1) cap)) := by
  have hs : (w1.setCell ⟨b, 0, none⟩ (.slice (some ⟨g, 0, none⟩) (l.length + 1) cap)).heap.size = w1.heap.size := by simp [World.setCell]
  have hrow : w1.ownsRow base 57 3 (.slice (some ⟨g, 0, none⟩) (l.length + 1) cap) (l ++ [p]).length (cells3 (l ++ [p])) := by
    rw [cells3_append, List.length_append]
    exact hown
  refine ⟨⟨g, cap, ⟨?_, ?_, ?_, ?_, ?_, h.bl, by rw [hs]; exact Nat.le_trans h.wl ch.size⟩, by rw [hs]; exact hlt, hat⟩, ?_⟩
  · go_simp
  · refine ownsRow_setCell_below hrow h.bl _
  · go_simp
  · obtain ⟨mb1, mb2⟩ := mb
    go_simp
  · obtain ⟨mb1, mb2⟩ := mb
    go_simp
  · exact (ch.weak (fun _ _ h => .inr h)).trans (Chg.cell (F := fun i => i = b ∨ v.ownBlock = some i) _ ⟨b, 0, none⟩ _ (.inl rfl)) (fun _ _ h => h)

theorem info57 : (Try.prog.info? 57).map (fun i => (i.zero, i.size, i.bytes)) = some (some (.agg #[.int .i64 0, .int .i64 0, .int .i64 0]), 3, 24) := by kernel_rfl

theorem news3 (w : World) (p1 p2 p3 : Int) (t : TypeId) : ∀ (j : Nat) (u : Value), [Value.int .i64 p1, .int .i64 p2, .int .i64 p3][j]? = some u → ((w.alloc (.cells #[.int .i64 p1, .int .i64 p2, .int .i64 p3] t)).drew).cell? ((⟨w.heap.size, 0, none⟩ : Addr).add j) = some u := by
  intro j u hj
  have hb : Box ((w.alloc (.cells #[.int .i64 p1, .int .i64 p2, .int .i64 p3] t)).drew) w.heap.size #[.int .i64 p1, .int .i64 p2, .int .i64 p3] t := Box.fresh w _ t
  rw [show (⟨w.heap.size, 0, none⟩ : Addr).add j = ⟨w.heap.size, j, none⟩ by simp [Addr.add]; exact fun h => h.symm, hb.cell j]
  simpa using hj

set_option maxRecDepth 20000 in
set_option maxHeartbeats 3200000 in
theorem mpush_any {w : World} {k : Int} {base b : Nat} {v : Value} {l : List (Int × Int × Int)} (h : Sv w base b k v l) (p : Int × Int × Int) (hn : l.length < 1000) :
    Calls Try.prog 73 #[.pointer (some ⟨b, 0, none⟩), .iface 57 (.agg #[.int .i64 p.1, .int .i64 p.2.1, .int .i64 p.2.2])] w fun e w' => e = .returned (.tuple #[]) ∧
      (∃ g cap, Sv w' base b k (.slice (some ⟨g, 0, none⟩) (l.length + 1) cap) (l ++ [p]) ∧ g < w'.heap.size ∧ (v.ownBlock = some g ∨ w.heap.size ≤ g)) ∧ Chg (fun i => i = b ∨ v.ownBlock = some i) w w' := by
  obtain ⟨p1, p2, p3⟩ := p
  have c0 := h.cell
  have f0 := h.soft
  have H := Lib.hid h
  clear h
  go_enter Try.func73, Try.ntmps73
  go_upto_region 0 with fail
  have hta : ∀ (w : World) (x : Value), (Instr.typeAssert (.iface 57 x) 20 57 false).run Try.prog w = .ok x w := fun _ _ => by kernel_rfl
  obtain ⟨i0, hi, hz0, hz1, hz2⟩ := info_parts info57
  have s1 : Hid (((w.alloc (.cells #[.int .i64 p1, .int .i64 p2, .int .i64 p3] 57)).drew).ownsRow base 57 3 v l.length (cells3 l)) := Lib.hid (World.ownsRow.drew (World.ownsRow.alloc H.out.row _))
  have s2 := Lib.hid (news3 w p1 p2 p3 57)
  have s3 : Hid (base ≤ ((w.alloc (.cells #[.int .i64 p1, .int .i64 p2, .int .i64 p3] 57)).drew).heap.size) := Lib.hid (by have := H.out.wl; simp; omega)
  have hbw : b < w.heap.size := by have := H.out.bl; have := H.out.wl; omega
  have c1 : (w.alloc (.cells #[.int .i64 p1, .int .i64 p2, .int .i64 p3] 57)).cell? ⟨b, 0, none⟩ = some v := cell_later (Ex.made w _) c0
  have f1 : (w.alloc (.cells #[.int .i64 p1, .int .i64 p2, .int .i64 p3] 57)).frozen? ⟨b, 0, none⟩ = false := ((Ex.made w _).frozen (p := ⟨b, 0, none⟩) hbw).trans f0
  go_region_law (refine step_append_lies _ rfl (.tmp 7) (.tmp 10) 51 rfl base 57 i0 (.agg #[.int .i64 0, .int .i64 0, .int .i64 0]) 3 24 Try.underlying51 hi hz0 hz1 hz2 rfl (by decide) v l.length (cells3 l) (by simp [Act.eval]) s1.out ⟨w.heap.size, 0, none⟩ 1 1 [.int .i64 p1, .int .i64 p2, .int .i64 p3] (by simp [Act.eval]) rfl s2.out (by simp [Value.oneCell']) (by omega) (by unfold maxLen; omega) (by omega) s3.out _ rfl ?_; intro g cap w1 hown hgrow hat hlt; obtain ⟨cb, fb, mb, ch⟩ := H.out.far hgrow; have HMB := Lib.hid mb; have HO := Lib.hid hown; have HG := Lib.hid ch; have HL := Lib.hid hlt; have HAT : Hid (v.ownBlock = some g ∨ w.heap.size ≤ g) := Lib.hid (by rcases hat with h | h; exact .inl h; exact .inr (by simp at h; omega)); clear hown hgrow hat hlt ch mb)
  all_goals (refine Go.Great.bodyPost_end0 rfl rfl ⟨rfl, push_end (p := (p1, p2, p3)) H.out HO.out HG.out HAT.out HL.out cb fb HMB.out⟩)

end Go.Proofs.Ytofdlbnlfeocoaa
