/- Package state: what turns goroutines' states: contracts. -/
import Derived.Test.YtbdnpjbookhebaaStates
import Derived.Test.YtbdnpjbookhebaaApp
import Derived.RegionTactic
import Derived.BigRegion
namespace Go.Proofs.Ytbdnpjbookhebaa
open Go.RowKit
set_option linter.unusedVariables false

/-- Behind an operation: the states are l', in the old blocks and new ones. -/
def Nxt (w : World) (b : Nat) (v : Value) (l' : List Nat) (w' : World) : Prop :=
  ∃ v', St w' b v' l' ∧ Chg (Of b v) w w' ∧ ∀ k, v'.ownBlock = some k → v.ownBlock = some k ∨ w.heap.size ≤ k

theorem info_int : (Try.prog.info? 3).map (fun i => (i.zero, i.size, i.bytes)) = some (some (.int .i64 0), 1, 8) := by kernel_rfl

theorem ints_app (l : List Nat) (n : Nat) : ints l ++ [.int .i64 (n : Int)] = ints (l ++ [n]) := by simp [ints]

theorem cnt_app (l : List Nat) (n k : Nat) : (l ++ [n]).count k = l.count k + (if n = k then 1 else 0) := by
  rw [List.count_append]
  congr 1
  by_cases h : n = k
  · subst h; simp
  · simp [h]

/-- What Spawn leaves. -/
theorem spawn_next {w w1 : World} {b : Nat} {v v' : Value} {l : List Nat} {m : Nat} (h : St w b v l) (hl : l.length < 1024) (cs : Array Value)
    (hown : w1.ownsRow (b + 1) 3 1 v' (l.length + 1) (ints (l ++ [1]))) (hg : (w.alloc (.cells cs 3)).grownBy w1 v.ownBlock) (hv : ∀ k, v'.ownBlock = some k → v.ownBlock = some k ∨ w.heap.size < k) :
    Nxt w b v (l ++ [1]) (((w1.setCell ⟨b, 0, none⟩ v').setCell ⟨b, 2, none⟩ (.int .i64 ((l.count 1 : Nat) + 1))).drewN m) := by
  have hb := h.box.lt
  have hne : v.ownBlock ≠ some b := by
    intro e
    rcases row_shape h.row with ⟨h1, _⟩ | ⟨g, cap, rfl, h2, _⟩
    · rw [h1] at e; cases e
    · simp only [Value.ownBlock, Option.some.injEq] at e; omega
  have hne' : v'.ownBlock ≠ some b := by
    intro e
    rcases row_shape hown with ⟨h1, _⟩ | ⟨g, cap, rfl, h2, _⟩
    · rw [h1] at e; cases e
    · simp only [Value.ownBlock, Option.some.injEq] at e; omega
  have hC : Chg (Of b v) w w1 := (Ex.made w (.cells cs 3)).chg (Of b v) |>.trans (Chg.grown (F := Of b v) hg (fun i hi => .inr hi)) (fun i _ hi => hi)
  have hB : Box w1 b #[v, cnt l 0, cnt l 1, cnt l 2, cnt l 3, cnt l 4, cnt l 5] 43 := by
    have h1 := h.box.ex (Ex.made w (.cells cs 3))
    exact (hg.block b (by simp; omega) (fun e => hne e.symm)).trans h1
  refine ⟨v', ⟨?_, ?_, ?_, ?_⟩, ?_, ?_⟩
  · have := ((hB.put 0 v').put 2 (.int .i64 ((l.count 1 : Nat) + 1))).drew m
    have e : ∀ k, k ≠ 1 → cnt (l ++ [1]) k = cnt l k := by
      intro k hk
      simp [cnt, Ne.symm hk]
    have e1 : cnt (l ++ [1]) 1 = .int .i64 ((l.count 1 : Nat) + 1) := by simp [cnt]
    rw [e 0 (by omega), e1, e 2 (by omega), e 3 (by omega), e 4 (by omega), e 5 (by omega)]
    exact this
  · have := ownsRow_setCell_other (ownsRow_setCell_other hown (a := ⟨b, 0, none⟩) hne' v') (a := ⟨b, 2, none⟩) hne' (.int .i64 ((l.count 1 : Nat) + 1))
    have e : (l ++ [1]).length = l.length + 1 := by simp
    rw [e]
    exact this
  · intro s hs
    rcases List.mem_append.1 hs with h1 | h1
    · exact h.ok s h1
    · simp at h1; omega
  · simp; omega
  · exact ((hC.trans (Chg.cell (F := Of b v) w1 ⟨b, 0, none⟩ v' (.inl rfl)) (fun i _ hi => hi)).trans (Chg.cell (F := Of b v) _ ⟨b, 2, none⟩ _ (.inl rfl)) (fun i _ hi => hi)).drew m
  · intro k hk
    rcases hv k hk with h1 | h1
    · exact .inl h1
    · exact .inr (by omega)

theorem spawn_cells {w w1 : World} {b : Nat} {a : Option Addr} {cap n : Nat} {l : List Nat} {x : Value} {t : TypeId} (h : St w b (.slice a l.length cap) l) (hn : l.length = n) (hg : (w.alloc (.cells #[x] t)).grownBy w1 (Value.slice a n cap).ownBlock) :
    w1.cell? ⟨b, 0, none⟩ = some (.slice a n cap) ∧ w1.cell? ⟨b, 2, none⟩ = some (.int .i64 ((l.count 1 : Nat) : Int)) ∧ w1.frozen? ⟨b, 0, none⟩ = false ∧ w1.frozen? ⟨b, 2, none⟩ = false := by
  have hB : Box w1 b #[.slice a l.length cap, cnt l 0, cnt l 1, cnt l 2, cnt l 3, cnt l 4, cnt l 5] 43 := by
    have hlt := h.box.lt
    refine (hg.block b (by simp; omega) (fun e => ?_)).trans (h.box.ex (Ex.made w _))
    rcases row_shape h.row with ⟨h1, _⟩ | ⟨g, cap, h1, h2, _⟩
    · injection h1 with h1
      rw [h1] at e; cases e
    · injection h1 with h1
      rw [h1] at e
      simp only [Value.ownBlock, Option.some.injEq] at e; omega
  rw [← hn]
  exact ⟨hB.cell 0, hB.cell 2, hB.soft 0, hB.soft 2⟩

set_option maxRecDepth 10000 in
set_option maxHeartbeats 1600000 in
theorem spawn_any {w : World} {b : Nat} {v : Value} {l : List Nat} (h : St w b v l) (hl : l.length < 1024) :
    Calls Try.prog 8 #[.pointer (some ⟨b, 0, none⟩)] w fun e w' => e = .returned (.tuple #[.int .i64 (l.length : Nat), .int .i64 0]) ∧ Nxt w b v (l ++ [1]) w' := by
  obtain ⟨i0, hi, hz0, hz1, hz2⟩ := info_parts info_int
  have hrow := h.row
  have H := Lib.hid h
  obtain ⟨a, cap, rfl, h1, h2, -⟩ := h.slice
  have c0 : w.cell? ⟨b, 0, none⟩ = some (.slice a l.length cap) := h.box.cell 0
  have hb := h.box.lt
  obtain ⟨n, hn⟩ : ∃ n, l.length = n := ⟨_, rfl⟩
  obtain ⟨L, hL⟩ : ∃ L, ints l = L := ⟨_, rfl⟩
  rw [hn] at hl h1 c0 hrow ⊢
  rw [hL] at hrow
  have Hn := Lib.hid hn
  have HL := Lib.hid hL
  have HR := Lib.hid hrow
  clear h hn hL hrow
  go_enter Try.func8, Try.ntmps8
  go_wp2_with (at_builtin; refine wpList_append_mine _ rfl (.tmp 18) (.tmp 19) 25 rfl (b + 1) 3 i0 (.int .i64 0) 1 8 Try.underlying25 hi hz0 hz1 hz2 rfl (by decide) _ _ _ rfl (HR.out.alloc _) ⟨w.heap.size, 0, none⟩ 1 1 [.int .i64 1] rfl rfl (one_new _ _ _) (one_cell rfl) (by unfold maxLen; omega) (by omega) (row_alloc_base w _ (by omega)) (by omega) ?_)
  intro g' cap' w1 hown hg hor hbg hlt hc1 hc2
  obtain ⟨d0, d2, f0, f2⟩ := spawn_cells H.out Hn.out hg
  have HO := Lib.hid hown
  have HG := Lib.hid hg
  have HOR := Lib.hid hor
  have hcl : ((l.count 1 : Nat) : Int) ≤ 1024 := by
    have := List.count_le_length (a := 1) (l := l)
    have := H.out.len
    omega
  have hcl0 : (0 : Int) ≤ ((l.count 1 : Nat) : Int) := by omega
  obtain ⟨c, hc⟩ : ∃ c : Nat, l.count 1 = c := ⟨_, rfl⟩
  rw [hc] at hcl hcl0 d2
  have HC := Lib.hid hc
  clear hown hg hor hc
  go_wp2
  go_region
  go_wp2
  go_ret2
  refine ⟨rfl, ?_⟩
  have e1 : ints (l ++ [1]) = L ++ [.int .i64 1] := by rw [← HL.out]; exact (ints_app l 1).symm
  have := spawn_next (m := 1) H.out (by rw [Hn.out]; exact hl) #[.int .i64 1] (by rw [Hn.out, e1]; exact HO.out) (by rw [Hn.out]; exact HG.out) (fun k hk => by
    simp only [Value.ownBlock, Option.some.injEq] at hk
    subst hk
    rw [Hn.out]
    exact HOR.out.imp id (fun h => by omega))
  rw [HC.out, Hn.out] at this
  exact this

end Go.Proofs.Ytbdnpjbookhebaa
