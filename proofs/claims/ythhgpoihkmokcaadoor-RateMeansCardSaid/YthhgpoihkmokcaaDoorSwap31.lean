/- Package rate: the row of floats; Less, Swap. -/
import Derived.Test.YthhgpoihkmokcaaDoorRate31
import Derived.LoopN
import Derived.Outline
import Derived.Deep.Cut
import Derived.StillTailTactics
import Derived.Great.Walk
namespace Go.Proofs.YthhgpoihkmokcaaDoor
open Go.RowKit
set_option linter.unusedVariables false

def cellsF (l : List Nat) : List Value := l.map (fun x => Value.float .f64 x)
theorem cellsF_length (l : List Nat) : (cellsF l).length = l.length := by simp [cellsF]
theorem cellsF_append (a b : List Nat) : cellsF (a ++ b) = cellsF a ++ cellsF b := by simp [cellsF]
theorem cellsF_at (l : List Nat) (k : Nat) (h : k < l.length) : (cellsF l)[k]? = some (.float .f64 l[k]) := by simp [cellsF, h]
theorem cellsF_set (l : List Nat) (k x : Nat) : cellsF (l.set k x) = (cellsF l).set k (.float .f64 x) := by simp [cellsF, List.map_set]
def ord (p q : Nat) : Int := key p - key q
theorem ord_key (p q : Nat) : (ord p q < 0) = (key p < key q) := by
  unfold ord
  exact propext ⟨fun h => by omega, fun h => by omega⟩

set_option maxHeartbeats 1600000 in
theorem mless_core (w : World) (g n cap i j : Nat) (p q : Nat) (z : Bool) (hz : decide (ord p q < 0) = z) (hi : (i : Int) < (n : Nat)) (hj : (j : Int) < (n : Nat))
    (x0 : w.cell? ⟨g, i, none⟩ = some (.float .f64 p)) (y0 : w.cell? ⟨g, j, none⟩ = some (.float .f64 q)) :
    Calls Tryd.prog 78 #[.slice (some ⟨g, 0, none⟩) n cap, .int .i64 i, .int .i64 j] w fun e w' => e = .returned (.bool z) ∧ Ex w w' := by
  have hl : ∀ o : Out w, Calls Tryd.prog 29 #[.float .f64 p, .float .f64 q] o.w fun e w' => e = .returned (.bool z) ∧ o.w = w' := fun o => less_any o.w p q z (by rw [← hz]; simp only [ord_key])
  have z0 : ∀ o : Out w, o.w.cell? ⟨g, i, none⟩ = some (.float .f64 p) := fun o => cell_later o.2 x0
  have u0 : ∀ o : Out w, o.w.cell? ⟨g, j, none⟩ = some (.float .f64 q) := fun o => cell_later o.2 y0
  clear hz x0 y0
  go_enter Tryd.func78, Tryd.ntmps78
  go_upto_region 1 with fail
  refine wp_region_ex (by kernel_rfl) (by kernel_rfl) ?_
  repeat (go_big_quiet_step ((go_at_call 29; exact quiet_eq (hl _))))
  refine wpQuiet_nil ?_
  rintro w4 ⟨⟨wz, hw⟩, rfl⟩
  go_wp2
  go_ret
  exact ⟨rfl, hw⟩

/-- The row of floats. -/
def RowF (w : World) (base : Nat) (v : Value) (l : List Nat) : Prop := w.ownsRow base 23 1 v l.length (cellsF l)

theorem RowF.cell {w : World} {base g cap : Nat} {l : List Nat} (h : RowF w base (.slice (some ⟨g, 0, none⟩) l.length cap) l) (k : Nat) (u : Value) (hk : (cellsF l)[k]? = some u) : w.cell? ⟨g, k, none⟩ = some u := by
  have hlt : k < l.length := by
    have := (List.getElem?_eq_some_iff.1 hk).1
    rwa [cellsF_length] at this
  rw [World.ownsRow.cellAt h k (by omega)]
  exact hk

theorem less_at {w : World} {base g cap : Nat} {l : List Nat} (h : RowF w base (.slice (some ⟨g, 0, none⟩) l.length cap) l) (hg : g < w.heap.size) (i j : Nat) (hi : i < l.length) (hj : j < l.length) :
    Calls Tryd.prog 78 #[.slice (some ⟨g, 0, none⟩) l.length cap, .int .i64 i, .int .i64 j] w fun e w' => e = .returned (.bool (decide (ord l[i] l[j] < 0))) ∧ Ex w w' :=
  mless_core w g l.length cap i j l[i] l[j] _ rfl (by omega) (by omega) (h.cell _ _ (cellsF_at l i hi)) (h.cell _ _ (cellsF_at l j hj))

/-- A cell put. -/
def setF (w : World) (g i : Nat) (p : Nat) : World := w.setCell ⟨g, i, none⟩ (.float .f64 p)

set_option maxHeartbeats 3200000 in
theorem swap_core (w : World) (g n cap i j : Nat) (p q : Nat) (hi : (i : Int) < (n : Nat)) (hj : (j : Int) < (n : Nat))
    (x0 : w.cell? ⟨g, i, none⟩ = some (.float .f64 p)) (y0 : w.cell? ⟨g, j, none⟩ = some (.float .f64 q))
    (fr : ∀ k, w.frozen? ⟨g, k, none⟩ = false) (hne : i ≠ j) :
    Calls Tryd.prog 79 #[.slice (some ⟨g, 0, none⟩) n cap, .int .i64 i, .int .i64 j] w fun e w' => e = .returned (.tuple #[]) ∧ w' = (setF (setF w g i q) g j p).drew := by
  have f0 := fr i
  have g0 := fr j
  clear fr
  have n1 : ¬ i = j := hne
  have n2 : ¬ j = i := fun e => hne e.symm
  clear hne
  have hst := fun (w : World) (a : Addr) (m : Mode) (x : Nat) => run_store Tryd.prog w a (.float .f64 x) m rfl
  go_enter Tryd.func79, Tryd.ntmps79
  go_upto_region 0 with fail
  go_region
  exact Go.Great.bodyPost_end0 rfl rfl ⟨rfl, rfl⟩

set_option maxHeartbeats 3200000 in
theorem swap_same (w : World) (g n cap i : Nat) (p : Nat) (hi : (i : Int) < (n : Nat))
    (x0 : w.cell? ⟨g, i, none⟩ = some (.float .f64 p))
    (fr : ∀ k, w.frozen? ⟨g, k, none⟩ = false) :
    Calls Tryd.prog 79 #[.slice (some ⟨g, 0, none⟩) n cap, .int .i64 i, .int .i64 i] w fun e w' => e = .returned (.tuple #[]) ∧ w' = (setF (setF w g i p) g i p).drew := by
  have f0 := fr i
  clear fr
  have hst := fun (w : World) (a : Addr) (m : Mode) (x : Nat) => run_store Tryd.prog w a (.float .f64 x) m rfl
  go_enter Tryd.func79, Tryd.ntmps79
  go_upto_region 0 with fail
  go_region
  exact Go.Great.bodyPost_end0 rfl rfl ⟨rfl, rfl⟩

def zz : Nat := 0
def swp (l : List Nat) (i j : Nat) : List Nat := (l.set i (l.getD j zz)).set j (l.getD i zz)
theorem swp_length (l : List Nat) (i j : Nat) : (swp l i j).length = l.length := by simp [swp]

theorem RowF.put {w : World} {base g cap n : Nat} {l : List Nat} (h : RowF w base (.slice (some ⟨g, 0, none⟩) n cap) l) (hn : n = l.length) (k : Nat) (p : Nat) :
    RowF (setF w g k p) base (.slice (some ⟨g, 0, none⟩) n cap) (l.set k p) := by
  subst hn
  unfold RowF at *
  rw [cellsF_set, List.length_set]
  exact (World.ownsRow.stored h _ _).1
theorem Chg.setF (w : World) (g k : Nat) (p : Nat) : Chg (fun i => i = g) w (setF w g k p) :=
  Chg.cell (F := fun i => i = g) w ⟨g, k, none⟩ _ rfl

theorem swap_at {w : World} {base g cap : Nat} {l : List Nat} (h : RowF w base (.slice (some ⟨g, 0, none⟩) l.length cap) l) (hg : g < w.heap.size) (i j : Nat) (hi : i < l.length) (hj : j < l.length) :
    Calls Tryd.prog 79 #[.slice (some ⟨g, 0, none⟩) l.length cap, .int .i64 i, .int .i64 j] w fun e w' => e = .returned (.tuple #[]) ∧ RowF w' base (.slice (some ⟨g, 0, none⟩) l.length cap) (swp l i j) ∧ Chg (fun i => i = g) w w' := by
  have key : RowF (setF (setF w g i l[j]) g j l[i]).drew base (.slice (some ⟨g, 0, none⟩) l.length cap) (swp l i j) ∧ Chg (fun i => i = g) w (setF (setF w g i l[j]) g j l[i]).drew := by
    constructor
    · have := (h.put rfl i l[j]).put (by simp) j l[i]
      unfold swp
      rw [show l.getD j zz = l[j] by simp [hj], show l.getD i zz = l[i] by simp [hi]]
      exact World.ownsRow.drew this
    · exact ((Chg.setF w g i l[j]).trans (Chg.setF _ g j l[i]) (fun _ _ h => h)).drew1
  by_cases hij : i = j
  · subst hij
    refine (swap_same w g l.length cap i l[i] (by omega) (h.cell _ _ (cellsF_at l i hi)) (fun k => World.ownsRow.frozenAt h k)).mono ?_
    rintro e w' ⟨rfl, rfl⟩
    exact ⟨rfl, key⟩
  · refine (swap_core w g l.length cap i j l[i] l[j] (by omega) (by omega) (h.cell _ _ (cellsF_at l i hi)) (h.cell _ _ (cellsF_at l j hj)) (fun k => World.ownsRow.frozenAt h k) hij).mono ?_
    rintro e w' ⟨rfl, rfl⟩
    exact ⟨rfl, key⟩

end Go.Proofs.YthhgpoihkmokcaaDoor
