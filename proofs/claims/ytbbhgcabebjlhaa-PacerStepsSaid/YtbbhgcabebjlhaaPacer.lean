/- Package pacer: its contracts. -/
import Derived.Test.YtbbhgcabebjlhaaFixInt
import Derived.Test.YtbbhgcabebjlhaaFixAdd
namespace Go.Proofs.Ytbbhgcabebjlhaa
open Go.RowKit
set_option linter.unusedVariables false

/-- A number taken into its bounds. -/
def bnd (lo hi x : Int) : Int := min (max x lo) hi
theorem bnd_le (lo hi x : Int) (h : lo ≤ hi) : lo ≤ bnd lo hi x ∧ bnd lo hi x ≤ hi := by unfold bnd; omega
theorem bnd_in {lo hi x : Int} (h : lo ≤ x) (h' : x ≤ hi) : bnd lo hi x = x := by unfold bnd; omega

/-- The world with new blocks: nothing that was there has turned. -/
def Ex (w w' : World) : Prop := Below w.heap.size w w'
theorem Ex.refl (w : World) : Ex w w := Below.refl _ _
theorem Ex.trans {a b c : World} (h : Ex a b) (k : Ex b c) : Ex a c := Below.trans h (Below.mono k h.size)
theorem Dr.ex {w w' : World} (h : Dr w w') : Ex w w' := by
  obtain ⟨n, rfl⟩ := h
  exact ⟨rfl, rfl, rfl, Nat.le_refl _, fun _ _ => rfl⟩

/-- A block is known whole. -/
def Box (w : World) (b : Nat) (cs : Array Value) (t : TypeId) : Prop := w.heap[b]? = some (.cells cs t (0, 0))
theorem Box.lt {w : World} {b : Nat} {cs : Array Value} {t : TypeId} (h : Box w b cs t) : b < w.heap.size := (Array.getElem?_eq_some_iff.1 h).1
theorem Box.ex {w w' : World} {b : Nat} {cs : Array Value} {t : TypeId} (h : Box w b cs t) (k : Ex w w') : Box w' b cs t := (k.block b h.lt).trans h
theorem Box.new {w w' : World} {cs : Array Value} {t : TypeId} (k : Ex (w.alloc (.cells cs t)) w') : Box w' w.heap.size cs t :=
  (k.block _ (by simp)).trans (heap_alloc_new _ _)
theorem Box.next {w w' : World} {b : Nat} {cs : Array Value} {t : TypeId} {o : Obj} (h : Box w b cs t) (k : Ex (w.alloc o) w') : Box w' b cs t :=
  h.ex (Ex.trans ((Below.refl _ _).alloc (Nat.le_refl _) o) k)
theorem Box.cell {w : World} {b : Nat} {cs : Array Value} {t : TypeId} (h : Box w b cs t) (j : Nat) : w.cell? ⟨b, j, none⟩ = cs[j]? := cell_of_row w b j cs t (0, 0) h
theorem Box.three {w : World} {b : Nat} {x y z : Value} {t : TypeId} (h : Box w b #[x, y, z] t) : w.cell? ⟨b, 0, none⟩ = some x ∧ w.cell? ⟨b, 1, none⟩ = some y ∧ w.cell? ⟨b, 2, none⟩ = some z :=
  ⟨h.cell 0, h.cell 1, h.cell 2⟩
theorem Ex.new {w w1 w2 : World} {o : Obj} (h : Ex w w1) (k : Ex (w1.alloc o) w2) : Ex w w2 :=
  h.trans (Ex.trans ((Below.refl _ _).alloc (Nat.le_refl _) o) k)

theorem rw_add {a b c : Int} {w : World} (h : Hid (fAdd a b = c)) (a1 : -9223372036854775808 ≤ a) (a2 : a ≤ 9223372036854775807) (b1 : -9223372036854775808 ≤ b) (b2 : b ≤ 9223372036854775807) :
    Calls Try.prog 14 #[.int .i64 a, .int .i64 b] w fun e w' => e = .returned (.int .i64 c) ∧ w = w' := by
  have k := fAdd_any a b w a1 a2 b1 b2
  rw [h.out] at k
  exact k
theorem rw_sub {a b c : Int} {w : World} (h : Hid (fSub a b = c)) (a1 : -9223372036854775808 ≤ a) (a2 : a ≤ 9223372036854775807) (b1 : -9223372036854775808 ≤ b) (b2 : b ≤ 9223372036854775807) :
    Calls Try.prog 15 #[.int .i64 a, .int .i64 b] w fun e w' => e = .returned (.int .i64 c) ∧ w = w' := by
  have k := fSub_any a b w a1 a2 b1 b2
  rw [h.out] at k
  exact k

theorem clos_any (n : Int) (w : World) :
    Calls Try.prog 16 #[.int .i64 n] w fun e w' => e = .returned (.int .i64 (bnd 131072 67108864 n)) ∧ w = w' := by
  go_enter Try.func16, Try.ntmps16
  go_wp2
  go_ret
  exact ⟨rfl, rfl⟩

def ratioV (scan trigger goal : Int) : Int := bnd 131072 67108864 (fDiv (fWhole (fAdd (max scan 0) 64)) (fWhole (max (fSub goal trigger) 1)))

set_option maxHeartbeats 800000 in
theorem ratio_walk (scan trigger goal a s r aw rw q v : Int) (w : World) (s1 : -9223372036854775808 ≤ scan) (s2 : scan ≤ 9223372036854775807) (t1 : -9223372036854775808 ≤ trigger) (t2 : trigger ≤ 9223372036854775807) (g1 : -9223372036854775808 ≤ goal) (g2 : goal ≤ 9223372036854775807)
    (ha : Hid (fAdd (max scan 0) 64 = a)) (a1 : -9223372036854775808 ≤ a) (a2 : a ≤ 9223372036854775807) (hs : Hid (fSub goal trigger = s)) (hr : max s 1 = r) (r1 : 1 ≤ r) (r2 : r ≤ 9223372036854775807)
    (haw : Hid (fWhole a = aw)) (aw1 : -9223372036854775808 ≤ aw) (aw2 : aw ≤ 9223372036854775807) (hrw : Hid (fWhole r = rw)) (rw1 : -9223372036854775808 ≤ rw) (rw2 : rw ≤ 9223372036854775807) (hq : Hid (fDiv aw rw = q)) (hv : Hid (bnd 131072 67108864 q = v)) :
    Calls Try.prog 8 #[.int .i64 scan, .int .i64 trigger, .int .i64 goal] w fun e w' => e = .returned (.int .i64 v) ∧ Dr w w' := by
  go_enter Try.func8, Try.ntmps8
  go_wp2_with fail
  refine (rw_add ha (by omega) (by omega) (by omega) (by omega)).mono ?_
  rintro e w' ⟨rfl, rfl⟩
  go_wp2_with fail
  refine (rw_whole haw a1 a2).mono ?_
  rintro e w' ⟨rfl, rfl⟩
  go_wp2_with fail
  refine (rw_sub hs g1 g2 t1 t2).mono ?_
  rintro e w' ⟨rfl, rfl⟩
  go_wp2_with fail
  refine (rw_whole hrw (by omega) r2).mono ?_
  rintro e w' ⟨rfl, rfl⟩
  go_wp2_with fail
  refine (rw_div hq aw1 aw2 rw1 rw2).mono ?_
  rintro e w1 ⟨rfl, hw⟩
  have Hw := Lib.hid hw
  clear hw
  go_wp2_with fail
  refine (clos_any q _).mono ?_
  rintro e w' ⟨rfl, rfl⟩
  rw [hv.out]
  go_wp2_with fail
  go_ret
  exact ⟨rfl, Hw.out⟩

/-- pacer.Ratio. -/
theorem ratio_any (scan trigger goal : Int) (w : World) (s1 : -9223372036854775808 ≤ scan) (s2 : scan ≤ 9223372036854775807) (t1 : -9223372036854775808 ≤ trigger) (t2 : trigger ≤ 9223372036854775807) (g1 : -9223372036854775808 ≤ goal) (g2 : goal ≤ 9223372036854775807) :
    Calls Try.prog 8 #[.int .i64 scan, .int .i64 trigger, .int .i64 goal] w fun e w' => e = .returned (.int .i64 (ratioV scan trigger goal)) ∧ Dr w w' := by
  unfold ratioV
  have h1 := clamp_le (max scan 0 + 64)
  have h2 := clamp_le (goal - trigger)
  have h3 := clamp_le (fAdd (max scan 0) 64 * 1048576)
  have h4 := clamp_le (max (fSub goal trigger) 1 * 1048576)
  have h2' : fSub goal trigger ≤ 9223372036854775807 := h2.2
  exact ratio_walk scan trigger goal _ _ _ _ _ _ _ w s1 s2 t1 t2 g1 g2 (Lib.hid rfl) h1.1 h1.2 (Lib.hid rfl) rfl (by omega) (by omega) (Lib.hid rfl) h3.1 h3.2 (Lib.hid rfl) h4.1 h4.2 (Lib.hid rfl) (Lib.hid rfl)

theorem kratio {scan trigger goal v : Int} {w : World} (h : ratioV scan trigger goal = v) (s1 : -9223372036854775808 ≤ scan) (s2 : scan ≤ 9223372036854775807) (t1 : -9223372036854775808 ≤ trigger) (t2 : trigger ≤ 9223372036854775807) (g1 : -9223372036854775808 ≤ goal) (g2 : goal ≤ 9223372036854775807) :
    Calls Try.prog 8 #[.int .i64 scan, .int .i64 trigger, .int .i64 goal] w fun e w' => e = .returned (.int .i64 v) ∧ Dr w w' := by
  have k := ratio_any scan trigger goal w s1 s2 t1 t2 g1 g2
  rw [h] at k
  exact k

/-- A goal, of what the numbers are within their bounds. -/
def goalIn (W L P : Int) : Int := min (max (L + L * P / 100) (W / 4)) (W / 2 + L / 2)
def trigIn (L G : Int) : Int := min (L + max (G - L) 0 * 3 / 4) G

theorem ex_tail (w : World) (o : Obj) (n : Nat) (a b c : Value) :
    Ex w (((((w.alloc o).drewN n).setCell ⟨w.heap.size, 0, none⟩ a).setCell ⟨w.heap.size, 1, none⟩ b).setCell ⟨w.heap.size, 2, none⟩ c) := by
  have h0 : Below w.heap.size w ((w.alloc o).drewN n) := ((Below.refl _ _).alloc (Nat.le_refl _) o).trans ⟨rfl, rfl, rfl, Nat.le_refl _, fun _ _ => rfl⟩
  exact ((h0.setCell (Nat.le_refl _) a).setCell (Nat.le_refl _) b).setCell (Nat.le_refl _) c

set_option maxHeartbeats 800000 in
theorem goal_walk (live words percent W L P M A G T R : Int) (w : World) (hW : min (max words 0) 16777216 = W) (hL : min (max live 0) W = L) (hP : min (max percent 0) 10000 = P) (W1 : 0 ≤ W) (W2 : W ≤ 16777216) (L1 : 0 ≤ L) (L2 : L ≤ W) (P1 : 0 ≤ P) (P2 : P ≤ 10000) (hM : L * P = M) (M1 : 0 ≤ M) (M2 : M ≤ 167772160000)
    (hA : max (L + M / 100) (W / 4) = A) (hG : (W / 2 + L / 2 < A ∧ W / 2 + L / 2 = G) ∨ (¬ W / 2 + L / 2 < A ∧ A = G)) (G1 : 0 ≤ G) (G2 : G ≤ W) (hT : min (L + max (G - L) 0 * 3 / 4) G = T) (T1 : 0 ≤ T) (T2 : T ≤ G) (hR : Hid (ratioV L T G = R)) :
    Calls Try.prog 7 #[.int .i64 live, .int .i64 words, .int .i64 percent, .bool true] w fun e w' => e = .returned (.agg #[.int .i64 T, .int .i64 G, .int .i64 R]) ∧ Ex w w' := by
  rcases hG with ⟨g1, g2⟩ | ⟨g1, rfl⟩
  all_goals
    go_enter Try.func7, Try.ntmps7
    go_wp2_with fail
    refine (kratio hR.out (by omega) (by omega) (by omega) (by omega) (by omega) (by omega)).mono ?_
    rintro e w1 ⟨rfl, n, rfl⟩
    go_wp2_with fail
    refine bodyPost_ret (v := .agg #[.int .i64 T, .int .i64 _, .int .i64 R]) (by simp [results, Try.results7, go_sem]) rfl ⟨rfl, ?_⟩
    exact ex_tail _ _ _ _ _ _

set_option maxHeartbeats 800000 in
theorem goal_off (live words percent W L : Int) (w : World) (hW : min (max words 0) 16777216 = W) (hL : min (max live 0) W = L) :
    Calls Try.prog 7 #[.int .i64 live, .int .i64 words, .int .i64 percent, .bool false] w fun e w' => e = .returned (.agg #[.int .i64 W, .int .i64 W, .int .i64 0]) ∧ Ex w w' := by
  go_enter Try.func7, Try.ntmps7
  go_wp2_with fail
  refine bodyPost_ret (v := .agg #[.int .i64 W, .int .i64 W, .int .i64 0]) (by simp [results, Try.results7, go_sem]) rfl ⟨rfl, ?_⟩
  exact (Below.refl _ _).alloc (Nat.le_refl _) _

def gW (words : Int) : Int := min (max words 0) 16777216
def gL (live words : Int) : Int := min (max live 0) (gW words)
def gP (percent : Int) : Int := min (max percent 0) 10000
def goalG (live words percent : Int) : Int := goalIn (gW words) (gL live words) (gP percent)
def goalT (live words percent : Int) : Int := trigIn (gL live words) (goalG live words percent)
def goalR (live words percent : Int) : Int := ratioV (gL live words) (goalT live words percent) (goalG live words percent)

theorem g_bd (live words percent : Int) : 0 ≤ gW words ∧ gW words ≤ 16777216 ∧ 0 ≤ gL live words ∧ gL live words ≤ gW words ∧ 0 ≤ gP percent ∧ gP percent ≤ 10000 ∧
    0 ≤ gL live words * gP percent ∧ gL live words * gP percent ≤ 167772160000 := by
  have h1 : 0 ≤ gW words ∧ gW words ≤ 16777216 := by unfold gW; omega
  have h2 : 0 ≤ gL live words ∧ gL live words ≤ gW words := by unfold gL; omega
  have h3 : 0 ≤ gP percent ∧ gP percent ≤ 10000 := by unfold gP; omega
  have h4 := Int.mul_nonneg h2.1 h3.1
  have h5 : gL live words * gP percent ≤ 16777216 * 10000 := Int.mul_le_mul (by omega) h3.2 h3.1 (by omega)
  exact ⟨h1.1, h1.2, h2.1, h2.2, h3.1, h3.2, h4, by omega⟩

theorem goal_bd (live words percent : Int) : 0 ≤ goalG live words percent ∧ goalG live words percent ≤ gW words ∧ 0 ≤ goalT live words percent ∧ goalT live words percent ≤ goalG live words percent := by
  obtain ⟨h1, h2, h3, h4, h5, h6, h7, h8⟩ := g_bd live words percent
  have a : 0 ≤ goalG live words percent ∧ goalG live words percent ≤ gW words := by unfold goalG goalIn; omega
  have b : 0 ≤ goalT live words percent ∧ goalT live words percent ≤ goalG live words percent := by unfold goalT trigIn; omega
  exact ⟨a.1, a.2, b.1, b.2⟩

/-- pacer.Goal, the collector on. -/
theorem goal_any (live words percent : Int) (w : World) :
    Calls Try.prog 7 #[.int .i64 live, .int .i64 words, .int .i64 percent, .bool true] w fun e w' => e = .returned (.agg #[.int .i64 (goalT live words percent), .int .i64 (goalG live words percent), .int .i64 (goalR live words percent)]) ∧ Ex w w' := by
  obtain ⟨h1, h2, h3, h4, h5, h6, h7, h8⟩ := g_bd live words percent
  obtain ⟨b1, b2, b3, b4⟩ := goal_bd live words percent
  refine goal_walk live words percent (gW words) (gL live words) (gP percent) _ _ (goalG live words percent) (goalT live words percent) _ w rfl rfl rfl h1 h2 h3 h4 h5 h6 rfl h7 h8 rfl ?_ b1 b2 rfl b3 b4 (Lib.hid rfl)
  unfold goalG goalIn
  by_cases c : gW words / 2 + gL live words / 2 < max (gL live words + gL live words * gP percent / 100) (gW words / 4)
  · exact .inl ⟨c, by omega⟩
  · exact .inr ⟨c, by omega⟩

theorem kgoal {live words percent T G R : Int} {w : World} (hT : goalT live words percent = T) (hG : goalG live words percent = G) (hR : goalR live words percent = R) :
    Calls Try.prog 7 #[.int .i64 live, .int .i64 words, .int .i64 percent, .bool true] w fun e w' => e = .returned (.agg #[.int .i64 T, .int .i64 G, .int .i64 R]) ∧ Ex w w' := by
  have k := goal_any live words percent w
  rw [hT, hG, hR] at k
  exact k

theorem ratio_bd (scan trigger goal : Int) : 131072 ≤ ratioV scan trigger goal ∧ ratioV scan trigger goal ≤ 67108864 := bnd_le _ _ _ (by omega)

set_option maxHeartbeats 400000 in
theorem begin_any (T G R n : Int) (b : Bool) (w : World) (h : (decide (T ≤ n) = true ∧ decide (0 < R) = true ∧ b = true) ∨ (decide (T ≤ n) = false ∧ b = false) ∨ (decide (T ≤ n) = true ∧ decide (0 < R) = false ∧ b = false)) :
    Calls Try.prog 10 #[.agg #[.int .i64 T, .int .i64 G, .int .i64 R], .int .i64 n] w fun e w' => e = .returned (.bool b) ∧ Ex w w' := by
  rcases h with ⟨h1, h2, rfl⟩ | ⟨h1, rfl⟩ | ⟨h1, h2, rfl⟩
  all_goals
    go_enter Try.func10, Try.ntmps10
    go_wp2
    go_ret
    exact ⟨by first | rfl | simp, (Below.refl _ _).alloc (Nat.le_refl _) _⟩

end Go.Proofs.Ytbbhgcabebjlhaa
