/- Part 15 of what is proved of the program of layer 16: RefW15, RefK15, RefM16, Great16, Rf16, RRead16, RPlainA16, RPlainB16, RPlainC16, RPlainD16. -/
import Derived.Test.YtmlobpapjfkbmaaGreatK5
import Derived.Test.YtmlobpapjfkbmaaGreatK6
import Derived.Test.YtmlobpapjfkbmaaGreatK7
import Derived.Test.YtmlobpapjfkbmaaGreatK14
import Derived.Test.YtmlobpapjfkbmaaGreatK10
import Derived.Test.YtmlobpapjfkbmaaGreatK9
/- The document's fits. -/
namespace Go.Proofs.YtmlobpapjfkbmaaGreat.C15
open Go.RowKit
set_option linter.unusedVariables false
set_option maxRecDepth 20000
set_option linter.unusedSimpArgs false

def allocs (w : World) (os : List Obj) : World := os.foldl World.alloc w
theorem allocs_ex : ∀ (os : List Obj) (w : World), Ex w (allocs w os)
  | [], w => Ex.refl w
  | o :: os, w => (Ex.made w o).trans (allocs_ex os _)
theorem allocs_at : ∀ (os : List Obj) (w : World) (i : Nat) (o : Obj), os[i]? = some o → (allocs w os).heap[w.heap.size + i]? = some o
  | [], w, i, o, h => by simp at h
  | o' :: os, w, 0, o, h => by
    have e : o' = o := by simpa using h
    subst e
    have := (allocs_ex os (w.alloc o')).block w.heap.size (by simp)
    show (allocs (w.alloc o') os).heap[w.heap.size]? = _
    rw [this]
    exact heap_alloc_new _ _
  | o' :: os, w, i + 1, o, h => by
    have := allocs_at os (w.alloc o') i o (by simpa using h)
    rw [show (w.alloc o').heap.size + i = w.heap.size + (i + 1) by simp; omega] at this
    exact this

/-- The document's number of a kind. -/
def rk : Nat → Nat
  | 0 => 0
  | 1 => 6
  | 2 => 1
  | 3 => 2
  | 4 => 3
  | 5 => 5
  | _ => 4

set_option maxRecDepth 20000 in
set_option maxHeartbeats 3200000 in
theorem rfits_any (w : World) (g f s v : Int) (c : Nat) (hc : c < 7) (t : Bool) (ht : decide (0 ≤ v ∧ v < lim g f s c) = t) :
    Calls Tryz.prog 45 #[.int .i64 ((rk c : Nat) : Int), .int .i64 v, .int .i64 g, .int .i64 f, .int .i64 s] w fun e w' => e = .returned (.bool t) ∧ Ex w w' := by
  have fin : ∀ d : Int, lim g f s c = d → (0 ≤ v → v < d → t = true) ∧ (0 ≤ v → ¬ v < d → t = false) ∧ (¬ 0 ≤ v → t = false) := by
    intro d hd
    rw [hd] at ht
    subst ht
    refine ⟨fun a b => by simp [a, b], fun a b => by simp [b], fun a => by simp [a]⟩
  by_cases h1 : 0 ≤ v
  · match c, hc with
    | 0, _ =>
      obtain ⟨k1, k2, -⟩ := fin 1 rfl
      clear ht fin
      rw [show ((rk 0 : Nat) : Int) = 0 from rfl]
      by_cases h2 : v < 1
      · obtain rfl := k1 h1 h2
        go_enter Tryz.func45, Tryz.ntmps45
        go_wp2_with fail
        go_ret
        exact ⟨rfl, Ex.made _ _⟩
      · obtain rfl := k2 h1 h2
        go_enter Tryz.func45, Tryz.ntmps45
        go_wp2_with fail
        go_ret
        exact ⟨rfl, Ex.made _ _⟩
    | 1, _ =>
      obtain ⟨k1, k2, -⟩ := fin 256 rfl
      clear ht fin
      rw [show ((rk 1 : Nat) : Int) = 6 from rfl]
      by_cases h2 : v < 256
      · obtain rfl := k1 h1 h2
        go_enter Tryz.func45, Tryz.ntmps45
        go_wp2_with fail
        go_ret
        exact ⟨rfl, Ex.made _ _⟩
      · obtain rfl := k2 h1 h2
        go_enter Tryz.func45, Tryz.ntmps45
        go_wp2_with fail
        go_ret
        exact ⟨rfl, Ex.made _ _⟩
    | 2, _ =>
      obtain ⟨k1, k2, -⟩ := fin 16 rfl
      clear ht fin
      rw [show ((rk 2 : Nat) : Int) = 1 from rfl]
      by_cases h2 : v < 16
      · obtain rfl := k1 h1 h2
        go_enter Tryz.func45, Tryz.ntmps45
        go_wp2_with fail
        go_ret
        exact ⟨rfl, Ex.made _ _⟩
      · obtain rfl := k2 h1 h2
        go_enter Tryz.func45, Tryz.ntmps45
        go_wp2_with fail
        go_ret
        exact ⟨rfl, Ex.made _ _⟩
    | 3, _ =>
      obtain ⟨k1, k2, -⟩ := fin g rfl
      clear ht fin
      rw [show ((rk 3 : Nat) : Int) = 2 from rfl]
      by_cases h2 : v < g
      · obtain rfl := k1 h1 h2
        go_enter Tryz.func45, Tryz.ntmps45
        go_wp2_with fail
        go_ret
        exact ⟨rfl, Ex.made _ _⟩
      · obtain rfl := k2 h1 h2
        go_enter Tryz.func45, Tryz.ntmps45
        go_wp2_with fail
        go_ret
        exact ⟨rfl, Ex.made _ _⟩
    | 4, _ =>
      obtain ⟨k1, k2, -⟩ := fin f rfl
      clear ht fin
      rw [show ((rk 4 : Nat) : Int) = 3 from rfl]
      by_cases h2 : v < f
      · obtain rfl := k1 h1 h2
        go_enter Tryz.func45, Tryz.ntmps45
        go_wp2_with fail
        go_ret
        exact ⟨rfl, Ex.made _ _⟩
      · obtain rfl := k2 h1 h2
        go_enter Tryz.func45, Tryz.ntmps45
        go_wp2_with fail
        go_ret
        exact ⟨rfl, Ex.made _ _⟩
    | 5, _ =>
      obtain ⟨k1, k2, -⟩ := fin s rfl
      clear ht fin
      rw [show ((rk 5 : Nat) : Int) = 5 from rfl]
      by_cases h2 : v < s
      · obtain rfl := k1 h1 h2
        go_enter Tryz.func45, Tryz.ntmps45
        go_wp2_with fail
        go_ret
        exact ⟨rfl, Ex.made _ _⟩
      · obtain rfl := k2 h1 h2
        go_enter Tryz.func45, Tryz.ntmps45
        go_wp2_with fail
        go_ret
        exact ⟨rfl, Ex.made _ _⟩
    | 6, _ =>
      obtain ⟨k1, k2, -⟩ := fin 32 rfl
      clear ht fin
      rw [show ((rk 6 : Nat) : Int) = 4 from rfl]
      by_cases h2 : v < 32
      · obtain rfl := k1 h1 h2
        go_enter Tryz.func45, Tryz.ntmps45
        go_wp2_with fail
        go_ret
        exact ⟨rfl, Ex.made _ _⟩
      · obtain rfl := k2 h1 h2
        go_enter Tryz.func45, Tryz.ntmps45
        go_wp2_with fail
        go_ret
        exact ⟨rfl, Ex.made _ _⟩
  · obtain ⟨-, -, k3⟩ := fin _ rfl
    obtain rfl := k3 h1
    clear ht fin
    go_enter Tryz.func45, Tryz.ntmps45
    go_wp2_with fail
    go_ret
    exact ⟨rfl, Ex.refl _⟩

end Go.Proofs.YtmlobpapjfkbmaaGreat.C15

/- The document's kinds, wrong. -/
namespace Go.Proofs.YtmlobpapjfkbmaaGreat.C15
open Go.RowKit
set_option linter.unusedVariables false
set_option maxRecDepth 20000
set_option linter.unusedSimpArgs false

def krow (op : Nat) : Array Value := #[.int .i64 ((rk (kd op 0) : Nat) : Int), .int .i64 ((rk (kd op 1) : Nat) : Int), .int .i64 ((rk (kd op 2) : Nat) : Int)]

/-- The table's pointers. -/
def kPtr (H : Nat) : Array Value := #[.slice (some ⟨H, 0, none⟩) 3 3, .slice (some ⟨H + 1, 0, none⟩) 3 3, .slice (some ⟨H + 1 + 1, 0, none⟩) 3 3, .slice (some ⟨H + 1 + 1 + 1, 0, none⟩) 3 3, .slice (some ⟨H + 1 + 1 + 1 + 1, 0, none⟩) 3 3, .slice (some ⟨H + 1 + 1 + 1 + 1 + 1, 0, none⟩) 3 3, .slice (some ⟨H + 1 + 1 + 1 + 1 + 1 + 1, 0, none⟩) 3 3, .slice (some ⟨H + 1 + 1 + 1 + 1 + 1 + 1 + 1, 0, none⟩) 3 3, .slice (some ⟨H + 1 + 1 + 1 + 1 + 1 + 1 + 1 + 1, 0, none⟩) 3 3, .slice (some ⟨H + 1 + 1 + 1 + 1 + 1 + 1 + 1 + 1 + 1, 0, none⟩) 3 3, .slice (some ⟨H + 1 + 1 + 1 + 1 + 1 + 1 + 1 + 1 + 1 + 1, 0, none⟩) 3 3, .slice (some ⟨H + 1 + 1 + 1 + 1 + 1 + 1 + 1 + 1 + 1 + 1 + 1, 0, none⟩) 3 3, .slice (some ⟨H + 1 + 1 + 1 + 1 + 1 + 1 + 1 + 1 + 1 + 1 + 1 + 1, 0, none⟩) 3 3, .slice (some ⟨H + 1 + 1 + 1 + 1 + 1 + 1 + 1 + 1 + 1 + 1 + 1 + 1 + 1, 0, none⟩) 3 3, .slice (some ⟨H + 1 + 1 + 1 + 1 + 1 + 1 + 1 + 1 + 1 + 1 + 1 + 1 + 1 + 1, 0, none⟩) 3 3, .slice (some ⟨H + 1 + 1 + 1 + 1 + 1 + 1 + 1 + 1 + 1 + 1 + 1 + 1 + 1 + 1 + 1, 0, none⟩) 3 3, .slice (some ⟨H + 1 + 1 + 1 + 1 + 1 + 1 + 1 + 1 + 1 + 1 + 1 + 1 + 1 + 1 + 1 + 1, 0, none⟩) 3 3, .slice (some ⟨H + 1 + 1 + 1 + 1 + 1 + 1 + 1 + 1 + 1 + 1 + 1 + 1 + 1 + 1 + 1 + 1 + 1, 0, none⟩) 3 3]
def kObs (H : Nat) : List Obj := [.cells #[.int .i64 0, .int .i64 0, .int .i64 0] 3, .cells #[.int .i64 1, .int .i64 6, .int .i64 0] 3, .cells #[.int .i64 1, .int .i64 1, .int .i64 6] 3, .cells #[.int .i64 1, .int .i64 6, .int .i64 1] 3, .cells #[.int .i64 1, .int .i64 1, .int .i64 0] 3, .cells #[.int .i64 1, .int .i64 0, .int .i64 0] 3, .cells #[.int .i64 1, .int .i64 2, .int .i64 0] 3, .cells #[.int .i64 2, .int .i64 1, .int .i64 0] 3, .cells #[.int .i64 3, .int .i64 1, .int .i64 0] 3, .cells #[.int .i64 0, .int .i64 0, .int .i64 0] 3, .cells #[.int .i64 0, .int .i64 6, .int .i64 6] 3, .cells #[.int .i64 4, .int .i64 0, .int .i64 0] 3, .cells #[.int .i64 4, .int .i64 0, .int .i64 0] 3, .cells #[.int .i64 1, .int .i64 1, .int .i64 0] 3, .cells #[.int .i64 5, .int .i64 0, .int .i64 0] 3, .cells #[.int .i64 1, .int .i64 1, .int .i64 5] 3, .cells #[.int .i64 6, .int .i64 6, .int .i64 0] 3, .cells #[.int .i64 5, .int .i64 0, .int .i64 0] 3, .cells (kPtr H) 37]
theorem kPtr_at (H op : Nat) (h : op < 18) : (kPtr H)[op]? = some (.slice (some ⟨H + op, 0, none⟩) 3 3) := by
  match op, h with
  | 0, _ => rfl
  | 1, _ => rfl
  | 2, _ => rfl
  | 3, _ => rfl
  | 4, _ => rfl
  | 5, _ => rfl
  | 6, _ => rfl
  | 7, _ => rfl
  | 8, _ => rfl
  | 9, _ => rfl
  | 10, _ => rfl
  | 11, _ => rfl
  | 12, _ => rfl
  | 13, _ => rfl
  | 14, _ => rfl
  | 15, _ => rfl
  | 16, _ => rfl
  | 17, _ => rfl
  | n + 18, h => omega
theorem kObs_at (H op : Nat) (h : op < 18) : (kObs H)[op]? = some (.cells (krow op) 3) := by
  match op, h with
  | 0, _ => rfl
  | 1, _ => rfl
  | 2, _ => rfl
  | 3, _ => rfl
  | 4, _ => rfl
  | 5, _ => rfl
  | 6, _ => rfl
  | 7, _ => rfl
  | 8, _ => rfl
  | 9, _ => rfl
  | 10, _ => rfl
  | 11, _ => rfl
  | 12, _ => rfl
  | 13, _ => rfl
  | 14, _ => rfl
  | 15, _ => rfl
  | 16, _ => rfl
  | 17, _ => rfl
  | n + 18, h => omega

set_option maxRecDepth 20000 in
set_option maxHeartbeats 3200000 in
theorem kinds_in (w : World) (op : Nat) (h : op < 18) :
    Calls Tryz.prog 44 #[.int .i64 (op : Int)] w fun e w' => e = .returned (.slice (some ⟨w.heap.size + op, 0, none⟩) 3 3) ∧ Box w' (w.heap.size + op) (krow op) 3 ∧ Ex w w' := by
  go_enter Tryz.func44, Tryz.ntmps44
  go_upto_region 2 with fail
  obtain ⟨W, hW⟩ : ∃ W, W = allocs w (kObs w.heap.size) := ⟨_, rfl⟩
  have E0 : Hid (Ex w W) := Lib.hid (by rw [hW]; exact allocs_ex _ _)
  have B0 : Hid (Box W (w.heap.size + op) (krow op) 3) := Lib.hid (by rw [hW]; exact allocs_at _ _ _ _ (kObs_at _ _ h))
  have hP : Box W (w.heap.size + 18) (kPtr w.heap.size) 37 := by rw [hW]; exact allocs_at _ _ _ _ rfl
  have hc : W.cell? ⟨w.heap.size + 18, op, none⟩ = some (.slice (some ⟨w.heap.size + op, 0, none⟩) 3 3) := by rw [hP.cell op]; exact kPtr_at _ _ h
  change Code.wp _ _ _ _ (allocs w (kObs w.heap.size))
  rw [← hW]
  have hP2 := Lib.hid hP
  clear hW hP
  have q1 : (op : Int) < 18 := by omega
  obtain ⟨kb, hkb⟩ : ∃ kb, kb = w.heap.size + 18 := ⟨_, rfl⟩
  rw [← hkb] at hc
  rw [show w.heap.size + 1 + 1 + 1 + 1 + 1 + 1 + 1 + 1 + 1 + 1 + 1 + 1 + 1 + 1 + 1 + 1 + 1 + 1 = kb from hkb.symm]
  obtain ⟨rb, hrb⟩ : ∃ rb, rb = w.heap.size + op := ⟨_, rfl⟩
  rw [← hrb] at hc B0
  have HRB := Lib.hid hrb
  clear hkb hrb
  go_wp2_with fail
  go_ret
  exact ⟨by rw [HRB.out]; rfl, by rw [← HRB.out]; exact B0.out, E0.out⟩

set_option maxRecDepth 20000 in
set_option maxHeartbeats 3200000 in
theorem kinds_out (w : World) (op : Int) (h : op < 0 ∨ 17 < op) :
    Calls Tryz.prog 44 #[.int .i64 op] w fun e w' => e = .returned (.slice none 0 0) ∧ Ex w w' := by
  rcases h with h | h
  · go_enter Tryz.func44, Tryz.ntmps44
    go_wp2_with fail
    go_ret
    exact ⟨rfl, allocs_ex (kObs w.heap.size) w⟩
  · have h1 : ¬ op < 0 := by omega
    have h2 : (18 : Int) ≤ op := by omega
    go_enter Tryz.func44, Tryz.ntmps44
    go_wp2_with fail
    go_ret
    exact ⟨rfl, allocs_ex (kObs w.heap.size) w⟩

theorem krow_cell (op : Nat) : (krow op)[0]? = some (.int .i64 ((rk (kd op 0) : Nat) : Int)) ∧ (krow op)[1]? = some (.int .i64 ((rk (kd op 1) : Nat) : Int)) ∧ (krow op)[2]? = some (.int .i64 ((rk (kd op 2) : Nat) : Int)) := ⟨rfl, rfl, rfl⟩

set_option maxRecDepth 20000 in
set_option maxHeartbeats 6400000 in
theorem rwrong_in (w : World) (g f s a b c : Int) (op : Nat) (h : op < 18) (r : Int) (hr : (if okP g f s op 0 a = false then (1 : Int) else if okP g f s op 1 b = false then 2 else if okP g f s op 2 c = false then 3 else -1) = r) :
    Calls Tryz.prog 15 #[.agg #[.int .i64 (op : Int), .int .i64 a, .int .i64 b, .int .i64 c], .int .i64 g, .int .i64 f, .int .i64 s] w fun e w' => e = .returned (.int .i64 r) ∧ Ex w w' := by
  have hsn : ∀ (w : World) (a : Option Addr) (n c n' c' : Nat), (binOp .eql 37 (.slice a n c) (.slice none n' c')).run Tryz.prog w = .ok (.bool a.isNone) w := fun w a n c n' c' => Lib.run_eql_slice_nil w _ _ a n c n' c' Tryz.underlying37
  obtain ⟨t0, h0⟩ : ∃ t, okP g f s op 0 a = t := ⟨_, rfl⟩
  obtain ⟨t1, h1⟩ : ∃ t, okP g f s op 1 b = t := ⟨_, rfl⟩
  obtain ⟨t2, h2⟩ : ∃ t, okP g f s op 2 c = t := ⟨_, rfl⟩
  rw [h0, h1, h2] at hr
  have F0 := fun W => rfits_any W g f s a (kd op 0) (kd_lt op 0) t0 h0
  have F1 := fun W => rfits_any W g f s b (kd op 1) (kd_lt op 1) t1 h1
  have F2 := fun W => rfits_any W g f s c (kd op 2) (kd_lt op 2) t2 h2
  obtain ⟨k0, k1, k2⟩ := krow_cell op
  obtain ⟨KR, hKR⟩ : ∃ K, krow op = K := ⟨_, rfl⟩
  have KI := Lib.hid (kinds_in (op := op) · h)
  rw [hKR] at KI k0 k1 k2
  generalize ((rk (kd op 0) : Nat) : Int) = q0 at *
  generalize ((rk (kd op 1) : Nat) : Int) = q1 at *
  generalize ((rk (kd op 2) : Nat) : Int) = q2 at *
  have HR := Lib.hid hr
  have K0 := Lib.hid k0
  have K1 := Lib.hid k1
  have K2 := Lib.hid k2
  have G0 := Lib.hid F0
  have G1 := Lib.hid F1
  have G2 := Lib.hid F2
  clear hr h0 h1 h2 hKR k0 k1 k2 F0 F1 F2
  go_enter Tryz.func15, Tryz.ntmps15
  go_upto_region 1 with fail
  have e0 := Ex.made w (.cells #[.int .i64 (op : Int), .int .i64 a, .int .i64 b, .int .i64 c] 58)
  have b0 := Box.fresh w #[.int .i64 (op : Int), .int .i64 a, .int .i64 b, .int .i64 c] 58
  obtain ⟨V, hV⟩ : ∃ V, V = w.alloc (.cells #[.int .i64 (op : Int), .int .i64 a, .int .i64 b, .int .i64 c] 58) := ⟨_, rfl⟩
  rw [← hV] at e0 b0 ⊢
  have E0 := Lib.hid e0
  have B0 := Lib.hid b0
  have c0 := b0.cell 0
  clear hV e0 b0
  go_wp2_with fail
  refine (KI.out V).mono ?_
  rintro e w1 ⟨rfl, hb, hx⟩
  have E1 := Lib.hid (E0.out.trans hx)
  have B1 := Lib.hid (B0.out.ex hx)
  have R1 := Lib.hid hb
  obtain ⟨kb, hkb⟩ : ∃ kb, V.heap.size + op = kb := ⟨_, rfl⟩
  rw [hkb] at R1 ⊢
  clear hb hx c0 hkb E0 B0 KI
  have c1 := B1.out.cell 1
  have c2 := B1.out.cell 2
  have c3 := B1.out.cell 3
  go_upto_region 5 with fail
  have e2 := Ex.made w1 (.cells #[.int .i64 a, .int .i64 b, .int .i64 c] 3)
  have n2 := Box.fresh w1 #[.int .i64 a, .int .i64 b, .int .i64 c] 3
  have r2 := R1.out.ex e2
  obtain ⟨nb, hnb⟩ : ∃ nb, w1.heap.size = nb := ⟨_, rfl⟩
  rw [hnb] at n2 ⊢
  obtain ⟨U, hU⟩ : ∃ U, U = w1.alloc (.cells #[.int .i64 a, .int .i64 b, .int .i64 c] 3) := ⟨_, rfl⟩
  rw [← hU] at e2 n2 r2 ⊢
  have E2 := Lib.hid (E1.out.trans e2)
  have y0 : ∀ o : Out U, o.w.cell? ⟨kb, 0, none⟩ = some (.int .i64 q0) := fun o => by rw [r2.out 0 o, K0.out]
  have y1 : ∀ o : Out U, o.w.cell? ⟨kb, 1, none⟩ = some (.int .i64 q1) := fun o => by rw [r2.out 1 o, K1.out]
  have y2 : ∀ o : Out U, o.w.cell? ⟨kb, 2, none⟩ = some (.int .i64 q2) := fun o => by rw [r2.out 2 o, K2.out]
  have x0 : ∀ o : Out U, o.w.cell? ⟨nb, 0, none⟩ = some (.int .i64 a) := fun o => n2.out 0 o
  have x1 : ∀ o : Out U, o.w.cell? ⟨nb, 1, none⟩ = some (.int .i64 b) := fun o => n2.out 1 o
  have x2 : ∀ o : Out U, o.w.cell? ⟨nb, 2, none⟩ = some (.int .i64 c) := fun o => n2.out 2 o
  clear hU hnb e2 n2 r2 c1 c2 c3 E1 B1 R1
  go_wp2_with fail
  refine wp_loop_rounds 4 ?_
  rw [rounds_succ]
  go_upto_region 8 with fail
  refine wp_region_ex (by kernel_rfl) (by kernel_rfl) ?_
  repeat (go_big_quiet_step ((go_at_call 45; exact quiet_ex (G0.out _))))
  refine wpQuiet_nil ?_
  rintro wz ⟨⟨w4, hw⟩, rfl⟩
  have hr := HR.out
  have E3 := Lib.hid (E2.out.trans hw)
  replace y1 : ∀ o : Out wz, o.w.cell? ⟨kb, 1, none⟩ = some (.int .i64 q1) := fun o => y1 ⟨o.1, hw.trans o.2⟩
  replace y2 : ∀ o : Out wz, o.w.cell? ⟨kb, 2, none⟩ = some (.int .i64 q2) := fun o => y2 ⟨o.1, hw.trans o.2⟩
  replace x1 : ∀ o : Out wz, o.w.cell? ⟨nb, 1, none⟩ = some (.int .i64 b) := fun o => x1 ⟨o.1, hw.trans o.2⟩
  replace x2 : ∀ o : Out wz, o.w.cell? ⟨nb, 2, none⟩ = some (.int .i64 c) := fun o => x2 ⟨o.1, hw.trans o.2⟩
  clear y0 x0 hw E2
  cases t0
  · simp at hr
    clear y1 y2 x1 x2
    subst hr
    go_wp2_with fail
    go_ret
    exact ⟨rfl, E3.out⟩
  clear hr
  go_wp2_with fail
  rw [rounds_succ]
  go_upto_region 8 with fail
  refine wp_region_ex (by kernel_rfl) (by kernel_rfl) ?_
  repeat (go_big_quiet_step ((go_at_call 45; exact quiet_ex (G1.out _))))
  refine wpQuiet_nil ?_
  rintro wy ⟨⟨w4, hw⟩, rfl⟩
  have hr := HR.out
  have E4 := Lib.hid (E3.out.trans hw)
  replace y2 : ∀ o : Out wy, o.w.cell? ⟨kb, 2, none⟩ = some (.int .i64 q2) := fun o => y2 ⟨o.1, hw.trans o.2⟩
  replace x2 : ∀ o : Out wy, o.w.cell? ⟨nb, 2, none⟩ = some (.int .i64 c) := fun o => x2 ⟨o.1, hw.trans o.2⟩
  clear y1 x1 hw E3
  cases t1
  · simp at hr
    clear y2 x2
    subst hr
    go_wp2_with fail
    go_ret
    exact ⟨rfl, E4.out⟩
  clear hr
  go_wp2_with fail
  rw [rounds_succ]
  go_upto_region 8 with fail
  refine wp_region_ex (by kernel_rfl) (by kernel_rfl) ?_
  repeat (go_big_quiet_step ((go_at_call 45; exact quiet_ex (G2.out _))))
  refine wpQuiet_nil ?_
  rintro wx ⟨⟨w4, hw⟩, rfl⟩
  have hr := HR.out
  have E5 := Lib.hid (E4.out.trans hw)
  clear y2 x2 hw E4
  cases t2
  · simp at hr
    subst hr
    go_wp2_with fail
    go_ret
    exact ⟨rfl, E5.out⟩
  simp at hr
  subst hr
  go_wp2_with fail
  rw [rounds_succ]
  go_wp2_with fail
  go_ret
  exact ⟨rfl, E5.out⟩

set_option maxRecDepth 20000 in
set_option maxHeartbeats 3200000 in
theorem rwrong_out (w : World) (g f s op a b c : Int) (h : op < 0 ∨ 17 < op) :
    Calls Tryz.prog 15 #[.agg #[.int .i64 op, .int .i64 a, .int .i64 b, .int .i64 c], .int .i64 g, .int .i64 f, .int .i64 s] w fun e w' => e = .returned (.int .i64 0) ∧ Ex w w' := by
  have hsn : ∀ (w : World) (a : Option Addr) (n c n' c' : Nat), (binOp .eql 37 (.slice a n c) (.slice none n' c')).run Tryz.prog w = .ok (.bool a.isNone) w := fun w a n c n' c' => Lib.run_eql_slice_nil w _ _ a n c n' c' Tryz.underlying37
  have KI := Lib.hid (kinds_out · op h)
  clear h
  go_enter Tryz.func15, Tryz.ntmps15
  go_wp2_with fail
  refine (KI.out _).mono ?_
  rintro e w1 ⟨rfl, hx⟩
  have E1 := Lib.hid ((Ex.made _ _).trans hx)
  clear hx
  go_wp2_with fail
  go_ret
  exact ⟨rfl, E1.out⟩

theorem rwrong_any (w : World) (x : I4) (g f s : Int) :
    Calls Tryz.prog 15 #[.agg #[.int .i64 x.1, .int .i64 x.2.1, .int .i64 x.2.2.1, .int .i64 x.2.2.2], .int .i64 g, .int .i64 f, .int .i64 s] w fun e w' => e = .returned (.int .i64 (wrongI g f s x)) ∧ Ex w w' := by
  obtain ⟨op, a, b, c⟩ := x
  by_cases h : op < 0 ∨ 17 < op
  · have e : wrongI g f s (op, a, b, c) = 0 := by unfold wrongI; rw [if_pos h]
    rw [e]
    exact rwrong_out w g f s op a b c h
  · obtain ⟨k, rfl⟩ : ∃ k : Nat, op = (k : Int) := ⟨op.toNat, by omega⟩
    refine rwrong_in w g f s a b c k (by omega) _ ?_
    unfold wrongI
    rw [if_neg h]
    rfl

end Go.Proofs.YtmlobpapjfkbmaaGreat.C15

/- The document's May. -/
namespace Go.Proofs.YtmlobpapjfkbmaaGreat.C15
open Go.RowKit
set_option linter.unusedVariables false
set_option maxRecDepth 20000
set_option linter.unusedSimpArgs false

set_option maxRecDepth 20000 in
set_option maxHeartbeats 6400000 in
theorem rmay_any {w : World} {g : Int} {fv : Value} {F : List (List I4)} (h : RdP w fv F) :
    Calls Tryz.prog 5 #[.agg #[.int .i64 g, fv]] w fun e w' => e = .returned (.int .i64 (mayI g F)) ∧ Ex w w' := by
  obtain ⟨fa, cap, rfl⟩ := h.val
  have HP := Lib.hid h
  clear h
  obtain ⟨r, hr⟩ : ∃ r, mayI g F = r := ⟨_, rfl⟩
  rw [hr]
  have HR := Lib.hid hr
  clear hr
  by_cases c3 : g < 0
  · have e : r = 1 := by rw [← HR.out]; exact may_head (.inr (.inr (.inl c3)))
    subst e
    go_enter Tryz.func5, Tryz.ntmps5
    go_wp2_with fail
    go_ret
    exact ⟨rfl, Ex.made _ _⟩
  have d3 : 0 ≤ g := by omega
  by_cases c4 : 32 < g
  · have e : r = 1 := by rw [← HR.out]; exact may_head (.inr (.inr (.inr c4)))
    subst e
    clear c3
    go_enter Tryz.func5, Tryz.ntmps5
    go_wp2_with fail
    go_ret
    exact ⟨rfl, Ex.made _ _⟩
  have d4 : g ≤ 32 := by omega
  by_cases c1 : F.length < 1
  · have d1 : (F.length : Int) < 1 := by omega
    have e : r = 1 := by rw [← HR.out]; exact may_head (.inl c1)
    subst e
    clear c1 c3 c4
    go_enter Tryz.func5, Tryz.ntmps5
    go_wp2_with fail
    go_ret
    exact ⟨rfl, Ex.made _ _⟩
  have d1 : (1 : Int) ≤ (F.length : Int) := by omega
  by_cases c2 : 16 < F.length
  · have d2 : 16 < (F.length : Int) := by omega
    have e : r = 1 := by rw [← HR.out]; exact may_head (.inr (.inl c2))
    subst e
    clear c1 c2 c3 c4
    go_enter Tryz.func5, Tryz.ntmps5
    go_wp2_with fail
    go_ret
    exact ⟨rfl, Ex.made _ _⟩
  have d2 : (F.length : Int) ≤ 16 := by omega
  clear c1 c2 c3 c4
  go_enter Tryz.func5, Tryz.ntmps5
  go_upto_region 3 with fail
  have e0 := Ex.made w (.cells #[.int .i64 g, .slice fa F.length cap] 24)
  have b0 := Box.fresh w #[.int .i64 g, .slice fa F.length cap] 24
  have p0 := HP.out.ex e0
  obtain ⟨W, hW⟩ : ∃ W, W = w.alloc (.cells #[.int .i64 g, .slice fa F.length cap] 24) := ⟨_, rfl⟩
  rw [← hW] at e0 b0 p0 ⊢
  have E0 := Lib.hid e0
  have B0 := Lib.hid b0
  have P0 := Lib.hid p0
  clear hW e0 b0 p0
  have x0 : W.cell? ⟨w.heap.size, 0, none⟩ = some (.int .i64 g) := B0.out.cell 0
  have x1 : W.cell? ⟨w.heap.size, 1, none⟩ = some (.slice fa F.length cap) := B0.out.cell 1
  go_wp2_with fail
  go_loop [3] (fun iv => ∃ i : Nat, i ≤ F.length ∧ iv = .int .i64 (i : Int) ∧ ∀ (j : Nat) (l : List I4), j < i → F[j]? = some l → 1 ≤ l.length ∧ l.length ≤ 64) (fun iv => F.length - (intOf iv).toNat)
  case atStart => exact ⟨0, by omega, rfl, fun j _ hj => absurd hj (Nat.not_lt_zero j)⟩
  case round =>
    obtain ⟨i, hi, rfl, hok⟩ := hrel
    have OK := Lib.hid hok
    clear hok
    by_cases hlt : i < F.length
    · have hlt' : (i : Int) < (F.length : Int) := by omega
      obtain ⟨l, hll⟩ := get_some hlt
      obtain ⟨gb, ob, a', cap', rfl, -, hcap, hgb, hc, hl, hI⟩ := P0.out.at2 hll
      have HL := Lib.hid hlt
      have HLL := Lib.hid hll
      clear hlt hll hI
      by_cases s1 : l.length < 1
      · have s1' : (l.length : Int) < 1 := by omega
        have e : r = 1 := by rw [← HR.out]; exact may_len2 HLL.out (.inl s1)
        subst e
        clear s1
        go_wp2_with fail
        go_ret
        exact ⟨rfl, E0.out⟩
      by_cases s2 : 64 < l.length
      · have s1' : (1 : Int) ≤ (l.length : Int) := by omega
        have s2' : 64 < (l.length : Int) := by omega
        have e : r = 1 := by rw [← HR.out]; exact may_len2 HLL.out (.inr s2)
        subst e
        clear s1 s2
        go_wp2_with fail
        go_ret
        exact ⟨rfl, E0.out⟩
      have s1' : (1 : Int) ≤ (l.length : Int) := by omega
      have s2' : (l.length : Int) ≤ 64 := by omega
      have OK2 : Hid (∀ (j : Nat) (l : List I4), j < i + 1 → F[j]? = some l → 1 ≤ l.length ∧ l.length ≤ 64) := Lib.hid (by
        intro j l' h1 hj
        by_cases hji : j < i
        · exact OK.out j l' hji hj
        · obtain rfl : j = i := by omega
          rw [HLL.out] at hj
          cases hj
          omega)
      clear s1 s2
      go_wp2_with fail
      go_round
      case rel => exact ⟨i + 1, by have := HL.out; omega, by go_num, OK2.out⟩
      case measure => simp [intOf]; have := HL.out; omega
    · have hlt' : (F.length : Int) ≤ (i : Int) := by omega
      have SZ : Hid (∀ (j : Nat) (l : List I4), F[j]? = some l → 1 ≤ l.length ∧ l.length ≤ 64) := Lib.hid (fun j l hl => OK.out j l (by have := (get_is hl).1; omega) hl)
      have hb : mayI g F = outM (badF g F.length 1 F) := may_body2 (by omega) (by omega) d3 d4 SZ.out
      have HB := Lib.hid (HR.out.symm.trans hb)
      clear hlt hb OK
      go_wp2_with fail
      go_loopw [4, 5] (fun nv iv wr => ∃ (i : Nat) (k : Int), i ≤ F.length ∧ iv = .int .i64 (i : Int) ∧ nv = .int .i64 k ∧ 0 ≤ k ∧ k ≤ 64 * i ∧ Ex W wr ∧ badF g F.length (k + 1) (F.drop i) = badF g F.length 1 F) (fun _ iv _ => F.length - (intOf iv).toNat)
      case atStart => exact ⟨0, 0, by omega, rfl, rfl, by omega, by omega, Ex.refl _, rfl⟩
      case round =>
        obtain ⟨i, k, hi, rfl, rfl, hk1, hk2, hx, hbd⟩ := hrel
        have X := Lib.hid hx
        have BD := Lib.hid hbd
        clear hx hbd x0 x1
        by_cases hlt : i < F.length
        · have hlt' : (i : Int) < (F.length : Int) := by omega
          obtain ⟨l, hll⟩ := get_some hlt
          obtain ⟨gb, ob, a', cap', rfl, -, hcap, hgb, hc, hl, hI⟩ := (P0.out.ex X.out).at2 hll
          have HL := Lib.hid hlt
          have HLL := Lib.hid hll
          have HI := Lib.hid hI
          obtain ⟨hs1, hs2⟩ := SZ.out i l hll
          have BD2 : Hid (thenF g F.length (F.drop (i + 1)) (badL g F.length l.length (k + 1) l) = badF g F.length 1 F) := Lib.hid (by
            rw [← BD.out, badF_drop2 hll])
          have b0 := B0.out.ex X.out
          have x0 : wr.cell? ⟨w.heap.size, 0, none⟩ = some (.int .i64 g) := b0.cell 0
          have x1 : wr.cell? ⟨w.heap.size, 1, none⟩ = some (.slice (some ⟨gb, ob, none⟩) F.length cap) := b0.cell 1
          clear hlt hll hI BD b0
          go_upto_region 12 with fail
          have HCC := Lib.hid hc
          clear hc x0 x1
          go_wp2_with fail
          go_loopw [4, 6] (fun nv jv wr2 => ∃ (j : Nat) (k2 : Int), j ≤ l.length ∧ jv = .int .i64 (j : Int) ∧ nv = .int .i64 k2 ∧ 0 ≤ k2 ∧ k2 ≤ k + j ∧ Ex wr wr2 ∧ badL g F.length l.length (k2 + 1) (l.drop j) = badL g F.length l.length (k + 1) l) (fun _ jv _ => l.length - (intOf jv).toNat)
          case atStart => exact ⟨0, k, by omega, rfl, rfl, hk1, by omega, Ex.refl _, rfl⟩
          case round =>
            obtain ⟨j, k2, hj, rfl, rfl, hk3, hk4, hx, hbd⟩ := hrel
            have X2 := Lib.hid hx
            have BL := Lib.hid hbd
            clear hx hbd
            have b1 := B0.out.ex (X.out.trans X2.out)
            have x0 : wr.cell? ⟨w.heap.size, 0, none⟩ = some (.int .i64 g) := b1.cell 0
            have x1 : wr.cell? ⟨w.heap.size, 1, none⟩ = some (.slice (some ⟨gb, ob, none⟩) F.length cap) := b1.cell 1
            have hc := cell_later X2.out HCC.out
            by_cases hlt2 : j < l.length
            · have hlt2' : (j : Int) < (l.length : Int) := by omega
              obtain ⟨x, hx⟩ := get_some hlt2
              obtain ⟨ib, io, rfl, hib, z0, z1, z2, z3⟩ := (HI.out.ex X2.out).at2 hx
              have q1 : l.length ≤ cap' := hl
              have HX := Lib.hid hx
              have HJ2 := Lib.hid hlt2
              have W5 : Hid (∀ U, Calls Tryz.prog 15 #[.agg #[.int .i64 x.1, .int .i64 x.2.1, .int .i64 x.2.2.1, .int .i64 x.2.2.2], .int .i64 g, .int .i64 (F.length : Int), .int .i64 (l.length : Int)] U fun e w' => e = .returned (.int .i64 (wrongI g F.length l.length x)) ∧ Ex U w') := Lib.hid (fun U => rwrong_any U x _ _ _)
              have BL2 := Lib.hid (BL.out.symm.trans (badL_drop2 hx))
              go_upto_region 15 with fail
              have o0 : ∀ o : Out wr, o.w.cell? ⟨w.heap.size, 0, none⟩ = some (.int .i64 g) := fun o => cell_later o.2 x0
              have o1 : ∀ o : Out wr, o.w.cell? ⟨w.heap.size, 1, none⟩ = some (.slice (some ⟨gb, ob, none⟩) F.length cap) := fun o => cell_later o.2 x1
              have o2 : ∀ o : Out wr, o.w.cell? ⟨gb, ob + i, none⟩ = some (.slice (some ⟨ib, io, none⟩) l.length cap') := fun o => cell_later o.2 hc
              obtain ⟨y0, y1, y2, y3⟩ := x
              dsimp only at z0 z1 z2 z3
              have o3 : ∀ o : Out wr, o.w.cell? ⟨ib, io + j * 4, none⟩ = some (.int .i64 y0) := fun o => cell_later o.2 z0
              have o4 : ∀ o : Out wr, o.w.cell? ⟨ib, io + j * 4 + 1, none⟩ = some (.int .i64 y1) := fun o => cell_later o.2 z1
              have o5 : ∀ o : Out wr, o.w.cell? ⟨ib, io + j * 4 + 2, none⟩ = some (.int .i64 y2) := fun o => cell_later o.2 z2
              have o6 : ∀ o : Out wr, o.w.cell? ⟨ib, io + j * 4 + 3, none⟩ = some (.int .i64 y3) := fun o => cell_later o.2 z3
              clear hx b1 hlt2 BL x0 x1 hc z0 z1 z2 z3
              have WO : Hid (∀ o : Out wr, Calls Tryz.prog 15 #[.agg #[.int .i64 y0, .int .i64 y1, .int .i64 y2, .int .i64 y3], .int .i64 g, .int .i64 (F.length : Int), .int .i64 (l.length : Int)] o.w fun e w' => e = .returned (.int .i64 (wrongI g F.length l.length (y0, y1, y2, y3))) ∧ Ex o.w w') := Lib.hid (fun o => W5.out _)
              obtain ⟨rr, hrr⟩ : ∃ r, wrongI g F.length l.length (y0, y1, y2, y3) = r := ⟨_, rfl⟩
              rw [hrr] at WO
              have HRR := Lib.hid hrr
              clear hrr W5
              refine wp_region_ex (by kernel_rfl) (by kernel_rfl) ?_
              repeat (go_big_quiet_step ((go_at_call 15; exact quiet_ex (WO.out _))))
              refine wpQuiet_nil ?_
              rintro w5 ⟨⟨w6, hx5⟩, rfl⟩
              have X3 := Lib.hid (X2.out.trans hx5)
              clear hx5 o0 o1 o2 o3 o4 o5 o6
              by_cases hr1 : 0 ≤ rr
              · have e : r = 2 + k2 := by
                  rw [HB.out, ← BD2.out, BL2.out, HRR.out, if_pos hr1]
                  show k2 + 1 + 1 = 2 + k2
                  omega
                have HE := Lib.hid e
                clear e
                go_wp2_with fail
                go_ret
                exact ⟨ret_int HE.out.symm, E0.out.trans (X.out.trans X3.out)⟩
              · have BL3 : Hid (badL g F.length l.length (k2 + 1 + 1) (l.drop (j + 1)) = badL g F.length l.length (k + 1) l) := Lib.hid (by rw [BL2.out, HRR.out, if_neg hr1])
                have hr1' : rr < 0 := by omega
                clear hr1
                go_wp2_with fail
                go_roundw
                case rel => exact ⟨j + 1, k2 + 1, by have := HJ2.out; omega, by go_num, rfl, by omega, by omega, X3.out, BL3.out⟩
                case measure => simp [intOf]; have := HJ2.out; omega
            · have hj3 : (l.length : Int) ≤ (j : Int) := by omega
              have hfin : badF g F.length (k2 + 1) (F.drop (i + 1)) = badF g F.length 1 F := by
                rw [← BD2.out, ← BL.out, show l.drop j = [] from List.drop_eq_nil_of_le (by omega)]
                rfl
              have HFIN := Lib.hid hfin
              clear hfin hlt2 BL b1
              go_wp2_with fail
              go_roundw
              case rel => exact ⟨i + 1, k2, by have := HL.out; omega, by go_num, rfl, by omega, by omega, X.out.trans X2.out, HFIN.out⟩
              case measure => simp [intOf]; have := HL.out; omega
        · have hlt' : (F.length : Int) ≤ (i : Int) := by omega
          have b0 := B0.out.ex X.out
          have x1 : wr.cell? ⟨w.heap.size, 1, none⟩ = some (.slice fa F.length cap) := b0.cell 1
          have e : r = 0 := by
            rw [HB.out, ← BD.out, List.drop_eq_nil_of_le (by omega)]
            rfl
          subst e
          clear hlt b0
          go_wp2_with fail
          go_ret
          exact ⟨rfl, E0.out.trans X.out⟩

end Go.Proofs.YtmlobpapjfkbmaaGreat.C15

/- Great. -/
namespace Go.Proofs.YtmlobpapjfkbmaaGreat.C15
open Go.RowKit
set_option linter.unusedVariables false
set_option maxRecDepth 20000
set_option linter.unusedSimpArgs false

def SomeBool (e : Ending) : Prop := ∃ t : Bool, e = .returned (.bool t)
theorem some_bool (t : Bool) : SomeBool (.returned (.bool t)) := ⟨t, rfl⟩

set_option maxRecDepth 20000 in
set_option maxHeartbeats 3200000 in
theorem great_any {w : World} {g : Int} {fa : Value} {F : List (List I4)} (h : RdP w fa F) (hF : F.length ≤ maxLen) :
    Calls Tryz.prog 4 #[.agg #[.int .i64 g, fa]] w fun e w' => SomeBool e ∧ Ex w w' := by
  obtain ⟨aa, ca, rfl⟩ := h.val
  have HA := Lib.hid h
  unfold maxLen at hF
  clear h
  go_enter Tryz.func4, Tryz.ntmps4
  go_upto_region 1 with fail
  have e0 := Ex.made w (.cells #[.int .i64 g, .slice aa F.length ca] 24)
  have b0 := Box.fresh w #[.int .i64 g, .slice aa F.length ca] 24
  obtain ⟨W, hW⟩ : ∃ W, W = w.alloc (.cells #[.int .i64 g, .slice aa F.length ca] 24) := ⟨_, rfl⟩
  rw [← hW] at e0 b0 ⊢
  have E0 := Lib.hid e0
  have x1 : W.cell? ⟨w.heap.size, 1, none⟩ = some (.slice aa F.length ca) := b0.cell 1
  clear hW e0 b0
  go_wp2_with fail
  go_loop [3, 4] (fun nv iv => ∃ (i : Nat) (n : Int), i ≤ F.length ∧ iv = .int .i64 (i : Int) ∧ nv = .int .i64 n) (fun _ iv => F.length - (intOf iv).toNat)
  case atStart => exact ⟨0, _, by omega, rfl, rfl⟩
  case round =>
    obtain ⟨i, n, hi, rfl, rfl⟩ := hrel
    by_cases hlt : i < F.length
    · have hlt' : (i : Int) < (F.length : Int) := by omega
      obtain ⟨l, hll⟩ := get_some hlt
      obtain ⟨ga, oa, pa, qa, rfl, -, ha1, -, hca, ha2, hIa⟩ := (HA.out.ex E0.out).at2 hll
      have HL := Lib.hid hlt
      have r1 : F.length ≤ ca := ha1
      clear hlt hll hIa
      go_wp2_with fail
      go_round
      case rel => exact ⟨i + 1, _, by have := HL.out; omega, by go_num, rfl⟩
      case measure => simp [intOf]; have := HL.out; omega
    · have hlt' : (F.length : Int) ≤ (i : Int) := by omega
      clear hlt
      go_wp2_with fail
      go_ret
      exact ⟨some_bool _, E0.out⟩

end Go.Proofs.YtmlobpapjfkbmaaGreat.C15

/- The document's model in memory. -/
namespace Go.Proofs.YtmlobpapjfkbmaaGreat
open Go.RowKit
set_option linter.unusedVariables false
set_option maxRecDepth 20000

/-- Where its parts lie. -/
structure RA where
  gv : Value
  Gv : Value
  lv : Value
  tv : Value
  gb : Nat → Nat
  sk : Nat → Nat
  ov : Nat → Value
  wv : Nat → Value
  gn : Int
  fv : Value
  pb : Nat
def rgcells (s : Nat) (x : GS) (sk : Nat) : Array Value := #[.int .i64 (s : Nat), .int .i64 (x.f : Nat), .int .i64 (x.pc : Nat), .int .i64 (x.count : Nat), .slice (some ⟨sk, 0, none⟩) 16 16]
def rcells (A : RA) (clock : Nat) : Array Value := (.int .i64 A.gn :: A.fv :: A.gv :: A.Gv :: A.lv :: A.tv :: ((List.range 32).map A.wv ++ [.int .i64 (clock : Nat)])).toArray
/-- Timers that can be read off a slice. -/
def Tv (w : World) (v : Value) (S : List T13.T3) : Prop := (v = .slice none 0 0 ∧ S = []) ∨ ∃ g off cap, v = .slice (some ⟨g, off, none⟩) S.length cap ∧ S.length ≤ cap ∧ g < w.heap.size ∧ T13.Rd w g off S
theorem Tv.chg {w w' : World} {v : Value} {S : List T13.T3} {P : Nat → Prop} (h : Tv w v S) (hP : ∀ b, v.ownBlock = some b → ¬ P b) (c : Chg P w w') : Tv w' v S := by
  rcases h with h | ⟨g, off, cap, rfl, h2, h3, h4⟩
  · exact .inl h
  · exact .inr ⟨g, off, cap, rfl, h2, Nat.lt_of_lt_of_le h3 c.size, h4.chg h3 (hP g rfl) c⟩
theorem Rn.chg {w w' : World} {v : Value} {l : List Nat} {P : Nat → Prop} (h : Rn w v l) (hP : ∀ b, v.ownBlock = some b → ¬ P b) (c : Chg P w w') : Rn w' v l := by
  obtain ⟨a, cap, rfl, h1, h2, h3⟩ := h
  refine ⟨a, cap, rfl, h1, h2, fun j hj => ?_⟩
  obtain ⟨g, off, rfl, hg, hc⟩ := h3 j hj
  have hb := c.block g hg (hP g rfl)
  refine ⟨g, off, rfl, Nat.lt_of_lt_of_le hg c.size, ?_⟩
  rw [World.cell?_of_block (w := w) hb]; exact hc

structure Rf (w : World) (A : RA) (t : Nat → Tg) (xb : Nat) (F : Fns) (m : MS) : Prop where
  box : PBox w t xb (rcells A m.clock) 48 (1, 0)
  sl : m.st.length = m.gs.length
  grow : PRow w t A.gv 75 m.gs.length (ptrs A.gb m.gs.length) (4, 0)
  gor : ∀ i, i < m.gs.length → PBox w t (A.gb i) (rgcells (m.st.getD i 0) (m.at i) (A.sk i)) 74 (10, i)
  stk : ∀ i, i < m.gs.length → PBox w t (A.sk i) (S12.ints (m.at i).stack).toArray 3 (13, i)
  glob : PRow w t A.Gv 3 m.globals.length (S12.ints m.globals) (5, 0)
  slr : PRow w t A.lv 37 (m.slots.length - 1) ((List.range (m.slots.length - 1)).map (fun i => A.ov (i + 1))) (6, 0)
  slot : ∀ i, 1 ≤ i → i < m.slots.length → PRow w t (A.ov i) 3 (m.obj i).length (S12.ints (m.obj i)) (11, i)
  tm : Tv w A.tv m.sleep
  tmt : ∀ b, A.tv.ownBlock = some b → t b = (8, 0)
  wait : ∀ i, i < 32 → Rn w (A.wv i) (m.wat i)
  watt : ∀ i, i < 32 → ∀ b, (A.wv i).ownBlock = some b → t b = (12, i)
  wlen : m.wait.length = 32
  prog : ∀ W, Chg (fun i => (t i).1 ≠ 0 ∨ A.pb ≤ i) w W → C15.RdP W A.fv F
theorem Rf.prog_next {w w' : World} {A : RA} {t : Nat → Tg} {xb : Nat} {F : Fns} {m : MS} (h : Rf w A t xb F m) {P : Nat → Prop} (c : Chg P w w') (hP : ∀ i, P i → (t i).1 ≠ 0 ∨ A.pb ≤ i) : ∀ W, Chg (fun i => (t i).1 ≠ 0 ∨ A.pb ≤ i) w' W → C15.RdP W A.fv F :=
  fun W hW => h.prog W ((c.weak (fun i _ hi => hP i hi)).trans hW (fun _ _ h => h))

/-- Nothing of it has turned. -/
theorem Rf.ex {w w' : World} {A : RA} {t : Nat → Tg} {xb : Nat} {F : Fns} {m : MS} (h : Rf w A t xb F m) {P : Nat → Prop}  (c : Chg P w w') (hP : Lo t A.pb [] P) : Rf w' A t xb F m := by
  have hP0 : ∀ i, P i → (t i).1 ≠ 0 ∨ A.pb ≤ i := fun i hi => by
    rcases hP i hi with this | ⟨-, h2⟩
    · left; revert this; generalize t i = k; intro this; rcases k with ⟨k1, k2⟩; simp at this ⊢ <;> omega
    · exact .inr h2
  exact {
    box := h.box.keep c (tn (by simp) hP h.box.tag)
    sl := h.sl
    grow := h.grow.keep c (fun b hb => tn (by simp) hP hb)
    gor := fun i hi => (h.gor i hi).keep c (tn (by simp) hP (h.gor i hi).tag)
    stk := fun i hi => (h.stk i hi).keep c (tn (by simp) hP (h.stk i hi).tag)
    glob := h.glob.keep c (fun b hb => tn (by simp) hP hb)
    slr := h.slr.keep c (fun b hb => tn (by simp) hP hb)
    slot := fun i h1 hi => (h.slot i h1 hi).keep c (fun b hb => tn (by simp) hP hb)
    tm := h.tm.chg (fun b hb => tn (by simp) hP (h.tmt b hb)) c
    tmt := h.tmt
    wait := fun i hi => (h.wait i hi).chg (fun b hb => tn (by simp) hP (h.watt i hi b hb)) c
    watt := h.watt
    wlen := h.wlen
    prog := h.prog_next c hP0
  }

/-- A goroutine is written. -/
theorem Rf.gput {w w' : World} {A : RA} {t : Nat → Tg} {xb : Nat} {F : Fns} {m : MS} (h : Rf w A t xb F m) {P : Nat → Prop} (g s : Nat) (x : GS) (hg : Box w' (A.gb g) (rgcells s x (A.sk g)) 74) (hs : Box w' (A.sk g) (S12.ints x.stack).toArray 3) (c : Chg P w w') (hP : Lo t A.pb [(10, g), (13, g)] P) : Rf w' A t xb F { m.put g x with st := m.st.set g s } := by
  have hP0 : ∀ i, P i → (t i).1 ≠ 0 ∨ A.pb ≤ i := fun i hi => by
    rcases hP i hi with this | ⟨-, h2⟩
    · left; revert this; generalize t i = k; intro this; rcases k with ⟨k1, k2⟩; simp at this ⊢ <;> omega
    · exact .inr h2
  exact {
    box := h.box.keep c (tn (by simp) hP h.box.tag)
    sl := by
      show (m.st.set g s).length = (m.gs.set g x).length
      rw [List.length_set, List.length_set]; exact h.sl
    grow := by
      have e : (m.gs.set g x).length = m.gs.length := by simp
      show PRow w' t A.gv _ (m.gs.set g x).length (ptrs A.gb (m.gs.set g x).length) _
      rw [e]
      exact h.grow.keep c (fun b hb => tn (by simp) hP hb)
    gor := fun i hi => by
      have hi : i < m.gs.length := by simpa [MS.put] using hi
      show PBox w' t (A.gb i) (rgcells ((m.st.set g s).getD i 0) ((m.put g x).at i) (A.sk i)) _ _
      rw [at_set]
      by_cases e : g = i
      · subst e; rw [if_pos ⟨rfl, hi⟩]
        have e2 : (m.st.set g s).getD g 0 = s := by rw [List.getD_eq_getElem?_getD, List.getElem?_set]; simp [h.sl, hi]
        rw [e2]; exact ⟨hg, (h.gor g hi).tag⟩
      · rw [if_neg (fun h => e h.1)]
        have e2 : (m.st.set g s).getD i 0 = m.st.getD i 0 := by rw [List.getD_eq_getElem?_getD, List.getElem?_set, if_neg e, ← List.getD_eq_getElem?_getD]
        rw [e2]; exact (h.gor i hi).keep c (tn (by simp; omega) hP (h.gor i hi).tag)
    stk := fun i hi => by
      have hi : i < m.gs.length := by simpa [MS.put] using hi
      show PBox w' t (A.sk i) (S12.ints ((m.put g x).at i).stack).toArray _ _
      rw [at_set]
      by_cases e : g = i
      · subst e; rw [if_pos ⟨rfl, hi⟩]; exact ⟨hs, (h.stk g hi).tag⟩
      · rw [if_neg (fun h => e h.1)]; exact (h.stk i hi).keep c (tn (by simp; omega) hP (h.stk i hi).tag)
    glob := h.glob.keep c (fun b hb => tn (by simp) hP hb)
    slr := h.slr.keep c (fun b hb => tn (by simp) hP hb)
    slot := fun i h1 hi => (h.slot i h1 hi).keep c (fun b hb => tn (by simp) hP hb)
    tm := h.tm.chg (fun b hb => tn (by simp) hP (h.tmt b hb)) c
    tmt := h.tmt
    wait := fun i hi => (h.wait i hi).chg (fun b hb => tn (by simp) hP (h.watt i hi b hb)) c
    watt := h.watt
    wlen := h.wlen
    prog := h.prog_next c hP0
  }

/-- The clock is written. -/
theorem Rf.tick {w w' : World} {A : RA} {t : Nat → Tg} {xb : Nat} {F : Fns} {m : MS} (h : Rf w A t xb F m) {P : Nat → Prop} (k : Nat) (hb : Box w' xb (rcells A k) 48) (c : Chg P w w') (hP : Lo t A.pb [(1, 0)] P) : Rf w' A t xb F { m with clock := k } := by
  have hP0 : ∀ i, P i → (t i).1 ≠ 0 ∨ A.pb ≤ i := fun i hi => by
    rcases hP i hi with this | ⟨-, h2⟩
    · left; revert this; generalize t i = k; intro this; rcases k with ⟨k1, k2⟩; simp at this ⊢ <;> omega
    · exact .inr h2
  exact {
    box := ⟨hb, h.box.tag⟩
    sl := h.sl
    grow := h.grow.keep c (fun b hb => tn (by simp) hP hb)
    gor := fun i hi => (h.gor i hi).keep c (tn (by simp) hP (h.gor i hi).tag)
    stk := fun i hi => (h.stk i hi).keep c (tn (by simp) hP (h.stk i hi).tag)
    glob := h.glob.keep c (fun b hb => tn (by simp) hP hb)
    slr := h.slr.keep c (fun b hb => tn (by simp) hP hb)
    slot := fun i h1 hi => (h.slot i h1 hi).keep c (fun b hb => tn (by simp) hP hb)
    tm := h.tm.chg (fun b hb => tn (by simp) hP (h.tmt b hb)) c
    tmt := h.tmt
    wait := fun i hi => (h.wait i hi).chg (fun b hb => tn (by simp) hP (h.watt i hi b hb)) c
    watt := h.watt
    wlen := h.wlen
    prog := h.prog_next c hP0
  }

/-- The globals are written. -/
theorem Rf.globs {w w' : World} {A : RA} {t : Nat → Tg} {xb : Nat} {F : Fns} {m : MS} (h : Rf w A t xb F m) {P : Nat → Prop} (l : List Nat) (hg : w'.ownsRow 0 3 1 A.Gv l.length (S12.ints l)) (c : Chg P w w') (hP : Lo t A.pb [(5, 0)] P) : Rf w' A t xb F { m with globals := l } := by
  have hP0 : ∀ i, P i → (t i).1 ≠ 0 ∨ A.pb ≤ i := fun i hi => by
    rcases hP i hi with this | ⟨-, h2⟩
    · left; revert this; generalize t i = k; intro this; rcases k with ⟨k1, k2⟩; simp at this ⊢ <;> omega
    · exact .inr h2
  exact {
    box := h.box.keep c (tn (by simp) hP h.box.tag)
    sl := h.sl
    grow := h.grow.keep c (fun b hb => tn (by simp) hP hb)
    gor := fun i hi => (h.gor i hi).keep c (tn (by simp) hP (h.gor i hi).tag)
    stk := fun i hi => (h.stk i hi).keep c (tn (by simp) hP (h.stk i hi).tag)
    glob := ⟨hg, h.glob.tag⟩
    slr := h.slr.keep c (fun b hb => tn (by simp) hP hb)
    slot := fun i h1 hi => (h.slot i h1 hi).keep c (fun b hb => tn (by simp) hP hb)
    tm := h.tm.chg (fun b hb => tn (by simp) hP (h.tmt b hb)) c
    tmt := h.tmt
    wait := fun i hi => (h.wait i hi).chg (fun b hb => tn (by simp) hP (h.watt i hi b hb)) c
    watt := h.watt
    wlen := h.wlen
    prog := h.prog_next c hP0
  }

/-- An object's slots are written. -/
theorem Rf.oput {w w' : World} {A : RA} {t : Nat → Tg} {xb : Nat} {F : Fns} {m : MS} (h : Rf w A t xb F m) {P : Nat → Prop} (j : Nat) (l : List Nat) (ho : w'.ownsRow 0 3 1 (A.ov j) l.length (S12.ints l)) (c : Chg P w w') (hP : Lo t A.pb [(11, j)] P) : Rf w' A t xb F { m with slots := m.slots.set j l } := by
  have hP0 : ∀ i, P i → (t i).1 ≠ 0 ∨ A.pb ≤ i := fun i hi => by
    rcases hP i hi with this | ⟨-, h2⟩
    · left; revert this; generalize t i = k; intro this; rcases k with ⟨k1, k2⟩; simp at this ⊢ <;> omega
    · exact .inr h2
  exact {
    box := h.box.keep c (tn (by simp) hP h.box.tag)
    sl := h.sl
    grow := h.grow.keep c (fun b hb => tn (by simp) hP hb)
    gor := fun i hi => (h.gor i hi).keep c (tn (by simp) hP (h.gor i hi).tag)
    stk := fun i hi => (h.stk i hi).keep c (tn (by simp) hP (h.stk i hi).tag)
    glob := h.glob.keep c (fun b hb => tn (by simp) hP hb)
    slr := by
      have e : (m.slots.set j l).length = m.slots.length := by simp
      show PRow w' t A.lv _ ((m.slots.set j l).length - 1) ((List.range ((m.slots.set j l).length - 1)).map _) _
      rw [e]
      exact h.slr.keep c (fun b hb => tn (by simp) hP hb)
    slot := fun i h1 hi => by
      have hi : i < m.slots.length := by simpa using hi
      by_cases e : j = i
      · subst e
        have e2 : MS.obj { m with slots := m.slots.set j l } j = l := by simp [MS.obj, hi]
        rw [e2]; exact ⟨ho, (h.slot j h1 hi).tag⟩
      · have e2 : MS.obj { m with slots := m.slots.set j l } i = m.obj i := by simp [MS.obj, e]
        rw [e2]; exact (h.slot i h1 hi).keep c (fun b hb => tn (by simp; omega) hP hb)
    tm := h.tm.chg (fun b hb => tn (by simp) hP (h.tmt b hb)) c
    tmt := h.tmt
    wait := fun i hi => (h.wait i hi).chg (fun b hb => tn (by simp) hP (h.watt i hi b hb)) c
    watt := h.watt
    wlen := h.wlen
    prog := h.prog_next c hP0
  }

/-- An object more. -/
theorem Rf.onew {w w' : World} {A : RA} {t : Nat → Tg} {xb : Nat} {F : Fns} {m : MS} (h : Rf w A t xb F m) {P : Nat → Prop} (lv o : Value) (l : List Nat) (h0 : 1 ≤ m.slots.length) (hb : Box w' xb (rcells { A with lv := lv } m.clock) 48) (hr : PRow w' t lv 37 m.slots.length (((List.range (m.slots.length - 1)).map (fun i => A.ov (i + 1))) ++ [o]) (6, 0)) (ho : PRow w' t o 3 l.length (S12.ints l) (11, m.slots.length)) (c : Chg P w w') (hP : Lo t A.pb [(1, 0), (6, 0)] P) : Rf w' { A with lv := lv, ov := fun i => if i = m.slots.length then o else A.ov i } t xb F { m with slots := m.slots ++ [l] } := by
  have hP0 : ∀ i, P i → (t i).1 ≠ 0 ∨ A.pb ≤ i := fun i hi => by
    rcases hP i hi with this | ⟨-, h2⟩
    · left; revert this; generalize t i = k; intro this; rcases k with ⟨k1, k2⟩; simp at this ⊢ <;> omega
    · exact .inr h2
  exact {
    box := ⟨hb, h.box.tag⟩
    sl := h.sl
    grow := h.grow.keep c (fun b hb => tn (by simp) hP hb)
    gor := fun i hi => (h.gor i hi).keep c (tn (by simp) hP (h.gor i hi).tag)
    stk := fun i hi => (h.stk i hi).keep c (tn (by simp) hP (h.stk i hi).tag)
    glob := h.glob.keep c (fun b hb => tn (by simp) hP hb)
    slr := by
      have e : (m.slots ++ [l]).length - 1 = (m.slots.length - 1) + 1 := by simp; omega
      show PRow w' t lv _ ((m.slots ++ [l]).length - 1) ((List.range ((m.slots ++ [l]).length - 1)).map _) _
      rw [e, List.range_succ, List.map_append]
      have e2 : (List.range (m.slots.length - 1)).map (fun i => if i + 1 = m.slots.length then o else A.ov (i + 1)) = (List.range (m.slots.length - 1)).map (fun i => A.ov (i + 1)) := List.map_congr_left (fun i hi => by have := List.mem_range.1 hi; simp [show i + 1 ≠ m.slots.length by omega])
      have e3 : m.slots.length - 1 + 1 = m.slots.length := by omega
      show PRow w' t lv _ _ ((List.range (m.slots.length - 1)).map (fun i => if i + 1 = m.slots.length then o else A.ov (i + 1)) ++ [if m.slots.length - 1 + 1 = m.slots.length then o else A.ov (m.slots.length - 1 + 1)]) _
      rw [e2, if_pos e3, e3]; exact hr
    slot := fun i h1 hi => by
      have hi : i < m.slots.length + 1 := by simpa using hi
      by_cases e : i = m.slots.length
      · subst e
        have e2 : MS.obj { m with slots := m.slots ++ [l] } m.slots.length = l := by simp [MS.obj]
        rw [e2]; simpa using ho
      · have e2 : MS.obj { m with slots := m.slots ++ [l] } i = m.obj i := by simp [MS.obj, List.getElem?_append, show i < m.slots.length by omega]
        rw [e2]
        simp only [if_neg e]
        exact (h.slot i h1 (by omega)).keep c (fun b hb => tn (by simp) hP hb)
    tm := h.tm.chg (fun b hb => tn (by simp) hP (h.tmt b hb)) c
    tmt := h.tmt
    wait := fun i hi => (h.wait i hi).chg (fun b hb => tn (by simp) hP (h.watt i hi b hb)) c
    watt := h.watt
    wlen := h.wlen
    prog := h.prog_next c hP0
  }

/-- A goroutine more. -/
theorem Rf.gnew {w w' : World} {A : RA} {t : Nat → Tg} {xb : Nat} {F : Fns} {m : MS} (h : Rf w A t xb F m) {P : Nat → Prop} (gv : Value) (b sk : Nat) (x : GS) (hb : Box w' xb (rcells { A with gv := gv } m.clock) 48) (hr : PRow w' t gv 75 (m.gs.length + 1) (ptrs A.gb m.gs.length ++ [.pointer (some ⟨b, 0, none⟩)]) (4, 0)) (hg : PBox w' t b (rgcells 1 x sk) 74 (10, m.gs.length)) (hs : PBox w' t sk (S12.ints x.stack).toArray 3 (13, m.gs.length)) (c : Chg P w w') (hP : Lo t A.pb [(1, 0), (4, 0)] P) : Rf w' { A with gv := gv, gb := fun i => if i = m.gs.length then b else A.gb i, sk := fun i => if i = m.gs.length then sk else A.sk i } t xb F { m with gs := m.gs ++ [x], st := m.st ++ [1] } := by
  have hP0 : ∀ i, P i → (t i).1 ≠ 0 ∨ A.pb ≤ i := fun i hi => by
    rcases hP i hi with this | ⟨-, h2⟩
    · left; revert this; generalize t i = k; intro this; rcases k with ⟨k1, k2⟩; simp at this ⊢ <;> omega
    · exact .inr h2
  exact {
    box := ⟨hb, h.box.tag⟩
    sl := by simp [h.sl]
    grow := by
      have e : (m.gs ++ [x]).length = m.gs.length + 1 := by simp
      show PRow w' t gv _ (m.gs ++ [x]).length (ptrs _ (m.gs ++ [x]).length) _
      rw [e]
      have e2 : ptrs (fun i => if i = m.gs.length then b else A.gb i) (m.gs.length + 1) = ptrs A.gb m.gs.length ++ [.pointer (some ⟨b, 0, none⟩)] := by
        unfold ptrs
        rw [List.range_succ, List.map_append]
        congr 1
        · exact List.map_congr_left (fun i hi => by have := List.mem_range.1 hi; simp [show i ≠ m.gs.length by omega])
        · simp
      rw [e2]; exact hr
    gor := fun i hi => by
      have hi : i < m.gs.length + 1 := by simpa using hi
      by_cases e : i = m.gs.length
      · subst e
        have e2 : MS.at { m with gs := m.gs ++ [x], st := m.st ++ [1] } m.gs.length = x := by simp [MS.at]
        have e3 : (m.st ++ [1]).getD m.gs.length 0 = 1 := by rw [← h.sl]; simp
        show PBox w' t _ (rgcells ((m.st ++ [1]).getD m.gs.length 0) _ _) _ _
        rw [e2, e3]; simpa using hg
      · have e2 : MS.at { m with gs := m.gs ++ [x], st := m.st ++ [1] } i = m.at i := by simp [MS.at, List.getElem?_append, show i < m.gs.length by omega]
        have e3 : (m.st ++ [1]).getD i 0 = m.st.getD i 0 := by rw [List.getD_eq_getElem?_getD, List.getElem?_append_left (by rw [h.sl]; omega), ← List.getD_eq_getElem?_getD]
        show PBox w' t _ (rgcells ((m.st ++ [1]).getD i 0) _ _) _ _
        rw [e2, e3]
        simp only [if_neg e]
        exact (h.gor i (by omega)).keep c (tn (by simp) hP (h.gor i (by omega)).tag)
    stk := fun i hi => by
      have hi : i < m.gs.length + 1 := by simpa using hi
      by_cases e : i = m.gs.length
      · subst e
        have e2 : MS.at { m with gs := m.gs ++ [x], st := m.st ++ [1] } m.gs.length = x := by simp [MS.at]
        rw [e2]; simpa using hs
      · have e2 : MS.at { m with gs := m.gs ++ [x], st := m.st ++ [1] } i = m.at i := by simp [MS.at, List.getElem?_append, show i < m.gs.length by omega]
        rw [e2]
        simp only [if_neg e]
        exact (h.stk i (by omega)).keep c (tn (by simp) hP (h.stk i (by omega)).tag)
    glob := h.glob.keep c (fun b hb => tn (by simp) hP hb)
    slr := h.slr.keep c (fun b hb => tn (by simp) hP hb)
    slot := fun i h1 hi => (h.slot i h1 hi).keep c (fun b hb => tn (by simp) hP hb)
    tm := h.tm.chg (fun b hb => tn (by simp) hP (h.tmt b hb)) c
    tmt := h.tmt
    wait := fun i hi => (h.wait i hi).chg (fun b hb => tn (by simp) hP (h.watt i hi b hb)) c
    watt := h.watt
    wlen := h.wlen
    prog := h.prog_next c hP0
  }

/-- The sleepers are written. -/
theorem Rf.timers {w w' : World} {A : RA} {t : Nat → Tg} {xb : Nat} {F : Fns} {m : MS} (h : Rf w A t xb F m) {P : Nat → Prop} (tv : Value) (k : Nat) (S : List T13.T3) (hb : Box w' xb (rcells { A with tv := tv } m.clock) 48) (hs : Tv w' tv S) (ht : ∀ b, tv.ownBlock = some b → t b = (8, 0)) (c : Chg P w w') (hP : Lo t A.pb [(1, 0), (8, 0)] P) : Rf w' { A with tv := tv } t xb F { m with sleep := S, k := k } := by
  have hP0 : ∀ i, P i → (t i).1 ≠ 0 ∨ A.pb ≤ i := fun i hi => by
    rcases hP i hi with this | ⟨-, h2⟩
    · left; revert this; generalize t i = k; intro this; rcases k with ⟨k1, k2⟩; simp at this ⊢ <;> omega
    · exact .inr h2
  exact {
    box := ⟨hb, h.box.tag⟩
    sl := h.sl
    grow := h.grow.keep c (fun b hb => tn (by simp) hP hb)
    gor := fun i hi => (h.gor i hi).keep c (tn (by simp) hP (h.gor i hi).tag)
    stk := fun i hi => (h.stk i hi).keep c (tn (by simp) hP (h.stk i hi).tag)
    glob := h.glob.keep c (fun b hb => tn (by simp) hP hb)
    slr := h.slr.keep c (fun b hb => tn (by simp) hP hb)
    slot := fun i h1 hi => (h.slot i h1 hi).keep c (fun b hb => tn (by simp) hP hb)
    tm := hs
    tmt := ht
    wait := fun i hi => (h.wait i hi).chg (fun b hb => tn (by simp) hP (h.watt i hi b hb)) c
    watt := h.watt
    wlen := h.wlen
    prog := h.prog_next c hP0
  }

/-- Who waits at a place is written. -/
theorem Rf.wput {w w' : World} {A : RA} {t : Nat → Tg} {xb : Nat} {F : Fns} {m : MS} (h : Rf w A t xb F m) {P : Nat → Prop} (j : Nat) (v : Value) (l : List Nat) (hj : j < 32) (hb : Box w' xb (rcells { A with wv := fun i => if i = j then v else A.wv i } m.clock) 48) (hr : Rn w' v l) (ht : ∀ b, v.ownBlock = some b → t b = (12, j)) (c : Chg P w w') (hP : Lo t A.pb [(1, 0)] P) : Rf w' { A with wv := fun i => if i = j then v else A.wv i } t xb F { m with wait := m.wait.set j l } := by
  have hP0 : ∀ i, P i → (t i).1 ≠ 0 ∨ A.pb ≤ i := fun i hi => by
    rcases hP i hi with this | ⟨-, h2⟩
    · left; revert this; generalize t i = k; intro this; rcases k with ⟨k1, k2⟩; simp at this ⊢ <;> omega
    · exact .inr h2
  exact {
    box := ⟨hb, h.box.tag⟩
    sl := h.sl
    grow := h.grow.keep c (fun b hb => tn (by simp) hP hb)
    gor := fun i hi => (h.gor i hi).keep c (tn (by simp) hP (h.gor i hi).tag)
    stk := fun i hi => (h.stk i hi).keep c (tn (by simp) hP (h.stk i hi).tag)
    glob := h.glob.keep c (fun b hb => tn (by simp) hP hb)
    slr := h.slr.keep c (fun b hb => tn (by simp) hP hb)
    slot := fun i h1 hi => (h.slot i h1 hi).keep c (fun b hb => tn (by simp) hP hb)
    tm := h.tm.chg (fun b hb => tn (by simp) hP (h.tmt b hb)) c
    tmt := h.tmt
    wait := fun i hi => by
      by_cases e : i = j
      · subst e
        have e2 : MS.wat { m with wait := m.wait.set i l } i = l := by simp [MS.wat, h.wlen, hi]
        rw [e2]; simpa using hr
      · have e2 : MS.wat { m with wait := m.wait.set j l } i = m.wat i := by simp [MS.wat, show ¬ j = i from fun h => e h.symm]
        rw [e2]
        simp only [if_neg e]
        exact (h.wait i hi).chg (fun b hb => tn (by simp) hP (h.watt i hi b hb)) c
    watt := fun i hi b hb => by
      by_cases e : i = j
      · subst e; simp only [if_true] at hb; exact ht b hb
      · simp only [if_neg e] at hb; exact h.watt i hi b hb
    wlen := by simpa using h.wlen
    prog := h.prog_next c hP0
  }

/-- The tags of new blocks may be chosen. -/
theorem Rf.retag {w : World} {A : RA} {t t' : Nat → Tg} {xb : Nat} {F : Fns} {m : MS} (h : Rf w A t xb F m) (n : New w t) (hx : ∀ i, i < w.heap.size → t' i = t i) : Rf w A t' xb F m := by
  have k : ∀ {b : Nat} {τ : Tg}, τ.1 ≠ 0 → t b = τ → t' b = τ := fun {b τ} h0 hb => by
    rcases Nat.lt_or_ge b w.heap.size with hlt | hge
    · exact (hx b hlt).trans hb
    · have := n b hge; rw [hb] at this; exact absurd this h0
  exact {
    box := h.box.retag hx
    sl := h.sl
    grow := h.grow.retag hx
    gor := fun i hi => (h.gor i hi).retag hx
    stk := fun i hi => (h.stk i hi).retag hx
    glob := h.glob.retag hx
    slr := h.slr.retag hx
    slot := fun i h1 hi => (h.slot i h1 hi).retag hx
    tm := h.tm
    tmt := fun b hb => k (by simp) (h.tmt b hb)
    wait := h.wait
    watt := fun i hi b hb => k (by simp) (h.watt i hi b hb)
    wlen := h.wlen
    prog := fun W hW => h.prog W ⟨hW.os, hW.tape, hW.output, hW.size, fun i hi hf => hW.block i hi (by rw [hx i hi]; exact hf)⟩
  }

end Go.Proofs.YtmlobpapjfkbmaaGreat

/- The document's model, read: Next, Slots, Stuck. -/
namespace Go.Proofs.YtmlobpapjfkbmaaGreat
open Go.RowKit
set_option linter.unusedVariables false
set_option maxRecDepth 20000
set_option linter.unusedSimpArgs false

section
variable {w : World} {A : RA} {t : Nat → Tg} {xb : Nat} {F : Fns} {m : MS}
theorem Rf.exs {w' : World} (h : Rf w A t xb F m) (x : Ex w w') : Rf w' A t xb F m := h.ex (P := fun _ => False) (x.chg _) (fun _ h => h.elim)
theorem Rf.gvat (h : Rf w A t xb F m) {g : Nat} (hg : g < m.gs.length) : ∃ b cap, A.gv = .slice (some ⟨b, 0, none⟩) m.gs.length cap ∧ b < w.heap.size ∧ m.gs.length ≤ cap ∧ w.cell? ⟨b, g, none⟩ = some (.pointer (some ⟨A.gb g, 0, none⟩)) := by
  rcases row_shape h.grow.row with ⟨-, h2, -⟩ | ⟨b, cap, h1, -, h3, h4, -⟩
  · omega
  · have hr := h.grow.row
    rw [h1] at hr
    refine ⟨b, cap, h1, h3, h4, ?_⟩
    rw [hr.cellAt g (by omega)]
    simp [ptrs, hg]
theorem Rf.lvat (h : Rf w A t xb F m) {i : Nat} (h1 : 1 ≤ i) (hi : i < m.slots.length) : ∃ b cap, A.lv = .slice (some ⟨b, 0, none⟩) (m.slots.length - 1) cap ∧ b < w.heap.size ∧ m.slots.length - 1 ≤ cap ∧ w.cell? ⟨b, i - 1, none⟩ = some (A.ov i) := by
  rcases row_shape h.slr.row with ⟨-, h2, -⟩ | ⟨b, cap, h1', -, h3, h4, -⟩
  · omega
  · have hr := h.slr.row
    rw [h1'] at hr
    refine ⟨b, cap, h1', h3, h4, ?_⟩
    rw [hr.cellAt (i - 1) (by omega)]
    have : i - 1 < m.slots.length - 1 := by omega
    simp [this, show i - 1 + 1 = i by omega]
theorem Rf.rd (h : Rf w A t xb F m) : C15.RdP w A.fv F := h.prog w (Chg.refl _ _)

set_option maxHeartbeats 1600000 in
theorem rslots_in (h : Rf w A t xb F m) (hn : m.slots.length ≤ 100000) (id : Nat) (h1 : 1 ≤ id) (hid : id < m.slots.length) :
    Calls Tryz.prog 42 #[.pointer (some ⟨xb, 0, none⟩), .int .i64 (id : Nat)] w fun e w' => e = .returned (A.ov id) ∧ w = w' := by
  have c4 : w.cell? ⟨xb, 4, none⟩ = some A.lv := h.box.box.cell 4
  obtain ⟨lb, cap, hlv, llt, lcap, lc⟩ := h.lvat h1 hid
  rw [hlv] at c4
  obtain ⟨v, hv⟩ : ∃ v, A.ov id = v := ⟨_, rfl⟩
  rw [hv] at lc ⊢
  obtain ⟨sl, hsl⟩ : ∃ k, m.slots.length - 1 = k := ⟨_, rfl⟩
  rw [hsl] at c4 lcap
  obtain ⟨k, hk⟩ : ∃ k, id - 1 = k := ⟨_, rfl⟩
  rw [hk] at lc
  have ek : IntKind.i64.wrap ((id : Int) - 1) = (k : Int) := by rw [IntKind.wrap_i64]; omega
  have i0 : ¬ (id : Int) < 1 := by omega
  have i2 : ¬ (sl : Int) < (id : Int) := by omega
  have i3 : (0 : Int) ≤ (k : Int) := by omega
  have i4 : (k : Int) < (sl : Int) := by omega
  clear h hlv hv hsl hk
  go_enter Tryz.func42, Tryz.ntmps42
  go_wp2_with fail
  go_ret
  exact ⟨rfl, rfl⟩
set_option maxHeartbeats 1600000 in
theorem rslots_out (h : Rf w A t xb F m) (id : Int) (ho : id < 1 ∨ (1 ≤ id ∧ (m.slots.length : Int) ≤ id)) (h0 : 1 ≤ m.slots.length) :
    Calls Tryz.prog 42 #[.pointer (some ⟨xb, 0, none⟩), .int .i64 id] w fun e w' => e = .returned (.slice none 0 0) ∧ w = w' := by
  have c4 : w.cell? ⟨xb, 4, none⟩ = some A.lv := h.box.box.cell 4
  obtain ⟨a, c, hv⟩ := T13.row_val h.slr.row
  rw [hv] at c4
  obtain ⟨sl, hsl⟩ : ∃ k, m.slots.length - 1 = k := ⟨_, rfl⟩
  rw [hsl] at c4
  clear hv
  rcases ho with i0 | ⟨i0, i1⟩
  · clear h hsl
    go_enter Tryz.func42, Tryz.ntmps42
    go_wp2_with fail
    go_ret
    exact ⟨rfl, rfl⟩
  · have i2 : ¬ id < 1 := by omega
    have i3 : (sl : Int) < id := by omega
    clear h hsl i1 i0
    go_enter Tryz.func42, Tryz.ntmps42
    go_wp2_with fail
    go_ret
    exact ⟨rfl, rfl⟩

set_option maxHeartbeats 3200000 in
theorem rnext_ok (h : Rf w A t xb F m) (hn : m.gs.length ≤ 1024) {g : Nat} (hg : g < m.gs.length) (hs5 : m.st.getD g 0 ≠ 5) (hf : (m.at g).f < F.length) (hF : F.length ≤ 16) (hl : ∀ l ∈ F, l.length ≤ 64) (hpc : (m.at g).pc ≤ 1000) :
    Calls Tryz.prog 32 #[.pointer (some ⟨xb, 0, none⟩), .int .i64 (g : Nat)] w fun e w' => e = .returned (.tuple #[instV (instAt F (m.at g)), .bool true]) ∧ Ex w w' := by
  obtain ⟨rb, rc, hgv, rlt, rcap, rcell⟩ := h.gvat hg
  have c2 : w.cell? ⟨xb, 2, none⟩ = some A.gv := h.box.box.cell 2
  rw [hgv] at c2
  have c1 : w.cell? ⟨xb, 1, none⟩ = some A.fv := h.box.box.cell 1
  have hB := (h.gor g hg).box
  have g0 : w.cell? ⟨A.gb g, 0, none⟩ = some (.int .i64 (m.st.getD g 0 : Nat)) := by rw [hB.cell]; rfl
  have g1 : w.cell? ⟨A.gb g, 1, none⟩ = some (.int .i64 ((m.at g).f : Nat)) := by rw [hB.cell]; rfl
  have g2 : w.cell? ⟨A.gb g, 2, none⟩ = some (.int .i64 ((m.at g).pc : Nat)) := by rw [hB.cell]; rfl
  have glt := hB.lt
  have mlt := h.box.box.lt
  obtain ⟨fa, fc, hfv⟩ := h.rd.val
  have hrd := h.rd
  rw [hfv] at c1 hrd
  obtain ⟨l, hll⟩ : ∃ l, F[(m.at g).f]? = some l := ⟨F[(m.at g).f], by simp [hf]⟩
  have hlm : l.length ≤ 64 := hl l (List.mem_of_getElem? hll)
  obtain ⟨fg, fo, la, lc, rfl, -, fcap, flt, fcell, lcap, hri⟩ := hrd.at2 hll
  have hin : instAt F (m.at g) = l.getD (m.at g).pc (0, 0, 0, 0) := by unfold instAt; simp [hll]
  obtain ⟨gl, hgl⟩ : ∃ gl, m.gs.length = gl := ⟨_, rfl⟩
  rw [hgl] at c2 rcap hg hn
  obtain ⟨Fl, hFl⟩ : ∃ Fl, F.length = Fl := ⟨_, rfl⟩
  rw [hFl] at c1 fcap hf hF
  rw [hin]
  obtain ⟨f, hff⟩ : ∃ f, (m.at g).f = f := ⟨_, rfl⟩
  obtain ⟨pc, hpp⟩ : ∃ pc, (m.at g).pc = pc := ⟨_, rfl⟩
  obtain ⟨s, hs⟩ : ∃ s, m.st.getD g 0 = s := ⟨_, rfl⟩
  rw [hff] at g1 hf fcell
  rw [hpp] at g2 hpc ⊢
  rw [hs] at g0 hs5
  obtain ⟨gb, hgb⟩ : ∃ gb, A.gb g = gb := ⟨_, rfl⟩
  rw [hgb] at rcell g0 g1 g2 glt
  have i0 : ¬ (g : Int) < 0 := by omega
  have i00 : (0 : Int) ≤ (g : Int) := by omega
  have i1 : (g : Int) < (gl : Int) := by omega
  have i1b : ¬ (gl : Int) ≤ (g : Int) := by omega
  have i2 : (f : Int) < (Fl : Int) := by omega
  have d5 : ((s : Int) == 5) = false := by simp; omega
  have HRI := Lib.hid hri
  clear h hgv hs hB hfv hrd hll hin hgl hFl hff hpp hgb hri hl hs5
  by_cases hlt : pc < l.length
  · obtain ⟨ig, io, rfl, ilt, j0, j1, j2, j3⟩ := HRI.out.at pc hlt
    have hget : l.getD pc (0, 0, 0, 0) = l[pc] := by simp [hlt]
    rw [hget]
    obtain ⟨x, hx⟩ : ∃ x, l[pc] = x := ⟨_, rfl⟩
    rw [hx] at j0 j1 j2 j3 ⊢
    obtain ⟨x0, x1, x2, x3⟩ := x
    obtain ⟨ll, hlle⟩ : ∃ ll, l.length = ll := ⟨_, rfl⟩
    rw [hlle] at fcell lcap hlt hlm
    have i3 : (pc : Int) < (ll : Int) := by omega
    have i4 : ¬ (ll : Int) ≤ (pc : Int) := by omega
    unfold instV
    clear HRI hget hx hlle
    go_enter Tryz.func32, Tryz.ntmps32
    go_wp2_with fail
    go_quiet (fail)
    go_upto_region 6 with fail
    go_region
    go_wp2_with fail
    have e1 : Ex w (((w.alloc (.cells #[.int .i64 0, .int .i64 0, .int .i64 0, .int .i64 0] 58)).drewN nq).drew) := ((Ex.made _ _).trans (Ex.drawn _ _)).trans (Ex.drawn _ 1)
    obtain ⟨bz, ez⟩ := inst_box (w := w) e1 (((Box.fresh w #[.int .i64 0, .int .i64 0, .int .i64 0, .int .i64 0] 58).ex (Ex.drawn _ nq)).ex (Ex.drawn _ 1)) x0 x1 x2 x3
    have q0 := bz.cell 0
    have q1 := bz.cell 1
    have q2 := bz.cell 2
    have q3 := bz.cell 3
    simp only [List.getElem?_toArray, List.getElem?_cons_zero, List.getElem?_cons_succ] at q0 q1 q2 q3
    refine bodyPost_ret (v := .tuple #[.agg #[.int .i64 x0, .int .i64 x1, .int .i64 x2, .int .i64 x3], .bool true]) ?_ rfl ⟨rfl, ez⟩
    generalize (((((((w.alloc (.cells #[.int .i64 0, .int .i64 0, .int .i64 0, .int .i64 0] 58)).drewN nq).drew).setCell ⟨w.heap.size, 0, none⟩ (.int .i64 x0)).setCell ⟨w.heap.size, 1, none⟩ (.int .i64 x1)).setCell ⟨w.heap.size, 2, none⟩ (.int .i64 x2)).setCell ⟨w.heap.size, 3, none⟩ (.int .i64 x3)) = Z at q0 q1 q2 q3 ⊢
    simp [results, Tryz.results32, go_sem, q0, q1, q2, q3]
  · have hget : l.getD pc (0, 0, 0, 0) = (0, 0, 0, 0) := by simp [Nat.not_lt.1 hlt]
    rw [hget]
    obtain ⟨ll, hlle⟩ : ∃ ll, l.length = ll := ⟨_, rfl⟩
    rw [hlle] at fcell lcap hlt hlm
    have i3 : ¬ (pc : Int) < (ll : Int) := by omega
    have i4 : (ll : Int) ≤ (pc : Int) := by omega
    unfold instV
    clear HRI hget hlle
    go_enter Tryz.func32, Tryz.ntmps32
    go_wp2_with fail
    go_quiet (fail)
    go_wp2_with fail
    have e1 : Ex w ((w.alloc (.cells #[.int .i64 0, .int .i64 0, .int .i64 0, .int .i64 0] 58)).drewN nq) := (Ex.made _ _).trans (Ex.drawn _ _)
    obtain ⟨bz, ez⟩ := inst_box (w := w) e1 ((Box.fresh w #[.int .i64 0, .int .i64 0, .int .i64 0, .int .i64 0] 58).ex (Ex.drawn _ nq)) 0 0 0 0
    have q0 := bz.cell 0
    have q1 := bz.cell 1
    have q2 := bz.cell 2
    have q3 := bz.cell 3
    simp only [List.getElem?_toArray, List.getElem?_cons_zero, List.getElem?_cons_succ] at q0 q1 q2 q3
    refine bodyPost_ret (v := .tuple #[.agg #[.int .i64 0, .int .i64 0, .int .i64 0, .int .i64 0], .bool true]) ?_ rfl ⟨rfl, ez⟩
    generalize ((((((w.alloc (.cells #[.int .i64 0, .int .i64 0, .int .i64 0, .int .i64 0] 58)).drewN nq).setCell ⟨w.heap.size, 0, none⟩ (.int .i64 0)).setCell ⟨w.heap.size, 1, none⟩ (.int .i64 0)).setCell ⟨w.heap.size, 2, none⟩ (.int .i64 0)).setCell ⟨w.heap.size, 3, none⟩ (.int .i64 0)) = Z at q0 q1 q2 q3 ⊢
    simp [results, Tryz.results32, go_sem, q0, q1, q2, q3]
end

end Go.Proofs.YtmlobpapjfkbmaaGreat

/- The document's plain: an instruction of one goroutine alone. -/
namespace Go.Proofs.YtmlobpapjfkbmaaGreat
open Go.RowKit
set_option linter.unusedVariables false
set_option maxRecDepth 20000
set_option linter.unusedSimpArgs false

/-- A world in which the document's model is m', and what is told v, bad. -/
def REff (w : World) (A : RA) (t : Nat → Tg) (xb : Nat) (F : Fns) (cb : Nat) (cc : CmI) (m' : MS) (v : Int) (bad : Bool) (w' : World) : Prop :=
  ∃ A' t', Rf w' A' t' xb F m' ∧ New w' t' ∧ (∀ i, i < w.heap.size → t' i = t i) ∧ (A'.pb, A'.gb) = (A.pb, A.gb) ∧ Box w' cb (cc.cells v bad) 50 ∧ Chg (fun i => (t i).1 ≠ 0 ∨ i = cb) w w'
structure CbR (w : World) (A : RA) (t : Nat → Tg) (cb : Nat) (cc : CmI) (v : Int) : Prop where
  box : Box w cb (cc.cells v false) 50
  tag : (t cb).1 = 0
  pb : A.pb ≤ cb
theorem stk_set (l : List Nat) (i v : Nat) : (S12.ints l).toArray.setIfInBounds i (.int .i64 (v : Nat)) = (S12.ints (l.set i v)).toArray := by
  simp [S12.ints, List.map_set]
theorem stk_at (x : GS) (a : Nat) (ha : a < x.stack.length) : (S12.ints x.stack).toArray[a]? = some (.int .i64 (x.val a : Nat)) := by
  simp [S12.ints, GS.val, ha]
theorem st_same (m : MS) (g : Nat) : m.st.set g (m.st.getD g 0) = m.st := by
  apply List.ext_getElem?
  intro i
  rw [List.getElem?_set]
  by_cases e : g = i
  · subst e
    by_cases hg : g < m.st.length
    · rw [if_pos rfl, if_pos hg, List.getD_eq_getElem?_getD, List.getElem?_eq_getElem hg]; rfl
    · rw [if_pos rfl, if_neg hg, List.getElem?_eq_none (Nat.not_lt.1 hg)]
  · rw [if_neg e]
theorem reff_ex {w : World} {A : RA} {t : Nat → Tg} {xb : Nat} {F : Fns} {m : MS} {cb : Nat} {cc : CmI} {w' : World} {v : Int} (h : Rf w A t xb F m) (n : New w t) (hc : CbR w A t cb cc v) (k : Ex w w') : REff w A t xb F cb cc m v false w' :=
  ⟨A, t, h.exs k, n.le k.size, fun _ _ => rfl, rfl, hc.box.ex k, k.chg _⟩
theorem cb_rg {w : World} {A : RA} {t : Nat → Tg} {xb : Nat} {F : Fns} {m : MS} {cb : Nat} {cc : CmI} {v : Int} (h : Rf w A t xb F m) (hc : CbR w A t cb cc v) {g : Nat} (hg : g < m.gs.length) : A.gb g ≠ cb ∧ A.sk g ≠ cb ∧ A.gb g ≠ A.sk g ∧ xb ≠ cb := by
  have h1 := (h.gor g hg).tag
  have h2 := (h.stk g hg).tag
  have h3 := hc.tag
  have h4 := h.box.tag
  refine ⟨fun e => ?_, fun e => ?_, fun e => ?_, fun e => ?_⟩
  · rw [← e, h1] at h3; simp at h3
  · rw [← e, h2] at h3; simp at h3
  · rw [e, h2] at h1; simp at h1
  · rw [← e, h4] at h3; simp at h3
theorem reff_gv {w : World} {A : RA} {t : Nat → Tg} {xb : Nat} {F : Fns} {m : MS} {cb : Nat} {cc : CmI} {w' : World} {v v' : Int} {bad : Bool} (h : Rf w A t xb F m) (n : New w t) (hc : CbR w A t cb cc v) {g : Nat} (hg : g < m.gs.length) {x : GS}
    (k : Chg (fun i => i = A.gb g ∨ i = A.sk g ∨ i = cb) w w') (hb : Box w' (A.gb g) (rgcells (m.st.getD g 0) x (A.sk g)) 74) (hs : Box w' (A.sk g) (S12.ints x.stack).toArray 3) (hv : Box w' cb (cc.cells v' bad) 50) : REff w A t xb F cb cc (m.put g x) v' bad w' := by
  have tg := (h.gor g hg).tag
  have ts := (h.stk g hg).tag
  have R := h.gput g (m.st.getD g 0) x hb hs k (by
    rintro i (rfl | rfl | rfl)
    · left; rw [tg]; simp
    · left; rw [ts]; simp
    · exact .inr ⟨hc.tag, hc.pb⟩)
  have e : ({ m.put g x with st := m.st.set g (m.st.getD g 0) } : MS) = m.put g x := by rw [st_same]; rfl
  rw [e] at R
  refine ⟨A, t, R, n.le k.size, fun _ _ => rfl, rfl, hv, k.weak ?_⟩
  rintro i - (rfl | rfl | rfl)
  · left; rw [tg]; simp
  · left; rw [ts]; simp
  · exact .inr rfl
/-- A place of the stack is written. -/
theorem reff_top {w : World} {A : RA} {t : Nat → Tg} {xb : Nat} {F : Fns} {m : MS} {cb : Nat} {cc : CmI} {W w' : World} {v : Int} (h : Rf w A t xb F m) (n : New w t) (hc : CbR w A t cb cc v) {g : Nat} (hg : g < m.gs.length) (a v' : Nat)
    (y : Ex w W) (x : Ex (W.setCell ⟨A.sk g, a, none⟩ (.int .i64 (v' : Nat))) w') : REff w A t xb F cb cc (m.put g ((m.at g).top a v')) v false w' := by
  obtain ⟨n1, n2, n3, -⟩ := cb_rg h hc hg
  have k : Chg (fun i => i = A.sk g) w w' := ((y.chg _).trans (Chg.cell (F := fun i => i = A.sk g) W ⟨A.sk g, a, none⟩ _ rfl) (fun _ _ h => h)).ex x
  refine reff_gv h n hc hg (k.weak (fun _ _ h => .inr (.inl h))) ((h.gor g hg).box.chg k n3) ?_ (hc.box.chg k (fun e => n2 e.symm))
  have := (((h.stk g hg).box.ex y).put a (.int .i64 (v' : Nat))).ex x
  rw [stk_set] at this
  exact this
/-- The goroutine's block is written. -/
theorem reff_g {w : World} {A : RA} {t : Nat → Tg} {xb : Nat} {F : Fns} {m : MS} {cb : Nat} {cc : CmI} {w' : World} {v : Int} (h : Rf w A t xb F m) (n : New w t) (hc : CbR w A t cb cc v) {g : Nat} (hg : g < m.gs.length) {x : GS} (hx : x.stack = (m.at g).stack)
    (k : Chg (fun i => i = A.gb g) w w') (hb : Box w' (A.gb g) (rgcells (m.st.getD g 0) x (A.sk g)) 74) : REff w A t xb F cb cc (m.put g x) v false w' := by
  obtain ⟨n1, n2, n3, -⟩ := cb_rg h hc hg
  refine reff_gv h n hc hg (k.weak (fun _ _ h => .inl h)) hb ?_ (hc.box.chg k (fun e => n1 e.symm))
  rw [hx]
  exact (h.stk g hg).box.chg k (fun e => n3 e.symm)
theorem reff_pc {w : World} {A : RA} {t : Nat → Tg} {xb : Nat} {F : Fns} {m : MS} {cb : Nat} {cc : CmI} {W w' : World} {v : Int} (h : Rf w A t xb F m) (n : New w t) (hc : CbR w A t cb cc v) {g : Nat} (hg : g < m.gs.length) (p : Nat)
    (y : Ex w W) (x : Ex (W.setCell ⟨A.gb g, 2, none⟩ (.int .i64 (p : Nat))) w') : REff w A t xb F cb cc (m.put g { m.at g with pc := p }) v false w' :=
  reff_g h n hc hg rfl (((y.chg _).trans (Chg.cell (F := fun i => i = A.gb g) W ⟨A.gb g, 2, none⟩ _ rfl) (fun _ _ h => h)).ex x) ((((h.gor g hg).box.ex y).put 2 (.int .i64 (p : Nat))).ex x)
theorem reff_count {w : World} {A : RA} {t : Nat → Tg} {xb : Nat} {F : Fns} {m : MS} {cb : Nat} {cc : CmI} {W w' : World} {v : Int} (h : Rf w A t xb F m) (n : New w t) (hc : CbR w A t cb cc v) {g : Nat} (hg : g < m.gs.length) (p : Nat)
    (y : Ex w W) (x : Ex (W.setCell ⟨A.gb g, 3, none⟩ (.int .i64 (p : Nat))) w') : REff w A t xb F cb cc (m.put g { m.at g with count := p }) v false w' :=
  reff_g h n hc hg rfl (((y.chg _).trans (Chg.cell (F := fun i => i = A.gb g) W ⟨A.gb g, 3, none⟩ _ rfl) (fun _ _ h => h)).ex x) ((((h.gor g hg).box.ex y).put 3 (.int .i64 (p : Nat))).ex x)
theorem reff_val {w : World} {A : RA} {t : Nat → Tg} {xb : Nat} {F : Fns} {m : MS} {cb : Nat} {cc : CmI} {W w' : World} {v : Int} (h : Rf w A t xb F m) (n : New w t) (hc : CbR w A t cb cc v) (v' : Int)
    (y : Ex w W) (x : Ex (W.setCell ⟨cb, 4, none⟩ (.int .i64 v')) w') : REff w A t xb F cb cc m v' false w' := by
  have k : Chg (fun i => i = cb) w w' := ((y.chg _).trans (Chg.cell (F := fun i => i = cb) W ⟨cb, 4, none⟩ _ rfl) (fun _ _ h => h)).ex x
  exact ⟨A, t, h.ex k (fun i hi => .inr (by subst hi; exact ⟨hc.tag, hc.pb⟩)), n.le k.size, fun _ _ => rfl, rfl, ((hc.box.ex y).put 4 (.int .i64 v')).ex x, k.weak (fun _ _ h => .inr h)⟩
theorem reff_globs {w : World} {A : RA} {t : Nat → Tg} {xb : Nat} {F : Fns} {m : MS} {cb : Nat} {cc : CmI} {W w' : World} {v : Int} (h : Rf w A t xb F m) (n : New w t) (hc : CbR w A t cb cc v) {Gb cap : Nat} (hv : A.Gv = .slice (some ⟨Gb, 0, none⟩) m.globals.length cap) (a v' : Nat)
    (y : Ex w W) (x : Ex (W.setCell ⟨Gb, a, none⟩ (.int .i64 (v' : Nat))) w') : REff w A t xb F cb cc { m with globals := m.globals.set a v' } v false w' := by
  have tg : t Gb = (5, 0) := h.glob.tag Gb (by rw [hv]; rfl)
  have k : Chg (fun i => i = Gb) w w' := ((y.chg _).trans (Chg.cell (F := fun i => i = Gb) W ⟨Gb, a, none⟩ _ rfl) (fun _ _ h => h)).ex x
  have hr := row_chg (F := fun _ => False) h.glob.row (y.chg _) (fun _ _ h => h)
  rw [hv] at hr
  have r2 := row_chg (F := fun _ => False) (hr.stored a (.int .i64 (v' : Nat))).1 (x.chg _) (fun _ _ h => h)
  refine ⟨A, t, h.globs (m.globals.set a v') ?_ k ?_, n.le k.size, fun _ _ => rfl, rfl, hc.box.chg k ?_, k.weak ?_⟩
  · rw [hv, List.length_set, show S12.ints (m.globals.set a v') = (S12.ints m.globals).set a (.int .i64 (v' : Nat)) by simp [S12.ints, List.map_set]]
    exact r2
  · rintro i rfl; left; rw [tg]; simp
  · intro e; have := hc.tag; rw [e, tg] at this; simp at this
  · rintro i - rfl; left; rw [tg]; simp

set_option maxHeartbeats 12800000 in
theorem rplain_4 {w : World} {A : RA} {t : Nat → Tg} {xb : Nat} {F : Fns} {m : MS} (h : Rf w A t xb F m) (n : New w t) {cb : Nat} {cc : CmI} (hc : CbR w A t cb cc 0) {g : Nat} (hg : g < m.gs.length) (hn : m.gs.length ≤ 1024) (hl : (m.at g).stack.length = 16) (a b c : Nat) (ha : a < 16) (hb : b < 16) :
    Calls Tryz.prog 33 #[.pointer (some ⟨xb, 0, none⟩), .int .i64 (g : Nat), .agg #[.int .i64 4, .int .i64 (a : Nat), .int .i64 (b : Nat), .int .i64 (c : Nat)], .pointer (some ⟨cb, 0, none⟩)] w
      fun e w' => e = .returned (.bool true) ∧ REff w A t xb F cb cc (m.put g ((m.at g).top a ((m.at g).val b))) (0) false w' := by
  have H := Lib.hid h
  have N := Lib.hid n
  have HC := Lib.hid hc
  have HG := Lib.hid hg
  have hB := (h.gor g hg).box
  have hS := (h.stk g hg).box
  have HB := Lib.hid hB
  obtain ⟨rb, rc, hgv, rlt, rcap, rcell⟩ := h.gvat hg
  have c2 : w.cell? ⟨xb, 2, none⟩ = some A.gv := h.box.box.cell 2
  rw [hgv] at c2
  have g4 : w.cell? ⟨A.gb g, 4, none⟩ = some (.slice (some ⟨A.sk g, 0, none⟩) 16 16) := by rw [hB.cell]; rfl
  have v1 : w.cell? ⟨cb, 4, none⟩ = some (.int .i64 0) := hc.box.cell 4
  have v2 := hc.box.soft 4
  obtain ⟨n1, n2, n3, n4⟩ := cb_rg h hc hg
  have hlt := hB.lt
  have slt := hS.lt
  have clt := hc.box.lt
  have xlt := h.box.box.lt
  have m0 := fun k => h.box.box.cell k
  obtain ⟨gl, hgl⟩ : ∃ gl, m.gs.length = gl := ⟨_, rfl⟩
  rw [hgl] at c2 rcap hn
  have hg2 : g < gl := by omega
  have i1 : (g : Int) < (gl : Int) := by omega
  have i00 : (0 : Int) ≤ (g : Int) := by omega
  have ka : w.cell? ⟨A.sk g, a, none⟩ = some (.int .i64 ((m.at g).val a : Nat)) := (hS.cell a).trans (stk_at (m.at g) a (by omega))
  have fa := hS.soft a
  obtain ⟨va, hva⟩ : ∃ v, (m.at g).val a = v := ⟨_, rfl⟩
  rw [hva] at ka
  have HVa := Lib.hid hva
  have ia : (a : Int) < 16 := by omega
  have ja : (0 : Int) ≤ (a : Int) := by omega
  have kb : w.cell? ⟨A.sk g, b, none⟩ = some (.int .i64 ((m.at g).val b : Nat)) := (hS.cell b).trans (stk_at (m.at g) b (by omega))
  have fb := hS.soft b
  obtain ⟨vb, hvb⟩ : ∃ v, (m.at g).val b = v := ⟨_, rfl⟩
  rw [hvb] at kb
  have HVb := Lib.hid hvb
  have ib : (b : Int) < 16 := by omega
  have jb : (0 : Int) ≤ (b : Int) := by omega
  clear hva hvb
  obtain ⟨gb, hgb⟩ : ∃ gb, A.gb g = gb := ⟨_, rfl⟩
  obtain ⟨sk, hsk⟩ : ∃ sk, A.sk g = sk := ⟨_, rfl⟩
  simp only [hgb] at hB HB g4 rcell hlt n1 n3
  simp only [hsk] at hS slt n2 n3 g4 ka fa kb fb
  have HGB := Lib.hid hgb
  have HSK := Lib.hid hsk
  clear h n hc hg hB hS hl hgb hsk hgv hgl m0
  go_enter Tryz.func33, Tryz.ntmps33
  go_upto_region 23 with fail
  go_region
  go_wp2_with fail
  go_ret
  rw [← HSK.out, HVb.out]
  exact ⟨rfl, reff_top H.out N.out HC.out HG.out a vb (Ex.refl _) ((Ex.made _ _).trans (Ex.drawn _ 1))⟩

set_option maxHeartbeats 12800000 in
theorem rplain_5 {w : World} {A : RA} {t : Nat → Tg} {xb : Nat} {F : Fns} {m : MS} (h : Rf w A t xb F m) (n : New w t) {cb : Nat} {cc : CmI} (hc : CbR w A t cb cc 0) {g : Nat} (hg : g < m.gs.length) (hn : m.gs.length ≤ 1024) (hl : (m.at g).stack.length = 16) (a b c : Nat) (ha : a < 16) :
    Calls Tryz.prog 33 #[.pointer (some ⟨xb, 0, none⟩), .int .i64 (g : Nat), .agg #[.int .i64 5, .int .i64 (a : Nat), .int .i64 (b : Nat), .int .i64 (c : Nat)], .pointer (some ⟨cb, 0, none⟩)] w
      fun e w' => e = .returned (.bool true) ∧ REff w A t xb F cb cc (m.put g ((m.at g).top a 0)) (0) false w' := by
  have H := Lib.hid h
  have N := Lib.hid n
  have HC := Lib.hid hc
  have HG := Lib.hid hg
  have hB := (h.gor g hg).box
  have hS := (h.stk g hg).box
  have HB := Lib.hid hB
  obtain ⟨rb, rc, hgv, rlt, rcap, rcell⟩ := h.gvat hg
  have c2 : w.cell? ⟨xb, 2, none⟩ = some A.gv := h.box.box.cell 2
  rw [hgv] at c2
  have g4 : w.cell? ⟨A.gb g, 4, none⟩ = some (.slice (some ⟨A.sk g, 0, none⟩) 16 16) := by rw [hB.cell]; rfl
  have v1 : w.cell? ⟨cb, 4, none⟩ = some (.int .i64 0) := hc.box.cell 4
  have v2 := hc.box.soft 4
  obtain ⟨n1, n2, n3, n4⟩ := cb_rg h hc hg
  have hlt := hB.lt
  have slt := hS.lt
  have clt := hc.box.lt
  have xlt := h.box.box.lt
  have m0 := fun k => h.box.box.cell k
  obtain ⟨gl, hgl⟩ : ∃ gl, m.gs.length = gl := ⟨_, rfl⟩
  rw [hgl] at c2 rcap hn
  have hg2 : g < gl := by omega
  have i1 : (g : Int) < (gl : Int) := by omega
  have i00 : (0 : Int) ≤ (g : Int) := by omega
  have ka : w.cell? ⟨A.sk g, a, none⟩ = some (.int .i64 ((m.at g).val a : Nat)) := (hS.cell a).trans (stk_at (m.at g) a (by omega))
  have fa := hS.soft a
  obtain ⟨va, hva⟩ : ∃ v, (m.at g).val a = v := ⟨_, rfl⟩
  rw [hva] at ka
  have HVa := Lib.hid hva
  have ia : (a : Int) < 16 := by omega
  have ja : (0 : Int) ≤ (a : Int) := by omega
  clear hva
  obtain ⟨gb, hgb⟩ : ∃ gb, A.gb g = gb := ⟨_, rfl⟩
  obtain ⟨sk, hsk⟩ : ∃ sk, A.sk g = sk := ⟨_, rfl⟩
  simp only [hgb] at hB HB g4 rcell hlt n1 n3
  simp only [hsk] at hS slt n2 n3 g4 ka fa
  have HGB := Lib.hid hgb
  have HSK := Lib.hid hsk
  clear h n hc hg hB hS hl hgb hsk hgv hgl m0
  go_enter Tryz.func33, Tryz.ntmps33
  go_wp2_with fail
  go_ret
  rw [← HSK.out]
  exact ⟨rfl, reff_top H.out N.out HC.out HG.out a 0 (Ex.refl _) (Ex.made _ _)⟩

set_option maxHeartbeats 12800000 in
theorem rplain_6 {w : World} {A : RA} {t : Nat → Tg} {xb : Nat} {F : Fns} {m : MS} (h : Rf w A t xb F m) (n : New w t) {cb : Nat} {cc : CmI} (hc : CbR w A t cb cc 0) {g : Nat} (hg : g < m.gs.length) (hn : m.gs.length ≤ 1024) (hl : (m.at g).stack.length = 16) (a b c : Nat) (ha : a < 16) (hb : b < m.globals.length) (hgn : m.globals.length ≤ 32) :
    Calls Tryz.prog 33 #[.pointer (some ⟨xb, 0, none⟩), .int .i64 (g : Nat), .agg #[.int .i64 6, .int .i64 (a : Nat), .int .i64 (b : Nat), .int .i64 (c : Nat)], .pointer (some ⟨cb, 0, none⟩)] w
      fun e w' => e = .returned (.bool true) ∧ REff w A t xb F cb cc (m.put g ((m.at g).top a (m.globals.getD b 0))) (0) false w' := by
  have H := Lib.hid h
  have N := Lib.hid n
  have HC := Lib.hid hc
  have HG := Lib.hid hg
  have hB := (h.gor g hg).box
  have hS := (h.stk g hg).box
  have HB := Lib.hid hB
  obtain ⟨rb, rc, hgv, rlt, rcap, rcell⟩ := h.gvat hg
  have c2 : w.cell? ⟨xb, 2, none⟩ = some A.gv := h.box.box.cell 2
  rw [hgv] at c2
  have g4 : w.cell? ⟨A.gb g, 4, none⟩ = some (.slice (some ⟨A.sk g, 0, none⟩) 16 16) := by rw [hB.cell]; rfl
  have v1 : w.cell? ⟨cb, 4, none⟩ = some (.int .i64 0) := hc.box.cell 4
  have v2 := hc.box.soft 4
  obtain ⟨n1, n2, n3, n4⟩ := cb_rg h hc hg
  have hlt := hB.lt
  have slt := hS.lt
  have clt := hc.box.lt
  have xlt := h.box.box.lt
  have m0 := fun k => h.box.box.cell k
  obtain ⟨gl, hgl⟩ : ∃ gl, m.gs.length = gl := ⟨_, rfl⟩
  rw [hgl] at c2 rcap hn
  have hg2 : g < gl := by omega
  have i1 : (g : Int) < (gl : Int) := by omega
  have i00 : (0 : Int) ≤ (g : Int) := by omega
  have ka : w.cell? ⟨A.sk g, a, none⟩ = some (.int .i64 ((m.at g).val a : Nat)) := (hS.cell a).trans (stk_at (m.at g) a (by omega))
  have fa := hS.soft a
  obtain ⟨va, hva⟩ : ∃ v, (m.at g).val a = v := ⟨_, rfl⟩
  rw [hva] at ka
  have HVa := Lib.hid hva
  have ia : (a : Int) < 16 := by omega
  have ja : (0 : Int) ≤ (a : Int) := by omega
  clear hva
  obtain ⟨Gb, cap, hGv, Glt, Gcap, -, Gc⟩ := row_ints h.glob b hb
  have c4 : w.cell? ⟨xb, 3, none⟩ = some (.slice (some ⟨Gb, 0, none⟩) m.globals.length cap) := by rw [← hGv]; exact m0 3
  obtain ⟨vb, hvb⟩ : ∃ v, m.globals.getD b 0 = v := ⟨_, rfl⟩
  have c5 := (Gc b hb).1
  rw [hvb] at c5
  have HVB := Lib.hid hvb
  obtain ⟨Gl, hGl⟩ : ∃ Gl, m.globals.length = Gl := ⟨_, rfl⟩
  rw [hGl] at c4 hb hgn Gcap
  have ib : (b : Int) < (Gl : Int) := by omega
  have jb : (0 : Int) ≤ (b : Int) := by omega
  clear hvb Gc hGv hGl
  obtain ⟨gb, hgb⟩ : ∃ gb, A.gb g = gb := ⟨_, rfl⟩
  obtain ⟨sk, hsk⟩ : ∃ sk, A.sk g = sk := ⟨_, rfl⟩
  simp only [hgb] at hB HB g4 rcell hlt n1 n3
  simp only [hsk] at hS slt n2 n3 g4 ka fa
  have HGB := Lib.hid hgb
  have HSK := Lib.hid hsk
  clear h n hc hg hB hS hl hgb hsk hgv hgl m0
  go_enter Tryz.func33, Tryz.ntmps33
  go_upto_region 27 with fail
  go_region
  go_wp2_with fail
  go_ret
  rw [← HSK.out, HVB.out]
  exact ⟨rfl, reff_top H.out N.out HC.out HG.out a vb (Ex.refl _) ((Ex.made _ _).trans (Ex.drawn _ 1))⟩

set_option maxHeartbeats 12800000 in
theorem rplain_7 {w : World} {A : RA} {t : Nat → Tg} {xb : Nat} {F : Fns} {m : MS} (h : Rf w A t xb F m) (n : New w t) {cb : Nat} {cc : CmI} (hc : CbR w A t cb cc 0) {g : Nat} (hg : g < m.gs.length) (hn : m.gs.length ≤ 1024) (hl : (m.at g).stack.length = 16) (a b c : Nat) (ha : a < m.globals.length) (hb : b < 16) (hgn : m.globals.length ≤ 32) :
    Calls Tryz.prog 33 #[.pointer (some ⟨xb, 0, none⟩), .int .i64 (g : Nat), .agg #[.int .i64 7, .int .i64 (a : Nat), .int .i64 (b : Nat), .int .i64 (c : Nat)], .pointer (some ⟨cb, 0, none⟩)] w
      fun e w' => e = .returned (.bool true) ∧ REff w A t xb F cb cc ({ m with globals := m.globals.set a ((m.at g).val b) }) (0) false w' := by
  have H := Lib.hid h
  have N := Lib.hid n
  have HC := Lib.hid hc
  have HG := Lib.hid hg
  have hB := (h.gor g hg).box
  have hS := (h.stk g hg).box
  have HB := Lib.hid hB
  obtain ⟨rb, rc, hgv, rlt, rcap, rcell⟩ := h.gvat hg
  have c2 : w.cell? ⟨xb, 2, none⟩ = some A.gv := h.box.box.cell 2
  rw [hgv] at c2
  have g4 : w.cell? ⟨A.gb g, 4, none⟩ = some (.slice (some ⟨A.sk g, 0, none⟩) 16 16) := by rw [hB.cell]; rfl
  have v1 : w.cell? ⟨cb, 4, none⟩ = some (.int .i64 0) := hc.box.cell 4
  have v2 := hc.box.soft 4
  obtain ⟨n1, n2, n3, n4⟩ := cb_rg h hc hg
  have hlt := hB.lt
  have slt := hS.lt
  have clt := hc.box.lt
  have xlt := h.box.box.lt
  have m0 := fun k => h.box.box.cell k
  obtain ⟨gl, hgl⟩ : ∃ gl, m.gs.length = gl := ⟨_, rfl⟩
  rw [hgl] at c2 rcap hn
  have hg2 : g < gl := by omega
  have i1 : (g : Int) < (gl : Int) := by omega
  have i00 : (0 : Int) ≤ (g : Int) := by omega
  have kb : w.cell? ⟨A.sk g, b, none⟩ = some (.int .i64 ((m.at g).val b : Nat)) := (hS.cell b).trans (stk_at (m.at g) b (by omega))
  have fb := hS.soft b
  obtain ⟨vb, hvb⟩ : ∃ v, (m.at g).val b = v := ⟨_, rfl⟩
  rw [hvb] at kb
  have HVb := Lib.hid hvb
  have ib : (b : Int) < 16 := by omega
  have jb : (0 : Int) ≤ (b : Int) := by omega
  clear hvb
  obtain ⟨Gb, cap, hGv, Glt, Gcap, -, Gc⟩ := row_ints h.glob a ha
  have c4 : w.cell? ⟨xb, 3, none⟩ = some (.slice (some ⟨Gb, 0, none⟩) m.globals.length cap) := by rw [← hGv]; exact m0 3
  have c5 := (Gc a ha).1
  have f5 := (Gc a ha).2
  have HGV := Lib.hid hGv
  obtain ⟨Gl, hGl⟩ : ∃ Gl, m.globals.length = Gl := ⟨_, rfl⟩
  rw [hGl] at c4 ha hgn Gcap
  have ia : (a : Int) < (Gl : Int) := by omega
  have ja : (0 : Int) ≤ (a : Int) := by omega
  clear Gc hGv hGl
  obtain ⟨gb, hgb⟩ : ∃ gb, A.gb g = gb := ⟨_, rfl⟩
  obtain ⟨sk, hsk⟩ : ∃ sk, A.sk g = sk := ⟨_, rfl⟩
  simp only [hgb] at hB HB g4 rcell hlt n1 n3
  simp only [hsk] at hS slt n2 n3 g4 kb fb
  have HGB := Lib.hid hgb
  have HSK := Lib.hid hsk
  clear h n hc hg hB hS hl hgb hsk hgv hgl m0
  go_enter Tryz.func33, Tryz.ntmps33
  go_upto_region 29 with fail
  go_region
  go_wp2_with fail
  go_ret
  rw [HVb.out]
  exact ⟨rfl, reff_globs H.out N.out HC.out HGV.out a vb (Ex.refl _) ((Ex.made _ _).trans (Ex.drawn _ 1))⟩

set_option maxHeartbeats 12800000 in
theorem rplain_13 {w : World} {A : RA} {t : Nat → Tg} {xb : Nat} {F : Fns} {m : MS} (h : Rf w A t xb F m) (n : New w t) {cb : Nat} {cc : CmI} (hc : CbR w A t cb cc 0) {g : Nat} (hg : g < m.gs.length) (hn : m.gs.length ≤ 1024) (hl : (m.at g).stack.length = 16) (a b c : Nat) (ha : a < 16) (hb : b < 16) :
    Calls Tryz.prog 33 #[.pointer (some ⟨xb, 0, none⟩), .int .i64 (g : Nat), .agg #[.int .i64 13, .int .i64 (a : Nat), .int .i64 (b : Nat), .int .i64 (c : Nat)], .pointer (some ⟨cb, 0, none⟩)] w
      fun e w' => e = .returned (.bool true) ∧ REff w A t xb F cb cc (m) (if (m.at g).val a = (m.at g).val b then 1 else 0) false w' := by
  have H := Lib.hid h
  have N := Lib.hid n
  have HC := Lib.hid hc
  have HG := Lib.hid hg
  have hB := (h.gor g hg).box
  have hS := (h.stk g hg).box
  have HB := Lib.hid hB
  obtain ⟨rb, rc, hgv, rlt, rcap, rcell⟩ := h.gvat hg
  have c2 : w.cell? ⟨xb, 2, none⟩ = some A.gv := h.box.box.cell 2
  rw [hgv] at c2
  have g4 : w.cell? ⟨A.gb g, 4, none⟩ = some (.slice (some ⟨A.sk g, 0, none⟩) 16 16) := by rw [hB.cell]; rfl
  have v1 : w.cell? ⟨cb, 4, none⟩ = some (.int .i64 0) := hc.box.cell 4
  have v2 := hc.box.soft 4
  obtain ⟨n1, n2, n3, n4⟩ := cb_rg h hc hg
  have hlt := hB.lt
  have slt := hS.lt
  have clt := hc.box.lt
  have xlt := h.box.box.lt
  have m0 := fun k => h.box.box.cell k
  obtain ⟨gl, hgl⟩ : ∃ gl, m.gs.length = gl := ⟨_, rfl⟩
  rw [hgl] at c2 rcap hn
  have hg2 : g < gl := by omega
  have i1 : (g : Int) < (gl : Int) := by omega
  have i00 : (0 : Int) ≤ (g : Int) := by omega
  obtain ⟨r, hr⟩ : ∃ r : Int, (if (m.at g).val a = (m.at g).val b then (1 : Int) else 0) = r := ⟨_, rfl⟩
  rw [hr]
  have HR := Lib.hid hr
  clear hr
  have ka : w.cell? ⟨A.sk g, a, none⟩ = some (.int .i64 ((m.at g).val a : Nat)) := (hS.cell a).trans (stk_at (m.at g) a (by omega))
  have fa := hS.soft a
  obtain ⟨va, hva⟩ : ∃ v, (m.at g).val a = v := ⟨_, rfl⟩
  rw [hva] at ka
  have HVa := Lib.hid hva
  have ia : (a : Int) < 16 := by omega
  have ja : (0 : Int) ≤ (a : Int) := by omega
  have kb : w.cell? ⟨A.sk g, b, none⟩ = some (.int .i64 ((m.at g).val b : Nat)) := (hS.cell b).trans (stk_at (m.at g) b (by omega))
  have fb := hS.soft b
  obtain ⟨vb, hvb⟩ : ∃ v, (m.at g).val b = v := ⟨_, rfl⟩
  rw [hvb] at kb
  have HVb := Lib.hid hvb
  have ib : (b : Int) < 16 := by omega
  have jb : (0 : Int) ≤ (b : Int) := by omega
  clear hva hvb
  obtain ⟨gb, hgb⟩ : ∃ gb, A.gb g = gb := ⟨_, rfl⟩
  obtain ⟨sk, hsk⟩ : ∃ sk, A.sk g = sk := ⟨_, rfl⟩
  simp only [hgb] at hB HB g4 rcell hlt n1 n3
  simp only [hsk] at hS slt n2 n3 g4 ka fa kb fb
  have HGB := Lib.hid hgb
  have HSK := Lib.hid hsk
  clear h n hc hg hB hS hl hgb hsk hgv hgl m0
  go_enter Tryz.func33, Tryz.ntmps33
  by_cases he : va = vb
  · have hd : ((va : Int) == (vb : Int)) = true := by simp [he]
    have HE := Lib.hid he
    clear he
    go_upto_region 31 with fail
    go_quiet (fail)
    go_wp2_with fail
    go_ret
    rw [← HR.out, HVa.out, HVb.out, if_pos HE.out]
    exact ⟨rfl, reff_val H.out N.out HC.out 1 ((Ex.made _ _).trans (Ex.drawn _ _)) (Ex.refl _)⟩
  · have hd : ((va : Int) == (vb : Int)) = false := by simp; omega
    have HE := Lib.hid he
    clear he
    go_upto_region 31 with fail
    go_quiet (fail)
    go_wp2_with fail
    go_ret
    rw [← HR.out, HVa.out, HVb.out, if_neg HE.out]
    exact ⟨rfl, reff_ex H.out N.out HC.out ((Ex.made _ _).trans (Ex.drawn _ _))⟩

set_option maxHeartbeats 12800000 in
theorem rplain_14 {w : World} {A : RA} {t : Nat → Tg} {xb : Nat} {F : Fns} {m : MS} (h : Rf w A t xb F m) (n : New w t) {cb : Nat} {cc : CmI} (hc : CbR w A t cb cc 0) {g : Nat} (hg : g < m.gs.length) (hn : m.gs.length ≤ 1024) (hl : (m.at g).stack.length = 16) (a b c : Nat)  :
    Calls Tryz.prog 33 #[.pointer (some ⟨xb, 0, none⟩), .int .i64 (g : Nat), .agg #[.int .i64 14, .int .i64 (a : Nat), .int .i64 (b : Nat), .int .i64 (c : Nat)], .pointer (some ⟨cb, 0, none⟩)] w
      fun e w' => e = .returned (.bool true) ∧ REff w A t xb F cb cc (m.put g { m.at g with pc := a }) (0) false w' := by
  have H := Lib.hid h
  have N := Lib.hid n
  have HC := Lib.hid hc
  have HG := Lib.hid hg
  have hB := (h.gor g hg).box
  have hS := (h.stk g hg).box
  have HB := Lib.hid hB
  obtain ⟨rb, rc, hgv, rlt, rcap, rcell⟩ := h.gvat hg
  have c2 : w.cell? ⟨xb, 2, none⟩ = some A.gv := h.box.box.cell 2
  rw [hgv] at c2
  have g4 : w.cell? ⟨A.gb g, 4, none⟩ = some (.slice (some ⟨A.sk g, 0, none⟩) 16 16) := by rw [hB.cell]; rfl
  have v1 : w.cell? ⟨cb, 4, none⟩ = some (.int .i64 0) := hc.box.cell 4
  have v2 := hc.box.soft 4
  obtain ⟨n1, n2, n3, n4⟩ := cb_rg h hc hg
  have hlt := hB.lt
  have slt := hS.lt
  have clt := hc.box.lt
  have xlt := h.box.box.lt
  have m0 := fun k => h.box.box.cell k
  obtain ⟨gl, hgl⟩ : ∃ gl, m.gs.length = gl := ⟨_, rfl⟩
  rw [hgl] at c2 rcap hn
  have hg2 : g < gl := by omega
  have i1 : (g : Int) < (gl : Int) := by omega
  have i00 : (0 : Int) ≤ (g : Int) := by omega
  have p1 : w.cell? ⟨A.gb g, 2, none⟩ = some (.int .i64 ((m.at g).pc : Nat)) := by rw [hB.cell]; rfl
  have p2 := hB.soft 2
  obtain ⟨gb, hgb⟩ : ∃ gb, A.gb g = gb := ⟨_, rfl⟩
  obtain ⟨sk, hsk⟩ : ∃ sk, A.sk g = sk := ⟨_, rfl⟩
  simp only [hgb] at hB HB g4 rcell hlt n1 n3 p1 p2
  simp only [hsk] at hS slt n2 n3 g4
  have HGB := Lib.hid hgb
  have HSK := Lib.hid hsk
  clear h n hc hg hB hS hl hgb hsk hgv hgl m0
  go_enter Tryz.func33, Tryz.ntmps33
  go_wp2_with fail
  go_ret
  rw [← HGB.out]
  exact ⟨rfl, reff_pc H.out N.out HC.out HG.out a (Ex.refl _) (Ex.made _ _)⟩

set_option maxHeartbeats 12800000 in
theorem rplain_15 {w : World} {A : RA} {t : Nat → Tg} {xb : Nat} {F : Fns} {m : MS} (h : Rf w A t xb F m) (n : New w t) {cb : Nat} {cc : CmI} (hc : CbR w A t cb cc 0) {g : Nat} (hg : g < m.gs.length) (hn : m.gs.length ≤ 1024) (hl : (m.at g).stack.length = 16) (a b c : Nat) (ha : a < 16) (hb : b < 16) :
    Calls Tryz.prog 33 #[.pointer (some ⟨xb, 0, none⟩), .int .i64 (g : Nat), .agg #[.int .i64 15, .int .i64 (a : Nat), .int .i64 (b : Nat), .int .i64 (c : Nat)], .pointer (some ⟨cb, 0, none⟩)] w
      fun e w' => e = .returned (.bool true) ∧ REff w A t xb F cb cc (if (m.at g).val a = (m.at g).val b then m.put g { m.at g with pc := c } else m) (0) false w' := by
  have H := Lib.hid h
  have N := Lib.hid n
  have HC := Lib.hid hc
  have HG := Lib.hid hg
  have hB := (h.gor g hg).box
  have hS := (h.stk g hg).box
  have HB := Lib.hid hB
  obtain ⟨rb, rc, hgv, rlt, rcap, rcell⟩ := h.gvat hg
  have c2 : w.cell? ⟨xb, 2, none⟩ = some A.gv := h.box.box.cell 2
  rw [hgv] at c2
  have g4 : w.cell? ⟨A.gb g, 4, none⟩ = some (.slice (some ⟨A.sk g, 0, none⟩) 16 16) := by rw [hB.cell]; rfl
  have v1 : w.cell? ⟨cb, 4, none⟩ = some (.int .i64 0) := hc.box.cell 4
  have v2 := hc.box.soft 4
  obtain ⟨n1, n2, n3, n4⟩ := cb_rg h hc hg
  have hlt := hB.lt
  have slt := hS.lt
  have clt := hc.box.lt
  have xlt := h.box.box.lt
  have m0 := fun k => h.box.box.cell k
  obtain ⟨gl, hgl⟩ : ∃ gl, m.gs.length = gl := ⟨_, rfl⟩
  rw [hgl] at c2 rcap hn
  have hg2 : g < gl := by omega
  have i1 : (g : Int) < (gl : Int) := by omega
  have i00 : (0 : Int) ≤ (g : Int) := by omega
  obtain ⟨r, hr⟩ : ∃ r : MS, (if (m.at g).val a = (m.at g).val b then m.put g { m.at g with pc := c } else m) = r := ⟨_, rfl⟩
  rw [hr]
  have HR := Lib.hid hr
  clear hr
  have p1 : w.cell? ⟨A.gb g, 2, none⟩ = some (.int .i64 ((m.at g).pc : Nat)) := by rw [hB.cell]; rfl
  have p2 := hB.soft 2
  have ka : w.cell? ⟨A.sk g, a, none⟩ = some (.int .i64 ((m.at g).val a : Nat)) := (hS.cell a).trans (stk_at (m.at g) a (by omega))
  have fa := hS.soft a
  obtain ⟨va, hva⟩ : ∃ v, (m.at g).val a = v := ⟨_, rfl⟩
  rw [hva] at ka
  have HVa := Lib.hid hva
  have ia : (a : Int) < 16 := by omega
  have ja : (0 : Int) ≤ (a : Int) := by omega
  have kb : w.cell? ⟨A.sk g, b, none⟩ = some (.int .i64 ((m.at g).val b : Nat)) := (hS.cell b).trans (stk_at (m.at g) b (by omega))
  have fb := hS.soft b
  obtain ⟨vb, hvb⟩ : ∃ v, (m.at g).val b = v := ⟨_, rfl⟩
  rw [hvb] at kb
  have HVb := Lib.hid hvb
  have ib : (b : Int) < 16 := by omega
  have jb : (0 : Int) ≤ (b : Int) := by omega
  clear hva hvb
  obtain ⟨gb, hgb⟩ : ∃ gb, A.gb g = gb := ⟨_, rfl⟩
  obtain ⟨sk, hsk⟩ : ∃ sk, A.sk g = sk := ⟨_, rfl⟩
  simp only [hgb] at hB HB g4 rcell hlt n1 n3 p1 p2
  simp only [hsk] at hS slt n2 n3 g4 ka fa kb fb
  have HGB := Lib.hid hgb
  have HSK := Lib.hid hsk
  clear h n hc hg hB hS hl hgb hsk hgv hgl m0
  go_enter Tryz.func33, Tryz.ntmps33
  by_cases he : va = vb
  · have hd : ((va : Int) == (vb : Int)) = true := by simp [he]
    have HE := Lib.hid he
    clear he
    go_upto_region 36 with fail
    go_quiet (fail)
    go_wp2_with fail
    go_ret
    rw [← HR.out, HVa.out, HVb.out, if_pos HE.out, ← HGB.out]
    exact ⟨rfl, reff_pc H.out N.out HC.out HG.out c ((Ex.made _ _).trans (Ex.drawn _ _)) (Ex.refl _)⟩
  · have hd : ((va : Int) == (vb : Int)) = false := by simp; omega
    have HE := Lib.hid he
    clear he
    go_upto_region 36 with fail
    go_quiet (fail)
    go_wp2_with fail
    go_ret
    rw [← HR.out, HVa.out, HVb.out, if_neg HE.out]
    exact ⟨rfl, reff_ex H.out N.out HC.out ((Ex.made _ _).trans (Ex.drawn _ _))⟩

set_option maxHeartbeats 12800000 in
theorem rplain_16 {w : World} {A : RA} {t : Nat → Tg} {xb : Nat} {F : Fns} {m : MS} (h : Rf w A t xb F m) (n : New w t) {cb : Nat} {cc : CmI} (hc : CbR w A t cb cc 0) {g : Nat} (hg : g < m.gs.length) (hn : m.gs.length ≤ 1024) (hl : (m.at g).stack.length = 16) (a b c : Nat) (ha : a < 256) (hb : b < 256) :
    Calls Tryz.prog 33 #[.pointer (some ⟨xb, 0, none⟩), .int .i64 (g : Nat), .agg #[.int .i64 16, .int .i64 (a : Nat), .int .i64 (b : Nat), .int .i64 (c : Nat)], .pointer (some ⟨cb, 0, none⟩)] w
      fun e w' => e = .returned (.bool true) ∧ REff w A t xb F cb cc (m.put g { m.at g with count := 256 * a + b }) (0) false w' := by
  have H := Lib.hid h
  have N := Lib.hid n
  have HC := Lib.hid hc
  have HG := Lib.hid hg
  have hB := (h.gor g hg).box
  have hS := (h.stk g hg).box
  have HB := Lib.hid hB
  obtain ⟨rb, rc, hgv, rlt, rcap, rcell⟩ := h.gvat hg
  have c2 : w.cell? ⟨xb, 2, none⟩ = some A.gv := h.box.box.cell 2
  rw [hgv] at c2
  have g4 : w.cell? ⟨A.gb g, 4, none⟩ = some (.slice (some ⟨A.sk g, 0, none⟩) 16 16) := by rw [hB.cell]; rfl
  have v1 : w.cell? ⟨cb, 4, none⟩ = some (.int .i64 0) := hc.box.cell 4
  have v2 := hc.box.soft 4
  obtain ⟨n1, n2, n3, n4⟩ := cb_rg h hc hg
  have hlt := hB.lt
  have slt := hS.lt
  have clt := hc.box.lt
  have xlt := h.box.box.lt
  have m0 := fun k => h.box.box.cell k
  obtain ⟨gl, hgl⟩ : ∃ gl, m.gs.length = gl := ⟨_, rfl⟩
  rw [hgl] at c2 rcap hn
  have hg2 : g < gl := by omega
  have i1 : (g : Int) < (gl : Int) := by omega
  have i00 : (0 : Int) ≤ (g : Int) := by omega
  have q1 : w.cell? ⟨A.gb g, 3, none⟩ = some (.int .i64 ((m.at g).count : Nat)) := by rw [hB.cell]; rfl
  have q2 := hB.soft 3
  have e1 : IntKind.i64.wrap ((a : Int) * 256) = (a : Int) * 256 := by rw [IntKind.wrap_i64]; omega
  obtain ⟨k, hk⟩ : ∃ k, 256 * a + b = k := ⟨_, rfl⟩
  have e2 : IntKind.i64.wrap ((a : Int) * 256 + (b : Int)) = (k : Int) := by rw [IntKind.wrap_i64]; omega
  rw [hk]
  clear hk
  obtain ⟨gb, hgb⟩ : ∃ gb, A.gb g = gb := ⟨_, rfl⟩
  obtain ⟨sk, hsk⟩ : ∃ sk, A.sk g = sk := ⟨_, rfl⟩
  simp only [hgb] at hB HB g4 rcell hlt n1 n3 q1 q2
  simp only [hsk] at hS slt n2 n3 g4
  have HGB := Lib.hid hgb
  have HSK := Lib.hid hsk
  clear h n hc hg hB hS hl hgb hsk hgv hgl m0
  go_enter Tryz.func33, Tryz.ntmps33
  go_wp2_with fail
  go_ret
  rw [← HGB.out]
  exact ⟨rfl, reff_count H.out N.out HC.out HG.out k (Ex.refl _) (Ex.made _ _)⟩

set_option maxHeartbeats 12800000 in
theorem rplain_17 {w : World} {A : RA} {t : Nat → Tg} {xb : Nat} {F : Fns} {m : MS} (h : Rf w A t xb F m) (n : New w t) {cb : Nat} {cc : CmI} (hc : CbR w A t cb cc 0) {g : Nat} (hg : g < m.gs.length) (hn : m.gs.length ≤ 1024) (hl : (m.at g).stack.length = 16) (a b c : Nat) (hcn : (m.at g).count ≤ 100000) :
    Calls Tryz.prog 33 #[.pointer (some ⟨xb, 0, none⟩), .int .i64 (g : Nat), .agg #[.int .i64 17, .int .i64 (a : Nat), .int .i64 (b : Nat), .int .i64 (c : Nat)], .pointer (some ⟨cb, 0, none⟩)] w
      fun e w' => e = .returned (.bool true) ∧ REff w A t xb F cb cc (if 0 < (m.at g).count then m.put g { m.at g with count := (m.at g).count - 1, pc := a } else m) (0) false w' := by
  have H := Lib.hid h
  have N := Lib.hid n
  have HC := Lib.hid hc
  have HG := Lib.hid hg
  have hB := (h.gor g hg).box
  have hS := (h.stk g hg).box
  have HB := Lib.hid hB
  obtain ⟨rb, rc, hgv, rlt, rcap, rcell⟩ := h.gvat hg
  have c2 : w.cell? ⟨xb, 2, none⟩ = some A.gv := h.box.box.cell 2
  rw [hgv] at c2
  have g4 : w.cell? ⟨A.gb g, 4, none⟩ = some (.slice (some ⟨A.sk g, 0, none⟩) 16 16) := by rw [hB.cell]; rfl
  have v1 : w.cell? ⟨cb, 4, none⟩ = some (.int .i64 0) := hc.box.cell 4
  have v2 := hc.box.soft 4
  obtain ⟨n1, n2, n3, n4⟩ := cb_rg h hc hg
  have hlt := hB.lt
  have slt := hS.lt
  have clt := hc.box.lt
  have xlt := h.box.box.lt
  have m0 := fun k => h.box.box.cell k
  obtain ⟨gl, hgl⟩ : ∃ gl, m.gs.length = gl := ⟨_, rfl⟩
  rw [hgl] at c2 rcap hn
  have hg2 : g < gl := by omega
  have i1 : (g : Int) < (gl : Int) := by omega
  have i00 : (0 : Int) ≤ (g : Int) := by omega
  obtain ⟨r, hr⟩ : ∃ r : MS, (if 0 < (m.at g).count then m.put g { m.at g with count := (m.at g).count - 1, pc := a } else m) = r := ⟨_, rfl⟩
  rw [hr]
  have HR := Lib.hid hr
  clear hr
  have p1 : w.cell? ⟨A.gb g, 2, none⟩ = some (.int .i64 ((m.at g).pc : Nat)) := by rw [hB.cell]; rfl
  have p2 := hB.soft 2
  have q1 : w.cell? ⟨A.gb g, 3, none⟩ = some (.int .i64 ((m.at g).count : Nat)) := by rw [hB.cell]; rfl
  have q2 := hB.soft 3
  obtain ⟨n0, hn0⟩ : ∃ v, (m.at g).count = v := ⟨_, rfl⟩
  rw [hn0] at q1 hcn
  have HN0 := Lib.hid hn0
  clear hn0
  obtain ⟨gb, hgb⟩ : ∃ gb, A.gb g = gb := ⟨_, rfl⟩
  obtain ⟨sk, hsk⟩ : ∃ sk, A.sk g = sk := ⟨_, rfl⟩
  simp only [hgb] at hB HB g4 rcell hlt n1 n3 p1 p2 q1 q2
  simp only [hsk] at hS slt n2 n3 g4
  have HGB := Lib.hid hgb
  have HSK := Lib.hid hsk
  clear h n hc hg hB hS hl hgb hsk hgv hgl m0
  go_enter Tryz.func33, Tryz.ntmps33
  by_cases he : 0 < n0
  · have hd : (0 : Int) < (n0 : Int) := by omega
    obtain ⟨n9, hn9⟩ : ∃ k, n0 - 1 = k := ⟨_, rfl⟩
    have e1 : IntKind.i64.wrap ((n0 : Int) - 1) = (n9 : Int) := by rw [IntKind.wrap_i64]; omega
    have HE := Lib.hid he
    have H9 := Lib.hid hn9
    clear he hn9
    go_wp2_with fail
    go_ret
    rw [← HR.out, HN0.out, if_pos HE.out, H9.out, ← HGB.out]
    refine ⟨rfl, reff_g H.out N.out HC.out HG.out rfl (((Chg.cell (F := fun i => i = A.gb g) w ⟨A.gb g, 3, none⟩ _ rfl).trans (Chg.cell (F := fun i => i = A.gb g) _ ⟨A.gb g, 2, none⟩ _ rfl) (fun _ _ h => h)).ex (Ex.made _ _)) ?_⟩
    rw [HGB.out]
    exact ((HB.out.put 3 (.int .i64 (n9 : Nat))).put 2 (.int .i64 (a : Nat))).ex (Ex.made _ _)
  · have hd : ¬ (0 : Int) < (n0 : Int) := by omega
    have HE := Lib.hid he
    clear he
    go_wp2_with fail
    go_ret
    rw [← HR.out, HN0.out, if_neg HE.out]
    exact ⟨rfl, reff_ex H.out N.out HC.out (Ex.made _ _)⟩

end Go.Proofs.YtmlobpapjfkbmaaGreat

/- The document's plain: load, store. -/
namespace Go.Proofs.YtmlobpapjfkbmaaGreat
open Go.RowKit
set_option linter.unusedVariables false
set_option maxRecDepth 20000
set_option linter.unusedSimpArgs false

theorem reff_topv {w : World} {A : RA} {t : Nat → Tg} {xb : Nat} {F : Fns} {m : MS} {cb : Nat} {cc : CmI} {W w' : World} {v : Int} (h : Rf w A t xb F m) (n : New w t) (hc : CbR w A t cb cc v) {g : Nat} (hg : g < m.gs.length) (a v' : Nat)
    (y : Ex w W) (x : Ex ((W.setCell ⟨A.sk g, a, none⟩ (.int .i64 (v' : Nat))).setCell ⟨cb, 4, none⟩ (.int .i64 (v' : Nat))) w') : REff w A t xb F cb cc (m.put g ((m.at g).top a v')) (v' : Nat) false w' := by
  obtain ⟨n1, n2, n3, -⟩ := cb_rg h hc hg
  have k1 : Chg (fun i => i = A.sk g) w (W.setCell ⟨A.sk g, a, none⟩ (.int .i64 (v' : Nat))) := ((y.chg _).trans (Chg.cell (F := fun i => i = A.sk g) W ⟨A.sk g, a, none⟩ _ rfl) (fun _ _ h => h))
  have k2 : Chg (fun i => i = cb) (W.setCell ⟨A.sk g, a, none⟩ (.int .i64 (v' : Nat))) w' := (Chg.cell (F := fun i => i = cb) _ ⟨cb, 4, none⟩ _ rfl).ex x
  refine reff_gv h n hc hg ((k1.weak (fun _ _ h => .inr (.inl h))).trans (k2.weak (fun _ _ h => .inr (.inr h))) (fun _ _ h => h)) (((h.gor g hg).box.chg k1 n3).chg k2 n1) ?_ ?_
  · have := ((h.stk g hg).box.ex y).put a (.int .i64 (v' : Nat))
    rw [stk_set] at this
    exact this.chg k2 n2
  · exact ((hc.box.chg k1 (fun e => n2 e.symm)).put 4 (.int .i64 (v' : Nat))).ex x
theorem reff_bad {w : World} {A : RA} {t : Nat → Tg} {xb : Nat} {F : Fns} {m : MS} {cb : Nat} {cc : CmI} {W w' : World} (h : Rf w A t xb F m) (n : New w t) (hc : CbR w A t cb cc 0)
    (y : Ex w W) (x : Ex (W.setCell ⟨cb, 5, none⟩ (.bool true)) w') : REff w A t xb F cb cc m 0 true w' := by
  have k : Chg (fun i => i = cb) w w' := ((y.chg _).trans (Chg.cell (F := fun i => i = cb) W ⟨cb, 5, none⟩ _ rfl) (fun _ _ h => h)).ex x
  exact ⟨A, t, h.ex k (fun i hi => .inr (by subst hi; exact ⟨hc.tag, hc.pb⟩)), n.le k.size, fun _ _ => rfl, rfl, ((hc.box.ex y).put 5 (.bool true)).ex x, k.weak (fun _ _ h => .inr h)⟩
theorem reff_oput {w : World} {A : RA} {t : Nat → Tg} {xb : Nat} {F : Fns} {m : MS} {cb : Nat} {cc : CmI} {W w' : World} {v : Int} (h : Rf w A t xb F m) (n : New w t) (hc : CbR w A t cb cc v) {i : Nat} (h1 : 1 ≤ i) (hi : i < m.slots.length) {ob cap : Nat} (hv : A.ov i = .slice (some ⟨ob, 0, none⟩) (m.obj i).length cap) (j v' : Nat)
    (y : Ex w W) (x : Ex (W.setCell ⟨ob, j, none⟩ (.int .i64 (v' : Nat))) w') : REff w A t xb F cb cc { m with slots := m.slots.set i ((m.obj i).set j v') } v false w' := by
  have hs := h.slot i h1 hi
  have tg : t ob = (11, i) := hs.tag ob (by rw [hv]; rfl)
  have k : Chg (fun i => i = ob) w w' := ((y.chg _).trans (Chg.cell (F := fun i => i = ob) W ⟨ob, j, none⟩ _ rfl) (fun _ _ h => h)).ex x
  have hr := row_chg (F := fun _ => False) hs.row (y.chg _) (fun _ _ h => h)
  rw [hv] at hr
  have r2 := row_chg (F := fun _ => False) (hr.stored j (.int .i64 (v' : Nat))).1 (x.chg _) (fun _ _ h => h)
  refine ⟨A, t, h.oput i ((m.obj i).set j v') ?_ k ?_, n.le k.size, fun _ _ => rfl, rfl, hc.box.chg k ?_, k.weak ?_⟩
  · rw [hv, List.length_set, show S12.ints ((m.obj i).set j v') = (S12.ints (m.obj i)).set j (.int .i64 (v' : Nat)) by simp [S12.ints, List.map_set]]
    exact r2
  · rintro i rfl; left; rw [tg]; simp
  · intro e; have := hc.tag; rw [e, tg] at this; simp at this
  · rintro i - rfl; left; rw [tg]; simp

set_option maxHeartbeats 12800000 in
theorem rplain_2 {w : World} {A : RA} {t : Nat → Tg} {xb : Nat} {F : Fns} {m : MS} (h : Rf w A t xb F m) (n : New w t) {cb : Nat} {cc : CmI} (hc : CbR w A t cb cc 0) {g : Nat} (hg : g < m.gs.length) (hn : m.gs.length ≤ 1024) (hl : (m.at g).stack.length = 16) (a b c : Nat) (ha : a < 16) (hb : b < 16) (hvv : ∀ a, (m.at g).val a < m.slots.length) (hsn : m.slots.length ≤ 100000) (h0 : 1 ≤ m.slots.length) (hon : ∀ i, (m.slots.getD i []).length ≤ 1000) :
    Calls Tryz.prog 33 #[.pointer (some ⟨xb, 0, none⟩), .int .i64 (g : Nat), .agg #[.int .i64 2, .int .i64 (a : Nat), .int .i64 (b : Nat), .int .i64 (c : Nat)], .pointer (some ⟨cb, 0, none⟩)] w
      fun e w' => e = .returned (.bool true) ∧ REff w A t xb F cb cc (if (m.at g).val b = 0 ∨ (m.slots.getD ((m.at g).val b) []).length ≤ c then (m, 0, true) else (m.put g ((m.at g).top a ((m.slots.getD ((m.at g).val b) []).getD c 0)), (((m.slots.getD ((m.at g).val b) []).getD c 0 : Nat) : Int), false)).1 (if (m.at g).val b = 0 ∨ (m.slots.getD ((m.at g).val b) []).length ≤ c then (m, 0, true) else (m.put g ((m.at g).top a ((m.slots.getD ((m.at g).val b) []).getD c 0)), (((m.slots.getD ((m.at g).val b) []).getD c 0 : Nat) : Int), false)).2.1 (if (m.at g).val b = 0 ∨ (m.slots.getD ((m.at g).val b) []).length ≤ c then (m, 0, true) else (m.put g ((m.at g).top a ((m.slots.getD ((m.at g).val b) []).getD c 0)), (((m.slots.getD ((m.at g).val b) []).getD c 0 : Nat) : Int), false)).2.2 w' := by
  have H := Lib.hid h
  have N := Lib.hid n
  have HC := Lib.hid hc
  have HG := Lib.hid hg
  have hB := (h.gor g hg).box
  have hS := (h.stk g hg).box
  have HB := Lib.hid hB
  obtain ⟨rb, rc, hgv, rlt, rcap, rcell⟩ := h.gvat hg
  have c2 : w.cell? ⟨xb, 2, none⟩ = some A.gv := h.box.box.cell 2
  rw [hgv] at c2
  have g4 : w.cell? ⟨A.gb g, 4, none⟩ = some (.slice (some ⟨A.sk g, 0, none⟩) 16 16) := by rw [hB.cell]; rfl
  have v1 : w.cell? ⟨cb, 4, none⟩ = some (.int .i64 0) := hc.box.cell 4
  have v2 := hc.box.soft 4
  obtain ⟨n1, n2, n3, n4⟩ := cb_rg h hc hg
  have hlt := hB.lt
  have slt := hS.lt
  have clt := hc.box.lt
  have xlt := h.box.box.lt
  have m0 := fun k => h.box.box.cell k
  obtain ⟨gl, hgl⟩ : ∃ gl, m.gs.length = gl := ⟨_, rfl⟩
  rw [hgl] at c2 rcap hn
  have hg2 : g < gl := by omega
  have i1 : (g : Int) < (gl : Int) := by omega
  have i00 : (0 : Int) ≤ (g : Int) := by omega
  obtain ⟨r, hr⟩ : ∃ r : MS × Int × Bool, (if (m.at g).val b = 0 ∨ (m.slots.getD ((m.at g).val b) []).length ≤ c then (m, 0, true) else (m.put g ((m.at g).top a ((m.slots.getD ((m.at g).val b) []).getD c 0)), (((m.slots.getD ((m.at g).val b) []).getD c 0 : Nat) : Int), false)) = r := ⟨_, rfl⟩
  rw [hr]
  have HR := Lib.hid hr
  clear hr
  have ho : ∀ i, m.obj i = m.slots.getD i [] := fun _ => rfl
  have ka : w.cell? ⟨A.sk g, a, none⟩ = some (.int .i64 ((m.at g).val a : Nat)) := (hS.cell a).trans (stk_at (m.at g) a (by omega))
  have fa := hS.soft a
  obtain ⟨va, hva⟩ : ∃ v, (m.at g).val a = v := ⟨_, rfl⟩
  rw [hva] at ka
  have HVa := Lib.hid hva
  have ia : (a : Int) < 16 := by omega
  have ja : (0 : Int) ≤ (a : Int) := by omega
  have kb : w.cell? ⟨A.sk g, b, none⟩ = some (.int .i64 ((m.at g).val b : Nat)) := (hS.cell b).trans (stk_at (m.at g) b (by omega))
  have fb := hS.soft b
  obtain ⟨vb, hvb⟩ : ∃ v, (m.at g).val b = v := ⟨_, rfl⟩
  rw [hvb] at kb
  have HVb := Lib.hid hvb
  have ib : (b : Int) < 16 := by omega
  have jb : (0 : Int) ≤ (b : Int) := by omega
  have hvl : vb < m.slots.length := by rw [← hvb]; exact hvv b
  clear hva hvb hvv
  have u5 := hc.box.soft 5
  have u6 : w.cell? ⟨cb, 5, none⟩ = some (.bool false) := hc.box.cell 5
  have ip0 : (0 : Int) ≤ (c : Int) := by omega
  have KO : vb = 0 → Calls Tryz.prog 42 #[.pointer (some ⟨xb, 0, none⟩), .int .i64 (vb : Nat)] (w.alloc (.cells #[.int .i64 2, .int .i64 (a : Nat), .int .i64 (b : Nat), .int .i64 (c : Nat)] 58)) fun e w' => e = .returned (.slice none 0 0) ∧ w.alloc (.cells #[.int .i64 2, .int .i64 (a : Nat), .int .i64 (b : Nat), .int .i64 (c : Nat)] 58) = w' := fun e => rslots_out (h.exs (Ex.made _ _)) _ (.inl (by omega)) h0
  have KI : 1 ≤ vb → Calls Tryz.prog 42 #[.pointer (some ⟨xb, 0, none⟩), .int .i64 (vb : Nat)] (w.alloc (.cells #[.int .i64 2, .int .i64 (a : Nat), .int .i64 (b : Nat), .int .i64 (c : Nat)] 58)) fun e w' => e = .returned (A.ov vb) ∧ w.alloc (.cells #[.int .i64 2, .int .i64 (a : Nat), .int .i64 (b : Nat), .int .i64 (c : Nat)] 58) = w' := fun e => rslots_in (h.exs (Ex.made _ _)) (by omega) _ e (by omega)
  have KO := Lib.hid KO
  have KI := Lib.hid KI
  have HSL : Hid (∀ i, 1 ≤ i → i < m.slots.length → PRow w t (A.ov i) 3 (m.obj i).length (S12.ints (m.obj i)) (11, i)) := Lib.hid h.slot
  have hob := hon vb
  obtain ⟨L, hL⟩ : ∃ L, m.slots.getD vb [] = L := ⟨_, rfl⟩
  have HLs := Lib.hid hL
  have hv2 : vb < m.slots.length := by have := hvl; omega
  rw [hL] at hob
  have HV2 := Lib.hid hv2
  clear hL hon h0 hvl hsn ho hv2
  obtain ⟨gb, hgb⟩ : ∃ gb, A.gb g = gb := ⟨_, rfl⟩
  obtain ⟨sk, hsk⟩ : ∃ sk, A.sk g = sk := ⟨_, rfl⟩
  simp only [hgb] at hB HB g4 rcell hlt n1 n3
  simp only [hsk] at hS slt n2 n3 g4 ka fa kb fb
  have HGB := Lib.hid hgb
  have HSK := Lib.hid hsk
  clear h n hc hg hB hS hl hgb hsk hgv hgl m0
  go_enter Tryz.func33, Tryz.ntmps33
  by_cases hz : vb = 0
  · have K := Lib.hid (KO.out hz)
    have HF : Hid (vb = 0 ∨ L.length ≤ c) := Lib.hid (.inl hz)
    clear hz KO KI HSL
    go_wp2_with fail
    refine K.out.mono ?_
    rintro e _ ⟨rfl, rfl⟩
    clear K
    go_wp2_with fail
    go_ret
    rw [← HR.out, HVb.out, HLs.out, if_pos HF.out]
    exact ⟨rfl, reff_bad H.out N.out HC.out (Ex.refl _) (Ex.made _ _)⟩
  · have K := Lib.hid (KI.out (by omega))
    have hp := HSL.out vb (by omega) HV2.out
    have el : m.obj vb = L := HLs.out
    rw [el] at hp
    have hz1 : 1 ≤ vb := by omega
    have HZ := Lib.hid hz1
    have HZ0 := Lib.hid hz
    clear hz KO KI el hz1
    by_cases hlt : c < L.length
    · obtain ⟨ob, ocap, hov, olt, ocp, -, oc⟩ := row_ints hp c hlt
      have oc1 := (oc c hlt).1
      have oc2 := (oc c hlt).2
      obtain ⟨ll, hll⟩ : ∃ k, L.length = k := ⟨_, rfl⟩
      have HOV := Lib.hid hov
      have HF : Hid (¬ (vb = 0 ∨ L.length ≤ c)) := Lib.hid (by have := HZ0.out; omega)
      rw [hll] at hov hlt hob ocp
      have HLL := Lib.hid hll
      rw [hov] at K
      have l1 : (c : Int) < (ll : Int) := by omega
      have l2 : ¬ (ll : Int) ≤ (c : Int) := by omega
      clear hov oc hp HSL hll
      obtain ⟨y, hy⟩ : ∃ y, L.getD c 0 = y := ⟨_, rfl⟩
      rw [hy] at oc1
      have HY := Lib.hid hy
      clear hy
      go_wp2_with fail
      refine K.out.mono ?_
      rintro e _ ⟨rfl, rfl⟩
      clear K
      go_upto_region 14 with fail
      go_region
      go_wp2_with fail
      go_ret
      rw [← HR.out, HVb.out, HLs.out, if_neg HF.out, HY.out, ← HSK.out]
      exact ⟨rfl, reff_topv H.out N.out HC.out HG.out a y (Ex.refl _) ((Ex.made _ _).trans (Ex.drawn _ 1))⟩
    · obtain ⟨oa, oc, hov⟩ := T13.row_val hp.row
      have HF : Hid (vb = 0 ∨ L.length ≤ c) := Lib.hid (.inr (by omega))
      obtain ⟨ll, hll⟩ : ∃ k, L.length = k := ⟨_, rfl⟩
      rw [hll] at hov hlt
      rw [hov] at K
      have l2 : (ll : Int) ≤ (c : Int) := by omega
      clear hov hp HSL hll
      go_wp2_with fail
      refine K.out.mono ?_
      rintro e _ ⟨rfl, rfl⟩
      clear K
      go_wp2_with fail
      go_ret
      rw [← HR.out, HVb.out, HLs.out, if_pos HF.out]
      exact ⟨rfl, reff_bad H.out N.out HC.out (Ex.refl _) (Ex.made _ _)⟩

set_option maxHeartbeats 12800000 in
theorem rplain_3 {w : World} {A : RA} {t : Nat → Tg} {xb : Nat} {F : Fns} {m : MS} (h : Rf w A t xb F m) (n : New w t) {cb : Nat} {cc : CmI} (hc : CbR w A t cb cc 0) {g : Nat} (hg : g < m.gs.length) (hn : m.gs.length ≤ 1024) (hl : (m.at g).stack.length = 16) (a b c : Nat) (ha : a < 16) (hc2 : c < 16) (hvv : ∀ a, (m.at g).val a < m.slots.length) (hsn : m.slots.length ≤ 100000) (h0 : 1 ≤ m.slots.length) (hon : ∀ i, (m.slots.getD i []).length ≤ 1000) :
    Calls Tryz.prog 33 #[.pointer (some ⟨xb, 0, none⟩), .int .i64 (g : Nat), .agg #[.int .i64 3, .int .i64 (a : Nat), .int .i64 (b : Nat), .int .i64 (c : Nat)], .pointer (some ⟨cb, 0, none⟩)] w
      fun e w' => e = .returned (.bool true) ∧ REff w A t xb F cb cc (if (m.at g).val a = 0 ∨ (m.slots.getD ((m.at g).val a) []).length ≤ b then (m, (0 : Int), true) else ({ m with slots := m.slots.set ((m.at g).val a) ((m.slots.getD ((m.at g).val a) []).set b ((m.at g).val c)) }, (0 : Int), false)).1 (if (m.at g).val a = 0 ∨ (m.slots.getD ((m.at g).val a) []).length ≤ b then (m, (0 : Int), true) else ({ m with slots := m.slots.set ((m.at g).val a) ((m.slots.getD ((m.at g).val a) []).set b ((m.at g).val c)) }, (0 : Int), false)).2.1 (if (m.at g).val a = 0 ∨ (m.slots.getD ((m.at g).val a) []).length ≤ b then (m, (0 : Int), true) else ({ m with slots := m.slots.set ((m.at g).val a) ((m.slots.getD ((m.at g).val a) []).set b ((m.at g).val c)) }, (0 : Int), false)).2.2 w' := by
  have H := Lib.hid h
  have N := Lib.hid n
  have HC := Lib.hid hc
  have HG := Lib.hid hg
  have hB := (h.gor g hg).box
  have hS := (h.stk g hg).box
  have HB := Lib.hid hB
  obtain ⟨rb, rc, hgv, rlt, rcap, rcell⟩ := h.gvat hg
  have c2 : w.cell? ⟨xb, 2, none⟩ = some A.gv := h.box.box.cell 2
  rw [hgv] at c2
  have g4 : w.cell? ⟨A.gb g, 4, none⟩ = some (.slice (some ⟨A.sk g, 0, none⟩) 16 16) := by rw [hB.cell]; rfl
  have v1 : w.cell? ⟨cb, 4, none⟩ = some (.int .i64 0) := hc.box.cell 4
  have v2 := hc.box.soft 4
  obtain ⟨n1, n2, n3, n4⟩ := cb_rg h hc hg
  have hlt := hB.lt
  have slt := hS.lt
  have clt := hc.box.lt
  have xlt := h.box.box.lt
  have m0 := fun k => h.box.box.cell k
  obtain ⟨gl, hgl⟩ : ∃ gl, m.gs.length = gl := ⟨_, rfl⟩
  rw [hgl] at c2 rcap hn
  have hg2 : g < gl := by omega
  have i1 : (g : Int) < (gl : Int) := by omega
  have i00 : (0 : Int) ≤ (g : Int) := by omega
  obtain ⟨r, hr⟩ : ∃ r : MS × Int × Bool, (if (m.at g).val a = 0 ∨ (m.slots.getD ((m.at g).val a) []).length ≤ b then (m, (0 : Int), true) else ({ m with slots := m.slots.set ((m.at g).val a) ((m.slots.getD ((m.at g).val a) []).set b ((m.at g).val c)) }, (0 : Int), false)) = r := ⟨_, rfl⟩
  rw [hr]
  have HR := Lib.hid hr
  clear hr
  have ho : ∀ i, m.obj i = m.slots.getD i [] := fun _ => rfl
  have ka : w.cell? ⟨A.sk g, a, none⟩ = some (.int .i64 ((m.at g).val a : Nat)) := (hS.cell a).trans (stk_at (m.at g) a (by omega))
  have fa := hS.soft a
  obtain ⟨va, hva⟩ : ∃ v, (m.at g).val a = v := ⟨_, rfl⟩
  rw [hva] at ka
  have HVa := Lib.hid hva
  have ia : (a : Int) < 16 := by omega
  have ja : (0 : Int) ≤ (a : Int) := by omega
  have kc : w.cell? ⟨A.sk g, c, none⟩ = some (.int .i64 ((m.at g).val c : Nat)) := (hS.cell c).trans (stk_at (m.at g) c (by omega))
  have fc := hS.soft c
  obtain ⟨vc, hvc⟩ : ∃ v, (m.at g).val c = v := ⟨_, rfl⟩
  rw [hvc] at kc
  have HVc := Lib.hid hvc
  have ic : (c : Int) < 16 := by omega
  have jc : (0 : Int) ≤ (c : Int) := by omega
  have hvl : va < m.slots.length := by rw [← hva]; exact hvv a
  clear hva hvc hvv
  have u5 := hc.box.soft 5
  have u6 : w.cell? ⟨cb, 5, none⟩ = some (.bool false) := hc.box.cell 5
  have ip0 : (0 : Int) ≤ (b : Int) := by omega
  have KO : va = 0 → Calls Tryz.prog 42 #[.pointer (some ⟨xb, 0, none⟩), .int .i64 (va : Nat)] (w.alloc (.cells #[.int .i64 3, .int .i64 (a : Nat), .int .i64 (b : Nat), .int .i64 (c : Nat)] 58)) fun e w' => e = .returned (.slice none 0 0) ∧ w.alloc (.cells #[.int .i64 3, .int .i64 (a : Nat), .int .i64 (b : Nat), .int .i64 (c : Nat)] 58) = w' := fun e => rslots_out (h.exs (Ex.made _ _)) _ (.inl (by omega)) h0
  have KI : 1 ≤ va → Calls Tryz.prog 42 #[.pointer (some ⟨xb, 0, none⟩), .int .i64 (va : Nat)] (w.alloc (.cells #[.int .i64 3, .int .i64 (a : Nat), .int .i64 (b : Nat), .int .i64 (c : Nat)] 58)) fun e w' => e = .returned (A.ov va) ∧ w.alloc (.cells #[.int .i64 3, .int .i64 (a : Nat), .int .i64 (b : Nat), .int .i64 (c : Nat)] 58) = w' := fun e => rslots_in (h.exs (Ex.made _ _)) (by omega) _ e (by omega)
  have KO := Lib.hid KO
  have KI := Lib.hid KI
  have HSL : Hid (∀ i, 1 ≤ i → i < m.slots.length → PRow w t (A.ov i) 3 (m.obj i).length (S12.ints (m.obj i)) (11, i)) := Lib.hid h.slot
  have hob := hon va
  obtain ⟨L, hL⟩ : ∃ L, m.slots.getD va [] = L := ⟨_, rfl⟩
  have HLs := Lib.hid hL
  have hv2 : va < m.slots.length := by have := hvl; omega
  rw [hL] at hob
  have HV2 := Lib.hid hv2
  clear hL hon h0 hvl hsn ho hv2
  obtain ⟨gb, hgb⟩ : ∃ gb, A.gb g = gb := ⟨_, rfl⟩
  obtain ⟨sk, hsk⟩ : ∃ sk, A.sk g = sk := ⟨_, rfl⟩
  simp only [hgb] at hB HB g4 rcell hlt n1 n3
  simp only [hsk] at hS slt n2 n3 g4 ka fa kc fc
  have HGB := Lib.hid hgb
  have HSK := Lib.hid hsk
  clear h n hc hg hB hS hl hgb hsk hgv hgl m0
  go_enter Tryz.func33, Tryz.ntmps33
  by_cases hz : va = 0
  · have K := Lib.hid (KO.out hz)
    have HF : Hid (va = 0 ∨ L.length ≤ b) := Lib.hid (.inl hz)
    clear hz KO KI HSL
    go_wp2_with fail
    refine K.out.mono ?_
    rintro e _ ⟨rfl, rfl⟩
    clear K
    go_wp2_with fail
    go_ret
    rw [← HR.out, HVa.out, HLs.out, if_pos HF.out]
    exact ⟨rfl, reff_bad H.out N.out HC.out (Ex.refl _) (Ex.made _ _)⟩
  · have K := Lib.hid (KI.out (by omega))
    have hp := HSL.out va (by omega) HV2.out
    have el : m.obj va = L := HLs.out
    rw [el] at hp
    have hz1 : 1 ≤ va := by omega
    have HZ := Lib.hid hz1
    have HZ0 := Lib.hid hz
    clear hz KO KI el hz1
    by_cases hlt : b < L.length
    · obtain ⟨ob, ocap, hov, olt, ocp, -, oc⟩ := row_ints hp b hlt
      have oc1 := (oc b hlt).1
      have oc2 := (oc b hlt).2
      obtain ⟨ll, hll⟩ : ∃ k, L.length = k := ⟨_, rfl⟩
      have HOV := Lib.hid hov
      have HF : Hid (¬ (va = 0 ∨ L.length ≤ b)) := Lib.hid (by have := HZ0.out; omega)
      rw [hll] at hov hlt hob ocp
      have HLL := Lib.hid hll
      rw [hov] at K
      have l1 : (b : Int) < (ll : Int) := by omega
      have l2 : ¬ (ll : Int) ≤ (b : Int) := by omega
      clear hov oc hp HSL hll
      go_wp2_with fail
      refine K.out.mono ?_
      rintro e _ ⟨rfl, rfl⟩
      clear K
      go_upto_region 21 with fail
      go_region
      go_wp2_with fail
      go_ret
      rw [← HR.out, HVa.out, HVc.out, HLs.out, if_neg HF.out]
      have q := fun (V : World) (x : Ex (w.setCell ⟨ob, b, none⟩ (.int .i64 (vc : Nat))) V) => reff_oput H.out N.out HC.out HZ.out HV2.out (by show A.ov va = .slice (some ⟨ob, 0, none⟩) (m.slots.getD va []).length ocap; rw [HLs.out]; exact HOV.out) b vc (Ex.refl _) x
      have e2 : m.obj va = L := HLs.out
      rw [e2] at q
      exact ⟨rfl, q _ ((Ex.made _ _).trans (Ex.drawn _ 1))⟩
    · obtain ⟨oa, oc, hov⟩ := T13.row_val hp.row
      have HF : Hid (va = 0 ∨ L.length ≤ b) := Lib.hid (.inr (by omega))
      obtain ⟨ll, hll⟩ : ∃ k, L.length = k := ⟨_, rfl⟩
      rw [hll] at hov hlt
      rw [hov] at K
      have l2 : (ll : Int) ≤ (b : Int) := by omega
      clear hov hp HSL hll
      go_wp2_with fail
      refine K.out.mono ?_
      rintro e _ ⟨rfl, rfl⟩
      clear K
      go_wp2_with fail
      go_ret
      rw [← HR.out, HVa.out, HLs.out, if_pos HF.out]
      exact ⟨rfl, reff_bad H.out N.out HC.out (Ex.refl _) (Ex.made _ _)⟩

end Go.Proofs.YtmlobpapjfkbmaaGreat

/- The document's plain: alloc. -/
namespace Go.Proofs.YtmlobpapjfkbmaaGreat
open Go.RowKit
set_option linter.unusedVariables false
set_option maxRecDepth 20000
set_option linter.unusedSimpArgs false

theorem rdr_onew {w w' : World} {A : RA} {t : Nat → Tg} {xb : Nat} {F : Fns} {m : MS} (h : Rf w A t xb F m) (n : New w t) (h0 : 1 ≤ m.slots.length) {lv o : Value} {l : List Nat} (k : Chg (fun i => i = xb ∨ A.lv.ownBlock = some i) w w') (hb : Box w' xb (rcells { A with lv := lv } m.clock) 48)
    (hr : w'.ownsRow 0 37 1 lv m.slots.length (((List.range (m.slots.length - 1)).map (fun i => A.ov (i + 1))) ++ [o])) (hor : ∀ b, lv.ownBlock = some b → A.lv.ownBlock = some b ∨ w.heap.size ≤ b) (ho : w'.ownsRow 0 3 1 o l.length (S12.ints l)) (hon : ∀ b, o.ownBlock = some b → w.heap.size ≤ b ∧ lv.ownBlock ≠ some b) :
    ∃ t', Rf w' { A with lv := lv, ov := fun i => if i = m.slots.length then o else A.ov i } t' xb F { m with slots := m.slots ++ [l] } ∧ New w' t' ∧ (∀ i, i < w.heap.size → t' i = t i) ∧ Chg (fun i => (t i).1 ≠ 0) w w' := by
  let t' : Nat → Tg := fun i => if i < w.heap.size then t i else if lv.ownBlock = some i then (6, 0) else if o.ownBlock = some i then (11, m.slots.length) else (0, 0)
  have old : ∀ i, i < w.heap.size → t' i = t i := fun i hi => if_pos hi
  have h' := h.retag n old
  have e1 : ∀ b, lv.ownBlock = some b → t' b = (6, 0) := fun b hb => by
    show (if b < w.heap.size then t b else _) = _
    by_cases e : b < w.heap.size
    · rw [if_pos e]
      rcases hor b hb with h1 | h1
      · exact h.slr.tag b h1
      · omega
    · rw [if_neg e, if_pos hb]
  have e2 : ∀ b, o.ownBlock = some b → t' b = (11, m.slots.length) := fun b hb => by
    obtain ⟨h1, h2⟩ := hon b hb
    show (if b < w.heap.size then t b else _) = _
    rw [if_neg (by omega), if_neg h2, if_pos hb]
  refine ⟨t', h'.onew (P := fun i => i = xb ∨ A.lv.ownBlock = some i) lv o l h0 hb ⟨hr, e1⟩ ⟨ho, e2⟩ k ?_, ?_, old, k.weak ?_⟩
  · rintro i (rfl | hi)
    · left; rw [h'.box.tag]; simp
    · left; rw [h'.slr.tag i hi]; simp
  · intro i hi
    show (if i < w.heap.size then t i else _).1 = 0
    have hs := k.size
    rw [if_neg (by omega), if_neg, if_neg]
    · intro e; have := row_lt ho e; omega
    · intro e; have := row_lt hr e; omega
  · rintro i - (rfl | hi)
    · rw [h.box.tag]; simp
    · rw [h.slr.tag i hi]; simp
theorem ronew_end {w Y0 Y3 : World} {A : RA} {t : Nat → Tg} {xb : Nat} {F : Fns} {m : MS} (h : Rf w A t xb F m) (n : New w t) (h0 : 1 ≤ m.slots.length) (x0 : Ex w Y0) {kb sl : Nat} (hkb : kb ≤ 100000) (hsl : m.slots.length = sl) {v3 : Value}
    (hown : Y3.ownsRow 0 37 1 v3 sl ((List.range (sl - 1)).map (fun i => A.ov (i + 1)) ++ [.slice (some ⟨Y0.heap.size, 0, none⟩) kb kb]))
    (hg : ((Y0.alloc (.cells (S12.ints (List.replicate kb 0)).toArray 3)).alloc (.cells #[.slice (some ⟨Y0.heap.size, 0, none⟩) kb kb] 37)).grownBy Y3 A.lv.ownBlock)
    (hor : v3.ownBlock = A.lv.ownBlock ∨ v3.ownBlock = some ((Y0.alloc (.cells (S12.ints (List.replicate kb 0)).toArray 3)).alloc (.cells #[.slice (some ⟨Y0.heap.size, 0, none⟩) kb kb] 37)).heap.size) :
    (∃ t', Rf (Y3.setCell ⟨xb, 4, none⟩ v3) { A with lv := v3, ov := fun i => if i = m.slots.length then .slice (some ⟨Y0.heap.size, 0, none⟩) kb kb else A.ov i } t' xb F { m with slots := m.slots ++ [List.replicate kb 0] } ∧ New (Y3.setCell ⟨xb, 4, none⟩ v3) t' ∧ (∀ i, i < w.heap.size → t' i = t i) ∧ Chg (fun i => (t i).1 ≠ 0) w (Y3.setCell ⟨xb, 4, none⟩ v3)) ∧ Box Y3 xb (rcells A m.clock) 48 := by
  subst hsl
  have hsz : ((Y0.alloc (.cells (S12.ints (List.replicate kb 0)).toArray 3)).alloc (.cells #[.slice (some ⟨Y0.heap.size, 0, none⟩) kb kb] 37)).heap.size = Y0.heap.size + 2 := by simp
  have xw := x0.size
  have x1 : Ex Y0 ((Y0.alloc (.cells (S12.ints (List.replicate kb 0)).toArray 3)).alloc (.cells #[.slice (some ⟨Y0.heap.size, 0, none⟩) kb kb] 37)) := (Ex.made _ _).trans (Ex.made _ _)
  rw [hsz] at hor
  have lvlt : ∀ b, A.lv.ownBlock = some b → b < w.heap.size := fun b hb => row_lt h.slr.row hb
  have lvt : ∀ b, A.lv.ownBlock = some b → t b = (6, 0) := fun b hb => h.slr.tag b hb
  have mlt : xb < w.heap.size := h.box.box.lt
  have mne : A.lv.ownBlock ≠ some xb := fun e => by have h1 := lvt _ e; rw [h.box.tag] at h1; simp at h1
  have hob : ∀ b, v3.ownBlock = some b → b ≠ xb ∧ b ≠ Y0.heap.size ∧ (A.lv.ownBlock = some b ∨ w.heap.size ≤ b) := fun b hb => by
    rcases hor with e | e
    · rw [hb] at e
      have := lvlt b e.symm
      exact ⟨fun e2 => mne (e2 ▸ e.symm), by omega, .inl e.symm⟩
    · rw [hb] at e; cases e; exact ⟨by omega, by omega, .inr (by omega)⟩
  have bm3 : Box Y3 xb (rcells A m.clock) 48 := (hg.block xb (by rw [hsz]; omega) (fun e => mne e.symm)).trans ((h.box.box.ex x0).ex x1)
  have k1 := ((x0.trans x1).chg (fun i => i = xb ∨ A.lv.ownBlock = some i)).trans (Chg.grown (F := fun i => i = xb ∨ A.lv.ownBlock = some i) hg (fun i hi => .inr hi)) (fun _ _ h => h)
  have k2 := k1.trans (Chg.cell (F := fun i => i = xb ∨ A.lv.ownBlock = some i) Y3 ⟨xb, 4, none⟩ v3 (.inl rfl)) (fun _ _ h => h)
  have ro := row_chg (F := fun _ => False) (row_made Y0 kb hkb) ((Ex.made (Y0.alloc (.cells (S12.ints (List.replicate kb 0)).toArray 3)) (.cells #[.slice (some ⟨Y0.heap.size, 0, none⟩) kb kb] 37)).chg _) (fun _ _ h => h)
  have ro2 := row_chg (F := fun i => A.lv.ownBlock = some i) ro (Chg.grown (F := fun i => A.lv.ownBlock = some i) hg (fun i hi => hi)) (fun b hb e => by cases hb; have := lvlt _ e; simp at this; omega)
  have ro3 := row_chg (F := fun i => i = xb) ro2 (Chg.cell (F := fun i => i = xb) Y3 ⟨xb, 4, none⟩ v3 rfl) (fun b hb e => by cases hb; simp at e; omega)
  exact ⟨rdr_onew h n h0 k2 (bm3.put 4 v3) (row_chg hown (Chg.cell (F := fun i => i = xb) Y3 ⟨xb, 4, none⟩ v3 rfl) (fun b hb e => (hob b hb).1 e)) (fun b hb => (hob b hb).2.2) ro3 (fun b hb => by cases hb; exact ⟨xw, fun e => (hob _ e).2.1 rfl⟩), bm3⟩

theorem REff.comp {w w1 w2 : World} {A A1 : RA} {t t1 : Nat → Tg} {xb : Nat} {F : Fns} {m' : MS} {cb : Nat} {cc : CmI} {v : Int} {bad : Bool} (x : ∀ i, i < w.heap.size → t1 i = t i) (c1 : Chg (fun i => (t i).1 ≠ 0 ∨ i = cb) w w1) (p : (A1.pb, A1.gb) = (A.pb, A.gb)) (h : REff w1 A1 t1 xb F cb cc m' v bad w2) : REff w A t xb F cb cc m' v bad w2 := by
  obtain ⟨A', t', k1, k2, k3, k4, k5, k6⟩ := h
  exact ⟨A', t', k1, k2, fun i hi => (k3 i (Nat.lt_of_lt_of_le hi c1.size)).trans (x i hi), k4.trans p, k5, c1.trans k6 (fun i hi hf => by rw [x i hi] at hf; exact hf)⟩
set_option maxHeartbeats 12800000 in
theorem rplain_1 {w : World} {A : RA} {t : Nat → Tg} {xb : Nat} {F : Fns} {m : MS} (h : Rf w A t xb F m) (n : New w t) {cb : Nat} {cc : CmI} (hc : CbR w A t cb cc 0) {g : Nat} (hg : g < m.gs.length) (hn : m.gs.length ≤ 1024) (hl : (m.at g).stack.length = 16) (a b c : Nat) (ha : a < 16) (hb : b < 256) (hsn : m.slots.length ≤ 100000) (h0 : 1 ≤ m.slots.length) :
    Calls Tryz.prog 33 #[.pointer (some ⟨xb, 0, none⟩), .int .i64 (g : Nat), .agg #[.int .i64 1, .int .i64 (a : Nat), .int .i64 (b : Nat), .int .i64 (c : Nat)], .pointer (some ⟨cb, 0, none⟩)] w
      fun e w' => e = .returned (.bool true) ∧ REff w A t xb F cb cc (({ m with slots := m.slots ++ [List.replicate (b + 1) 0] } : MS).put g ((m.at g).top a m.slots.length)) (m.slots.length : Nat) false w' := by
  have H := Lib.hid h
  have N := Lib.hid n
  have HC := Lib.hid hc
  have HG := Lib.hid hg
  have HL := Lib.hid hl
  have H0 := Lib.hid h0
  obtain ⟨rb, rc, hgv, rlt, rcap, rcell⟩ := h.gvat hg
  have c2 : w.cell? ⟨xb, 2, none⟩ = some A.gv := h.box.box.cell 2
  rw [hgv] at c2
  have hB := (h.gor g hg).box
  have g4 : w.cell? ⟨A.gb g, 4, none⟩ = some (.slice (some ⟨A.sk g, 0, none⟩) 16 16) := by rw [hB.cell]; rfl
  have hlt := hB.lt
  have clt := hc.box.lt
  have mlt := h.box.box.lt
  have c5 : w.cell? ⟨xb, 4, none⟩ = some A.lv := h.box.box.cell 4
  have HLV := Lib.hid h.slr.row
  obtain ⟨gl, hgl⟩ : ∃ gl, m.gs.length = gl := ⟨_, rfl⟩
  rw [hgl] at c2 rcap hn
  have i1 : (g : Int) < (gl : Int) := by omega
  have i00 : (0 : Int) ≤ (g : Int) := by omega
  obtain ⟨sl, hsl⟩ : ∃ k, m.slots.length = k := ⟨_, rfl⟩
  rw [hsl] at h0 hsn HLV ⊢
  have HSL := Lib.hid hsl
  obtain ⟨ol, hol⟩ : ∃ k, sl - 1 = k := ⟨_, rfl⟩
  rw [hol] at HLV
  have hol1 : ol + 1 = sl := by omega
  have HOL := Lib.hid hol
  obtain ⟨kb, hkb⟩ : ∃ k, b + 1 = k := ⟨_, rfl⟩
  rw [hkb]
  have e1 : IntKind.i64.wrap ((b : Int) + 1) = (kb : Int) := by rw [IntKind.wrap_i64]; omega
  have hkb9 : kb ≤ 256 := by omega
  have HMK := Lib.hid (fun W : World => make_ints W kb (by omega))
  obtain ⟨lv, hlv⟩ : ∃ v, A.lv = v := ⟨_, rfl⟩
  rw [hlv] at c5 HLV
  have HLVE := Lib.hid hlv
  obtain ⟨gb, hgb⟩ : ∃ gb, A.gb g = gb := ⟨_, rfl⟩
  obtain ⟨sk, hsk⟩ : ∃ sk, A.sk g = sk := ⟨_, rfl⟩
  simp only [hgb] at g4 rcell hlt
  simp only [hsk] at g4
  have HGB := Lib.hid hgb
  have HSK := Lib.hid hsk
  obtain ⟨i0, hi, hz0, hz1, hz2⟩ := info_parts info_sl
  clear h n hc hg hl hsl hkb hlv hgb hsk hB hgv hgl hol h0
  go_enter Tryz.func33, Tryz.ntmps33
  go_upto_region 6 with fail
  have b0 := Box.fresh w #[.int .i64 1, .int .i64 (a : Nat), .int .i64 (b : Nat), .int .i64 (c : Nat)] 58
  have x0 := Ex.made w (.cells #[.int .i64 1, .int .i64 (a : Nat), .int .i64 (b : Nat), .int .i64 (c : Nat)] 58)
  obtain ⟨ib, hib⟩ : ∃ ib, w.heap.size = ib := ⟨_, rfl⟩
  obtain ⟨W0, hW0⟩ : ∃ W, W = w.alloc (.cells #[.int .i64 1, .int .i64 (a : Nat), .int .i64 (b : Nat), .int .i64 (c : Nat)] 58) := ⟨_, rfl⟩
  rw [hib] at b0 ⊢
  rw [← hW0] at b0 x0 ⊢
  have HIB := Lib.hid hib
  have X1 : Hid (Ex w W0.drew) := Lib.hid (x0.trans (ex_drw W0))
  have B1 : Hid (Box W0.drew ib #[.int .i64 1, .int .i64 (a : Nat), .int .i64 (b : Nat), .int .i64 (c : Nat)] 58) := Lib.hid (b0.ex (ex_drw W0))
  have C5 : Hid (W0.drew.cell? ⟨xb, 4, none⟩ = some lv) := Lib.hid ((X1.out.cell (p := ⟨xb, 4, none⟩) mlt).trans c5)
  clear b0 x0 hW0 hib c5
  refine wp_region_last (S := fun w' => Box w' ib #[.int .i64 1, .int .i64 (a : Nat), .int .i64 (b : Nat), .int .i64 (c : Nat)] 58 ∧ w'.cell? ⟨xb, 4, none⟩ = some lv) 13 14 (by kernel_rfl) (by kernel_rfl) (by kernel_rfl) ⟨B1.out, C5.out⟩ (fun hHeld => ?_)
  generalize W0.drew = Y0 at *
  refine heldL_take (i := 0) (v := ?_) rfl (by kernel_rfl) (by kernel_rfl) (by kernel_rfl) (by kernel_rfl) (fun _ _ _ h => h) (Or.inl ⟨by rfl, ?_⟩) (by assumption) ?_
  rotate_left
  · intro w hSw; (try dsimp only at hSw); have d2 : w.cell? ⟨ib, 2, none⟩ = some (.int .i64 (b : Nat)) := hSw.1.cell 2; have d5 := hSw.2; go_simp; try with_reducible rfl
  try simp only [Act.put, List.setIfInBounds_toArray, List.set_cons_zero, List.set_cons_succ]
  refine heldL_take (i := 1) (v := ?_) rfl (by kernel_rfl) (by kernel_rfl) (by kernel_rfl) (by kernel_rfl) (fun _ _ _ h => h) (Or.inl ⟨by rfl, ?_⟩) (by assumption) ?_
  rotate_left
  · intro w hSw; (try dsimp only at hSw); have d2 : w.cell? ⟨ib, 2, none⟩ = some (.int .i64 (b : Nat)) := hSw.1.cell 2; have d5 := hSw.2; go_simp; try with_reducible rfl
  try simp only [Act.put, List.setIfInBounds_toArray, List.set_cons_zero, List.set_cons_succ]
  refine heldL_take (i := 2) (v := ?_) rfl (by kernel_rfl) (by kernel_rfl) (by kernel_rfl) (by kernel_rfl) (fun _ _ _ h => h) (Or.inl ⟨by rfl, ?_⟩) (by assumption) ?_
  rotate_left
  · intro w hSw; (try dsimp only at hSw); have d2 : w.cell? ⟨ib, 2, none⟩ = some (.int .i64 (b : Nat)) := hSw.1.cell 2; have d5 := hSw.2; go_simp; try with_reducible rfl
  try simp only [Act.put, List.setIfInBounds_toArray, List.set_cons_zero, List.set_cons_succ]
  refine heldL_take (i := 3) (v := ?_) rfl (by kernel_rfl) (by kernel_rfl) (by kernel_rfl) (by kernel_rfl) (fun _ _ _ h => h) (Or.inl ⟨by rfl, ?_⟩) (by assumption) ?_
  rotate_left
  · intro w hSw; (try dsimp only at hSw); have d2 : w.cell? ⟨ib, 2, none⟩ = some (.int .i64 (b : Nat)) := hSw.1.cell 2; have d5 := hSw.2; go_simp; try with_reducible rfl
  try simp only [Act.put, List.setIfInBounds_toArray, List.set_cons_zero, List.set_cons_succ]
  refine heldL_take (i := 4) (v := ?_) rfl (by kernel_rfl) (by kernel_rfl) (by kernel_rfl) (by kernel_rfl) (fun _ _ _ h => h) (Or.inl ⟨by rfl, ?_⟩) (by assumption) ?_
  rotate_left
  · intro w hSw; (try dsimp only at hSw); have d2 : w.cell? ⟨ib, 2, none⟩ = some (.int .i64 (b : Nat)) := hSw.1.cell 2; have d5 := hSw.2; go_simp; try with_reducible rfl
  try simp only [Act.put, List.setIfInBounds_toArray, List.set_cons_zero, List.set_cons_succ]
  refine heldL_take (i := 5) (v := ?_) rfl (by kernel_rfl) (by kernel_rfl) (by kernel_rfl) (by kernel_rfl) (fun _ _ _ h => h) (Or.inl ⟨by rfl, ?_⟩) (by assumption) ?_
  rotate_left
  · intro w hSw; (try dsimp only at hSw); have d2 : w.cell? ⟨ib, 2, none⟩ = some (.int .i64 (b : Nat)) := hSw.1.cell 2; have d5 := hSw.2; go_simp; try with_reducible rfl
  try simp only [Act.put, List.setIfInBounds_toArray, List.set_cons_zero, List.set_cons_succ]
  refine heldL_take (i := 6) (v := ?_) rfl (by kernel_rfl) (by kernel_rfl) (by kernel_rfl) (by kernel_rfl) (fun _ _ _ h => h) (Or.inl ⟨by rfl, ?_⟩) (by assumption) ?_
  rotate_left
  · intro w hSw; (try dsimp only at hSw); have d2 : w.cell? ⟨ib, 2, none⟩ = some (.int .i64 (b : Nat)) := hSw.1.cell 2; have d5 := hSw.2; go_simp; try with_reducible rfl
  try simp only [Act.put, List.setIfInBounds_toArray, List.set_cons_zero, List.set_cons_succ]
  refine heldL_take (i := 7) (v := ?_) rfl (by kernel_rfl) (by kernel_rfl) (by kernel_rfl) (by kernel_rfl) (fun _ _ _ h => h) (Or.inl ⟨by rfl, ?_⟩) (by assumption) ?_
  rotate_left
  · intro w hSw; (try dsimp only at hSw); have d2 : w.cell? ⟨ib, 2, none⟩ = some (.int .i64 (b : Nat)) := hSw.1.cell 2; have d5 := hSw.2; go_simp; try with_reducible rfl
  try simp only [Act.put, List.setIfInBounds_toArray, List.set_cons_zero, List.set_cons_succ]
  refine heldL_ready (rs := [8]) (by kernel_rfl) (by simp) ?_
  refine AllL.cons rfl (fun K hK => ?_) AllL.nil
  have hms := HMK.out Y0
  go_simp
  have hHeld1 : Box (Y0.alloc (.cells (S12.ints (List.replicate kb 0)).toArray 3)) ib #[.int .i64 1, .int .i64 (a : Nat), .int .i64 (b : Nat), .int .i64 (c : Nat)] 58 ∧ (Y0.alloc (.cells (S12.ints (List.replicate kb 0)).toArray 3)).cell? ⟨xb, 4, none⟩ = some lv := ⟨hHeld.1.ex (Ex.made _ _), by have := X1.out.size; exact ((Ex.made Y0 _).cell (p := ⟨xb, 4, none⟩) (by show xb < _; omega)).trans hHeld.2⟩
  refine hK.out _ _ (fun _ => hHeld1) (fun _ => ?_)
  clear hK K hms
  try simp only [Act.put, List.setIfInBounds_toArray, List.set_cons_zero, List.set_cons_succ]
  refine heldL_ready (rs := [9]) (by kernel_rfl) (by simp) ?_
  refine AllL.cons rfl (fun K hK => ?_) AllL.nil
  go_simp
  have hHeld2 : Box ((Y0.alloc (.cells (S12.ints (List.replicate kb 0)).toArray 3)).alloc (.cells #[.slice (some ⟨Y0.heap.size, 0, none⟩) kb kb] 37)) ib #[.int .i64 1, .int .i64 (a : Nat), .int .i64 (b : Nat), .int .i64 (c : Nat)] 58 ∧ ((Y0.alloc (.cells (S12.ints (List.replicate kb 0)).toArray 3)).alloc (.cells #[.slice (some ⟨Y0.heap.size, 0, none⟩) kb kb] 37)).cell? ⟨xb, 4, none⟩ = some lv := ⟨hHeld1.1.ex (Ex.made _ _), by have := X1.out.size; exact ((Ex.made (Y0.alloc (.cells (S12.ints (List.replicate kb 0)).toArray 3)) _).cell (p := ⟨xb, 4, none⟩) (by show xb < _; simp; omega)).trans hHeld1.2⟩
  refine hK.out _ _ (fun _ => hHeld2) (fun _ => ?_)
  clear hK K
  try simp only [Act.put, List.setIfInBounds_toArray, List.set_cons_zero, List.set_cons_succ]
  have XZ : Ex w ((Y0.alloc (.cells (S12.ints (List.replicate kb 0)).toArray 3)).alloc (.cells #[.slice (some ⟨Y0.heap.size, 0, none⟩) kb kb] 37)) := (X1.out.trans (Ex.made _ _)).trans (Ex.made _ _)
  have hrow : ((Y0.alloc (.cells (S12.ints (List.replicate kb 0)).toArray 3)).alloc (.cells #[.slice (some ⟨Y0.heap.size, 0, none⟩) kb kb] 37)).ownsRow 0 37 1 lv ol ((List.range ol).map (fun i => A.ov (i + 1))) := row_chg (F := fun _ => False) HLV.out (XZ.chg _) (fun _ _ h => h)
  have hnews : ∀ (j : Nat) (u : Value), [Value.slice (some ⟨Y0.heap.size, 0, none⟩) kb kb][j]? = some u → ((Y0.alloc (.cells (S12.ints (List.replicate kb 0)).toArray 3)).alloc (.cells #[.slice (some ⟨Y0.heap.size, 0, none⟩) kb kb] 37)).cell? ((⟨Y0.heap.size + 1, 0, none⟩ : Addr).add j) = some u := by have := one_new (Y0.alloc (.cells (S12.ints (List.replicate kb 0)).toArray 3)) (.slice (some ⟨Y0.heap.size, 0, none⟩) kb kb) 37; simpa using this
  refine heldL_ready (rs := [10]) (by kernel_rfl) (by simp) ?_
  refine AllL.cons rfl (fun K hK => ?_) AllL.nil
  refine step_append_one rfl (.tmp 32) (.tmp 37) 40 37 i0 (.slice none 0 0) 24 rfl Tryz.underlying40 hi hz0 hz1 hz2 rfl (by rfl) hrow (Nat.zero_le _) ⟨Y0.heap.size + 1, 0, none⟩ 1 1 (by rfl) [.slice (some ⟨Y0.heap.size, 0, none⟩) kb kb] rfl hnews (one_cell rfl) (by unfold maxLen; omega) (by omega) ?_
  intro v3 Y3 hown hg hor
  obtain rfl := HLVE.out
  rw [hol1, ← HOL.out] at hown
  have OE := ronew_end H.out N.out H0.out X1.out (by omega) HSL.out hown hg hor
  have lvib : A.lv.ownBlock ≠ some ib := fun e => by have h1 := row_lt HLV.out e; have h2 := HIB.out; omega
  have hHeld3 : Box Y3 ib #[.int .i64 1, .int .i64 (a : Nat), .int .i64 (b : Nat), .int .i64 (c : Nat)] 58 ∧ Y3.cell? ⟨xb, 4, none⟩ = some A.lv := ⟨(hg.block ib hHeld2.1.lt (fun e => lvib e.symm)).trans hHeld2.1, OE.2.cell 4⟩
  have f53 := OE.2.soft 4
  refine hK.out _ _ (fun _ => hHeld3) (fun _ => ?_)
  clear hK K hnews hrow XZ hHeld1 hHeld2
  try simp only [Act.put, List.setIfInBounds_toArray, List.set_cons_zero, List.set_cons_succ]
  have HOE := Lib.hid OE.1
  have HOW := Lib.hid hown
  clear OE hg hor hown lvib
  refine heldL_take (i := 11) (v := ?_) rfl (by kernel_rfl) (by kernel_rfl) (by kernel_rfl) (by kernel_rfl) (fun _ _ _ h => h) (Or.inl ⟨by rfl, ?_⟩) (by assumption) ?_
  rotate_left
  · intro w hSw; (try dsimp only at hSw); have d2 : w.cell? ⟨ib, 2, none⟩ = some (.int .i64 (b : Nat)) := hSw.1.cell 2; have d5 := hSw.2; go_simp; try with_reducible rfl
  try simp only [Act.put, List.setIfInBounds_toArray, List.set_cons_zero, List.set_cons_succ]
  refine heldL_take (i := 12) (v := ?_) rfl (by kernel_rfl) (by kernel_rfl) (by kernel_rfl) (by kernel_rfl) (fun _ _ _ h => h) (Or.inl ⟨by rfl, ?_⟩) (by assumption) ?_
  rotate_left
  · intro w hSw; (try dsimp only at hSw); have d2 : w.cell? ⟨ib, 2, none⟩ = some (.int .i64 (b : Nat)) := hSw.1.cell 2; have d5 := hSw.2; go_simp; try with_reducible rfl
  try simp only [Act.put, List.setIfInBounds_toArray, List.set_cons_zero, List.set_cons_succ]
  obtain ⟨sa, sc, rfl⟩ := T13.row_val HOW.out
  refine heldL_store_rows 40 38 (by kernel_rfl) (by kernel_rfl) (by kernel_rfl) (by rfl) (by rfl) hHeld3.2 f53 ?_
  obtain ⟨t1, M1, N1, XX1, C1⟩ := HOE.out
  have i4 : (Y3.setCell ⟨xb, 4, none⟩ (.slice sa sl sc)).cell? ⟨xb, 4, none⟩ = some (.slice sa sl sc) := M1.box.box.cell 4
  have hbi : ib ≠ xb := by have := HIB.out; omega
  have bi := hHeld3.1.put_other hbi 4 (.slice sa sl sc)
  have bs := M1.stk g HG.out
  have bc := HC.out.box.chg C1 (fun e => e HC.out.tag)
  obtain ⟨n1, n2, n3, n4⟩ := cb_rg H.out HC.out HG.out
  have hslt := (H.out.stk g HG.out).box.lt
  obtain ⟨Z, hZ⟩ : ∃ Z, Z = Y3.setCell ⟨xb, 4, none⟩ (.slice sa sl sc) := ⟨_, rfl⟩
  rw [← hZ] at i4 bi bs bc M1 N1 C1 ⊢
  have bS : Box Z (A.sk g) (S12.ints (m.at g).stack).toArray 3 := bs.box
  rw [HSK.out] at bS n2 hslt
  have ka : Z.cell? ⟨sk, a, none⟩ = some (.int .i64 ((m.at g).val a : Nat)) := (bS.cell _).trans (stk_at (m.at g) a (by have := HL.out; omega))
  have fa := bS.soft a
  have d1 : Z.cell? ⟨ib, 1, none⟩ = some (.int .i64 (a : Nat)) := bi.cell 1
  have v1 : Z.cell? ⟨cb, 4, none⟩ = some (.int .i64 0) := bc.cell 4
  have v2 := bc.soft 4
  have a16 : (a : Int) < 16 := by omega
  have a00 : (0 : Int) ≤ (a : Int) := by omega
  have cib : ib ≠ cb := by have := HIB.out; omega
  have sib : ib ≠ sk := by have := HIB.out; omega
  have HM1 := Lib.hid M1
  have HN1 := Lib.hid N1
  have HC1 := Lib.hid C1
  have HX1 := Lib.hid XX1
  have HBC := Lib.hid bc
  obtain ⟨vo, hvo⟩ : ∃ vo, (m.at g).val a = vo := ⟨_, rfl⟩
  rw [hvo] at ka
  clear hvo M1 N1 C1 XX1 bc bS bs bi hHeld3 f53 HOE HOW hZ hHeld HMK hi hz0 hz1 hz2 n1 n3
  go_upto_region 7 with fail
  go_region
  all_goals
    go_wp2_with fail
    go_ret
    refine ⟨rfl, REff.comp HX1.out (HC1.out.weak (fun _ _ h => .inl h)) rfl ?_⟩
    have hcz : CbR Z { A with lv := .slice sa sl sc, ov := fun i => if i = m.slots.length then .slice (some ⟨Y0.heap.size, 0, none⟩) kb kb else A.ov i } t1 cb cc 0 := ⟨HBC.out, (HX1.out cb clt).trans rfl ▸ HC.out.tag, HC.out.pb⟩
    obtain rfl := HSK.out
    exact reff_topv HM1.out HN1.out hcz HG.out a sl (Ex.refl _) (ex_drw _)

end Go.Proofs.YtmlobpapjfkbmaaGreat

/- The document's plain: what it leaves to other. -/
namespace Go.Proofs.YtmlobpapjfkbmaaGreat
open Go.RowKit
set_option linter.unusedVariables false
set_option maxRecDepth 20000
set_option linter.unusedSimpArgs false

set_option maxHeartbeats 3200000 in
theorem rplain_0 {w : World} {A : RA} {t : Nat → Tg} {xb : Nat} {F : Fns} {m : MS} (h : Rf w A t xb F m) (n : New w t) {cb : Nat} {g : Nat} (hg : g < m.gs.length) (hn : m.gs.length ≤ 1024) (a b c : Nat) :
    Calls Tryz.prog 33 #[.pointer (some ⟨xb, 0, none⟩), .int .i64 (g : Nat), .agg #[.int .i64 0, .int .i64 (a : Nat), .int .i64 (b : Nat), .int .i64 (c : Nat)], .pointer (some ⟨cb, 0, none⟩)] w
      fun e w' => e = .returned (.bool false) ∧ Ex w w' := by
  have hB := (h.gor g hg).box
  obtain ⟨rb, rc, hgv, rlt, rcap, rcell⟩ := h.gvat hg
  have c2 : w.cell? ⟨xb, 2, none⟩ = some A.gv := h.box.box.cell 2
  rw [hgv] at c2
  have g4 : w.cell? ⟨A.gb g, 4, none⟩ = some (.slice (some ⟨A.sk g, 0, none⟩) 16 16) := by rw [hB.cell]; rfl
  have hlt := hB.lt
  have xlt := h.box.box.lt
  obtain ⟨gl, hgl⟩ : ∃ gl, m.gs.length = gl := ⟨_, rfl⟩
  rw [hgl] at c2 rcap hn
  have i1 : (g : Int) < (gl : Int) := by omega
  have i00 : (0 : Int) ≤ (g : Int) := by omega
  clear h n hg hB hgv hgl
  go_enter Tryz.func33, Tryz.ntmps33
  go_wp2_with fail
  go_ret
  exact ⟨rfl, Ex.made _ _⟩

set_option maxHeartbeats 3200000 in
theorem rplain_8 {w : World} {A : RA} {t : Nat → Tg} {xb : Nat} {F : Fns} {m : MS} (h : Rf w A t xb F m) (n : New w t) {cb : Nat} {g : Nat} (hg : g < m.gs.length) (hn : m.gs.length ≤ 1024) (a b c : Nat) :
    Calls Tryz.prog 33 #[.pointer (some ⟨xb, 0, none⟩), .int .i64 (g : Nat), .agg #[.int .i64 8, .int .i64 (a : Nat), .int .i64 (b : Nat), .int .i64 (c : Nat)], .pointer (some ⟨cb, 0, none⟩)] w
      fun e w' => e = .returned (.bool false) ∧ Ex w w' := by
  have hB := (h.gor g hg).box
  obtain ⟨rb, rc, hgv, rlt, rcap, rcell⟩ := h.gvat hg
  have c2 : w.cell? ⟨xb, 2, none⟩ = some A.gv := h.box.box.cell 2
  rw [hgv] at c2
  have g4 : w.cell? ⟨A.gb g, 4, none⟩ = some (.slice (some ⟨A.sk g, 0, none⟩) 16 16) := by rw [hB.cell]; rfl
  have hlt := hB.lt
  have xlt := h.box.box.lt
  obtain ⟨gl, hgl⟩ : ∃ gl, m.gs.length = gl := ⟨_, rfl⟩
  rw [hgl] at c2 rcap hn
  have i1 : (g : Int) < (gl : Int) := by omega
  have i00 : (0 : Int) ≤ (g : Int) := by omega
  clear h n hg hB hgv hgl
  go_enter Tryz.func33, Tryz.ntmps33
  go_wp2_with fail
  go_ret
  exact ⟨rfl, Ex.made _ _⟩

set_option maxHeartbeats 3200000 in
theorem rplain_9 {w : World} {A : RA} {t : Nat → Tg} {xb : Nat} {F : Fns} {m : MS} (h : Rf w A t xb F m) (n : New w t) {cb : Nat} {g : Nat} (hg : g < m.gs.length) (hn : m.gs.length ≤ 1024) (a b c : Nat) :
    Calls Tryz.prog 33 #[.pointer (some ⟨xb, 0, none⟩), .int .i64 (g : Nat), .agg #[.int .i64 9, .int .i64 (a : Nat), .int .i64 (b : Nat), .int .i64 (c : Nat)], .pointer (some ⟨cb, 0, none⟩)] w
      fun e w' => e = .returned (.bool false) ∧ Ex w w' := by
  have hB := (h.gor g hg).box
  obtain ⟨rb, rc, hgv, rlt, rcap, rcell⟩ := h.gvat hg
  have c2 : w.cell? ⟨xb, 2, none⟩ = some A.gv := h.box.box.cell 2
  rw [hgv] at c2
  have g4 : w.cell? ⟨A.gb g, 4, none⟩ = some (.slice (some ⟨A.sk g, 0, none⟩) 16 16) := by rw [hB.cell]; rfl
  have hlt := hB.lt
  have xlt := h.box.box.lt
  obtain ⟨gl, hgl⟩ : ∃ gl, m.gs.length = gl := ⟨_, rfl⟩
  rw [hgl] at c2 rcap hn
  have i1 : (g : Int) < (gl : Int) := by omega
  have i00 : (0 : Int) ≤ (g : Int) := by omega
  clear h n hg hB hgv hgl
  go_enter Tryz.func33, Tryz.ntmps33
  go_wp2_with fail
  go_ret
  exact ⟨rfl, Ex.made _ _⟩

set_option maxHeartbeats 3200000 in
theorem rplain_10 {w : World} {A : RA} {t : Nat → Tg} {xb : Nat} {F : Fns} {m : MS} (h : Rf w A t xb F m) (n : New w t) {cb : Nat} {g : Nat} (hg : g < m.gs.length) (hn : m.gs.length ≤ 1024) (a b c : Nat) :
    Calls Tryz.prog 33 #[.pointer (some ⟨xb, 0, none⟩), .int .i64 (g : Nat), .agg #[.int .i64 10, .int .i64 (a : Nat), .int .i64 (b : Nat), .int .i64 (c : Nat)], .pointer (some ⟨cb, 0, none⟩)] w
      fun e w' => e = .returned (.bool false) ∧ Ex w w' := by
  have hB := (h.gor g hg).box
  obtain ⟨rb, rc, hgv, rlt, rcap, rcell⟩ := h.gvat hg
  have c2 : w.cell? ⟨xb, 2, none⟩ = some A.gv := h.box.box.cell 2
  rw [hgv] at c2
  have g4 : w.cell? ⟨A.gb g, 4, none⟩ = some (.slice (some ⟨A.sk g, 0, none⟩) 16 16) := by rw [hB.cell]; rfl
  have hlt := hB.lt
  have xlt := h.box.box.lt
  obtain ⟨gl, hgl⟩ : ∃ gl, m.gs.length = gl := ⟨_, rfl⟩
  rw [hgl] at c2 rcap hn
  have i1 : (g : Int) < (gl : Int) := by omega
  have i00 : (0 : Int) ≤ (g : Int) := by omega
  clear h n hg hB hgv hgl
  go_enter Tryz.func33, Tryz.ntmps33
  go_wp2_with fail
  go_ret
  exact ⟨rfl, Ex.made _ _⟩

set_option maxHeartbeats 3200000 in
theorem rplain_11 {w : World} {A : RA} {t : Nat → Tg} {xb : Nat} {F : Fns} {m : MS} (h : Rf w A t xb F m) (n : New w t) {cb : Nat} {g : Nat} (hg : g < m.gs.length) (hn : m.gs.length ≤ 1024) (a b c : Nat) :
    Calls Tryz.prog 33 #[.pointer (some ⟨xb, 0, none⟩), .int .i64 (g : Nat), .agg #[.int .i64 11, .int .i64 (a : Nat), .int .i64 (b : Nat), .int .i64 (c : Nat)], .pointer (some ⟨cb, 0, none⟩)] w
      fun e w' => e = .returned (.bool false) ∧ Ex w w' := by
  have hB := (h.gor g hg).box
  obtain ⟨rb, rc, hgv, rlt, rcap, rcell⟩ := h.gvat hg
  have c2 : w.cell? ⟨xb, 2, none⟩ = some A.gv := h.box.box.cell 2
  rw [hgv] at c2
  have g4 : w.cell? ⟨A.gb g, 4, none⟩ = some (.slice (some ⟨A.sk g, 0, none⟩) 16 16) := by rw [hB.cell]; rfl
  have hlt := hB.lt
  have xlt := h.box.box.lt
  obtain ⟨gl, hgl⟩ : ∃ gl, m.gs.length = gl := ⟨_, rfl⟩
  rw [hgl] at c2 rcap hn
  have i1 : (g : Int) < (gl : Int) := by omega
  have i00 : (0 : Int) ≤ (g : Int) := by omega
  clear h n hg hB hgv hgl
  go_enter Tryz.func33, Tryz.ntmps33
  go_wp2_with fail
  go_ret
  exact ⟨rfl, Ex.made _ _⟩

set_option maxHeartbeats 3200000 in
theorem rplain_12 {w : World} {A : RA} {t : Nat → Tg} {xb : Nat} {F : Fns} {m : MS} (h : Rf w A t xb F m) (n : New w t) {cb : Nat} {g : Nat} (hg : g < m.gs.length) (hn : m.gs.length ≤ 1024) (a b c : Nat) :
    Calls Tryz.prog 33 #[.pointer (some ⟨xb, 0, none⟩), .int .i64 (g : Nat), .agg #[.int .i64 12, .int .i64 (a : Nat), .int .i64 (b : Nat), .int .i64 (c : Nat)], .pointer (some ⟨cb, 0, none⟩)] w
      fun e w' => e = .returned (.bool false) ∧ Ex w w' := by
  have hB := (h.gor g hg).box
  obtain ⟨rb, rc, hgv, rlt, rcap, rcell⟩ := h.gvat hg
  have c2 : w.cell? ⟨xb, 2, none⟩ = some A.gv := h.box.box.cell 2
  rw [hgv] at c2
  have g4 : w.cell? ⟨A.gb g, 4, none⟩ = some (.slice (some ⟨A.sk g, 0, none⟩) 16 16) := by rw [hB.cell]; rfl
  have hlt := hB.lt
  have xlt := h.box.box.lt
  obtain ⟨gl, hgl⟩ : ∃ gl, m.gs.length = gl := ⟨_, rfl⟩
  rw [hgl] at c2 rcap hn
  have i1 : (g : Int) < (gl : Int) := by omega
  have i00 : (0 : Int) ≤ (g : Int) := by omega
  clear h n hg hB hgv hgl
  go_enter Tryz.func33, Tryz.ntmps33
  go_wp2_with fail
  go_ret
  exact ⟨rfl, Ex.made _ _⟩

end Go.Proofs.YtmlobpapjfkbmaaGreat

