/- Part 7 of what is proved of the program of layer 16: Sl16, Wt16, MdR16, WtU16, Wake16, OpsB16, Last13, Last16. -/
import Derived.Test.YtmlobpapjfkbmaaGreatK6
import Derived.Maps.AppendAt
import Derived.Laws.CopyOwn
import Derived.Great.Walk
import Derived.Deep.Cut
import Derived.LoopN
import Derived.Deep.AppendLies
import Derived.Deep.RegionLaw
import Derived.Deep.RegionWith
import Derived.Test.YtmlobpapjfkbmaaGreatK1
import Derived.Deep.RegionHeld3
/- Slices of numbers: Index, Contains, Clone; append. -/
namespace Go.Proofs.YtmlobpapjfkbmaaGreat
open Go.RowKit
set_option linter.unusedVariables false
set_option maxRecDepth 20000
set_option linter.unusedSimpArgs false

/-- Numbers that can be read. -/
def Rn (w : World) (v : Value) (l : List Nat) : Prop := ∃ a cap, v = .slice a l.length cap ∧ (a = none → cap = 0) ∧ l.length ≤ cap ∧ ∀ j, j < l.length → ∃ g off, a = some ⟨g, off, none⟩ ∧ g < w.heap.size ∧ w.cell? ⟨g, off + j, none⟩ = some (.int .i64 (l.getD j 0 : Nat))
theorem Rn.of {w : World} {B : Nat} {v : Value} {l : List Nat} (h : w.ownsRow B 3 1 v l.length (S12.ints l)) : Rn w v l := by
  rcases row_shape h with ⟨h1, h2, h3⟩ | ⟨g, cap, rfl, h2, h3, h4, h5⟩
  · exact ⟨none, 0, by rw [h1, h2], fun _ => rfl, by omega, fun j hj => by omega⟩
  · refine ⟨some ⟨g, 0, none⟩, cap, rfl, fun h => (by cases h), h4, fun j hj => ⟨g, 0, rfl, h3, ?_⟩⟩
    rw [Nat.zero_add, h.cellAt j (by omega)]
    simp [S12.ints, hj]
theorem Rn.ex {w w' : World} {v : Value} {l : List Nat} (h : Rn w v l) (k : Ex w w') : Rn w' v l := by
  obtain ⟨a, cap, h1, h2, h3, h5⟩ := h
  refine ⟨a, cap, h1, h2, h3, fun j hj => ?_⟩
  obtain ⟨g, off, e, hg, hc⟩ := h5 j hj
  exact ⟨g, off, e, Nat.lt_of_lt_of_le hg k.size, (k.cell (p := ⟨g, off + j, none⟩) hg).trans hc⟩

/-- Where it is, or how many there are. -/
def idx (l : List Nat) (x : Nat) : Nat := l.findIdx (fun y => y == x)
theorem info_int : (Tryz.prog.info? 3).map (fun i => (i.zero, i.size, i.bytes)) = some (some (.int .i64 0), 1, 8) := by kernel_rfl

set_option maxHeartbeats 1600000 in
theorem index_hit {w : World} {v : Value} {l : List Nat} (h : Rn w v l) (hn : l.length ≤ 100000) (x k : Nat) (hk : k < l.length) (hx : l.getD k 0 = x) (hno : ∀ j, j < k → l.getD j 0 ≠ x) :
    Calls Tryz.prog 93 #[v, .int .i64 (x : Nat)] w fun e w' => e = .returned (.int .i64 (k : Nat)) ∧ w = w' := by
  obtain ⟨n, hl⟩ : ∃ n, l.length = n := ⟨_, rfl⟩
  unfold Rn at h
  rw [hl] at h hn hk
  obtain ⟨a, cap, rfl, -, hcap, hc⟩ := h
  have HC := Lib.hid hc
  have HX := Lib.hid hx
  have HNO := Lib.hid hno
  clear hc hl hx hno
  go_enter Tryz.func93, Tryz.ntmps93
  go_wp2
  go_loopw [8] (fun iv wr => ∃ i : Nat, i ≤ k ∧ iv = .int .i64 i ∧ w = wr) (fun iv _ => n - (intOf iv).toNat)
  case atStart => exact ⟨0, by omega, rfl, rfl⟩
  case round =>
    obtain ⟨i, hi, rfl, rfl⟩ := hrel
    obtain ⟨g, off, rfl, g1, g2⟩ := HC.out i (by omega)
    have i1 : (i : Int) < (n : Int) := by omega
    by_cases he : i = k
    · subst he
      rw [HX.out] at g2
      go_wp2_with fail
      go_ret
      exact ⟨rfl, rfl⟩
    · have hne := HNO.out i (by omega)
      obtain ⟨y, hy⟩ : ∃ y, l.getD i 0 = y := ⟨_, rfl⟩
      rw [hy] at g2 hne
      have hd : ((x : Int) == (y : Int)) = false := by simp; omega
      clear hne hy
      go_wp2_with fail
      go_roundw
      case rel => exact ⟨i + 1, by omega, by go_num, by first | rfl | trivial⟩
      case measure => simp [intOf]; omega
set_option maxHeartbeats 1600000 in
theorem index_miss {w : World} {v : Value} {l : List Nat} (h : Rn w v l) (hn : l.length ≤ 100000) (x : Nat) (hno : ∀ j, j < l.length → l.getD j 0 ≠ x) :
    Calls Tryz.prog 93 #[v, .int .i64 (x : Nat)] w fun e w' => e = .returned (.int .i64 (-1)) ∧ w = w' := by
  obtain ⟨n, hl⟩ : ∃ n, l.length = n := ⟨_, rfl⟩
  unfold Rn at h
  rw [hl] at h hn hno
  obtain ⟨a, cap, rfl, -, hcap, hc⟩ := h
  have HC := Lib.hid hc
  have HNO := Lib.hid hno
  clear hc hl hno
  go_enter Tryz.func93, Tryz.ntmps93
  go_wp2
  go_loopw [8] (fun iv wr => ∃ i : Nat, i ≤ n ∧ iv = .int .i64 i ∧ w = wr) (fun iv _ => n - (intOf iv).toNat)
  case atStart => exact ⟨0, by omega, rfl, rfl⟩
  case round =>
    obtain ⟨i, hi, rfl, rfl⟩ := hrel
    by_cases he : i < n
    · obtain ⟨g, off, rfl, g1, g2⟩ := HC.out i he
      have i1 : (i : Int) < (n : Int) := by omega
      have hne := HNO.out i he
      obtain ⟨y, hy⟩ : ∃ y, l.getD i 0 = y := ⟨_, rfl⟩
      rw [hy] at g2 hne
      have hd : ((x : Int) == (y : Int)) = false := by simp; omega
      clear hne hy
      go_wp2_with fail
      go_roundw
      case rel => exact ⟨i + 1, by omega, by go_num, by first | rfl | trivial⟩
      case measure => simp [intOf]; omega
    · obtain rfl : i = n := by omega
      go_wp2_with fail
      go_ret
      exact ⟨rfl, rfl⟩

set_option maxHeartbeats 1600000 in
theorem contains_any {w : World} {v : Value} {l : List Nat} (h : Rn w v l) (hn : l.length ≤ 100000) (x : Nat) :
    Calls Tryz.prog 92 #[v, .int .i64 (x : Nat)] w fun e w' => e = .returned (.bool (l.contains x)) ∧ w = w' := by
  by_cases hx : x ∈ l
  · obtain ⟨k, hk, h1, h2⟩ : ∃ k, k < l.length ∧ l.getD k 0 = x ∧ ∀ j, j < k → l.getD j 0 ≠ x := by
      have hlt : l.findIdx (fun y => y == x) < l.length := List.findIdx_lt_length_of_exists ⟨x, hx, by simp⟩
      refine ⟨_, hlt, ?_, fun j hj => ?_⟩
      · have := List.findIdx_getElem (w := hlt)
        simpa [hlt] using this
      · have := List.not_of_lt_findIdx hj
        simpa [show j < l.length by omega] using this
    have K := Lib.hid (index_hit h hn x k hk h1 h2)
    have e : l.contains x = true := by simpa using hx
    rw [e]
    have k0 : (0 : Int) ≤ (k : Int) := by omega
    clear h h1 h2 hx e
    go_enter Tryz.func92, Tryz.ntmps92
    go_wp2_with fail
    refine K.out.mono ?_
    rintro e w' ⟨rfl, rfl⟩
    go_wp2_with fail
    go_ret
    exact ⟨rfl, rfl⟩
  · have K := Lib.hid (index_miss h hn x (fun j hj e => hx (e ▸ (by simp [hj]))))
    have e : l.contains x = false := by simpa using hx
    rw [e]
    clear h hx e
    go_enter Tryz.func92, Tryz.ntmps92
    go_wp2_with fail
    refine K.out.mono ?_
    rintro e w' ⟨rfl, rfl⟩
    go_wp2_with fail
    go_ret
    exact ⟨rfl, rfl⟩

theorem ints_append (l M : List Nat) : S12.ints (l ++ M) = S12.ints l ++ S12.ints M := by simp [S12.ints]
theorem ints_one (l : List Nat) : ∀ u ∈ S12.ints l, u.oneCell' = true := by
  intro u hu
  obtain ⟨n, -, rfl⟩ := List.mem_map.1 hu
  rfl
/-- append of any numbers onto a row of one's own, as a run. -/
theorem run_append_ints {w : World} {B : Nat} {v : Value} {l : List Nat} (h : w.ownsRow B 3 1 v l.length (S12.ints l)) (hB : B ≤ w.heap.size) {x : Value} {M : List Nat} (hx : Rn w x M) (hb : l.length + M.length ≤ 1000000) (rt : TypeId) :
    ∃ v' w', (Builtin.append_ #[37, 37] rt #[v, x]).run Tryz.prog w = .ok v' w' ∧ w'.ownsRow B 3 1 v' (l ++ M).length (S12.ints (l ++ M)) ∧ w.grownBy w' v.ownBlock ∧ (v'.ownBlock = v.ownBlock ∨ v'.ownBlock = some w.heap.size) := by
  obtain ⟨i0, hi, hz0, hz1, hz2⟩ := info_parts info_int
  obtain ⟨ao, c, rfl, hnone, hcap, hc⟩ := hx
  have ht := Tryz.underlying37
  cases ao with
  | some ad =>
    obtain ⟨v', w', hr, h2, h3, h4, h5⟩ := run_append_own_at (P := Tryz.prog) w B 37 rt 3 i0 (.int .i64 0) 1 8 ht hi hz0 hz1 hz2 rfl (by decide) v l.length (S12.ints l) h ad M.length c (S12.ints M) (by simp [S12.ints]) (by
      intro j u hj
      have hlt : j < M.length := by
        have := (List.getElem?_eq_some_iff.1 hj).1
        simpa [S12.ints] using this
      obtain ⟨g, off, e, -, hcc⟩ := hc j hlt
      cases e
      rw [Addr.add_lit, hcc, ← hj]
      simp [S12.ints, hlt]) (ints_one M) (by unfold maxLen; omega) (by omega) hB
    refine ⟨v', w', hr, ?_, h3, h5⟩
    rw [List.length_append, ints_append]
    exact h2
  | none =>
    have hm : M = [] := by
      rcases M with _ | ⟨y, M⟩
      · rfl
      · obtain ⟨g, off, e, -⟩ := hc 0 (by simp)
        cases e
    obtain rfl := hnone rfl
    subst hm
    refine ⟨v, w, ?_, by rw [List.append_nil]; exact h, ⟨rfl, rfl, rfl, Nat.le_refl _, fun _ _ _ => rfl⟩, .inl rfl⟩
    rcases row_shape h with ⟨rfl, h2, h3⟩ | ⟨g, cap, rfl, -⟩
    · simp [Builtin.append_, run_underlying ht, sizeOf, typeInfo, hi, Builtin.lenOf, Builtin.firstCells, loadCells, loadCellsFrom]
    · exact run_append_owned_none (P := Tryz.prog) w B 37 rt 3 i0 1 ht hi _ _ _ h
theorem wpList_append_ints (w : World) {ops : Array Oper} {rest : List Oper} {o : Oper} {a : Act} {Q : Exit → Act → World → Prop} (hgd : o.guard = none) (s x : Operand)
    (ho : o.op = .call { callee := .builtin .append, args := #[s, x], argTypes := #[37, 37] }) {B : Nat} {v : Value} {l : List Nat} (hs : a.eval s = v) (h : w.ownsRow B 3 1 v l.length (S12.ints l)) (hB : B ≤ w.heap.size)
    {u : Value} {M : List Nat} (hu : a.eval x = u) (hx : Rn w u M) (hb : l.length + M.length ≤ 1000000)
    (k : ∀ v' w', w'.ownsRow B 3 1 v' (l ++ M).length (S12.ints (l ++ M)) → w.grownBy w' v.ownBlock → (v'.ownBlock = v.ownBlock ∨ v'.ownBlock = some w.heap.size) → wpList Tryz.prog ops Q rest (a.put o.dst v') w') :
    wpList Tryz.prog ops Q (o :: rest) a w := by
  refine wpList_plain hgd fun K' hK' => ?_
  obtain ⟨v', w', hr, h2, h3, h4⟩ := run_append_ints h hB hx hb o.type
  unfold Oper.wp execOp
  simp only [ho, resolve, invoke, builtin, Sem.run_bind, Sem.run_pure, Result.andThen_ok, List.map_toArray, List.map_cons, List.map_nil, hs, hu, hr]
  exact hK' _ _ (k v' w' h2 h3 h4)

set_option maxHeartbeats 1600000 in
theorem clone_any {w : World} {v : Value} {l : List Nat} (h : Rn w v l) (hn : l.length ≤ 100000) :
    Calls Tryz.prog 46 #[v] w fun e w' => ∃ u, e = .returned u ∧ w'.ownsRow w.heap.size 3 1 u l.length (S12.ints l) ∧ Ex w w' := by
  have H := Lib.hid h
  obtain ⟨a, cap, rfl, hnone, hcap, hc⟩ := h
  cases a with
  | none =>
    have hm : l = [] := by
      rcases l with _ | ⟨y, l⟩
      · rfl
      · obtain ⟨g, off, e, -⟩ := hc 0 (by simp)
        cases e
    obtain rfl := hnone rfl
    subst hm
    clear hc H
    have hq : ∀ w : World, (binOp BinOp.eql 37 (.slice none 0 0) (.slice none 0 0)).run Tryz.prog w = .ok (.bool true) w := fun _ => by kernel_rfl
    go_enter Tryz.func46, Tryz.ntmps46
    go_wp2_with fail
    go_ret
    exact ⟨_, rfl, World.ownsRow_nil _ _ _ _, Ex.refl _⟩
  | some ad =>
    clear hc hnone
    have hq : ∀ (w : World) (n : Nat), (binOp BinOp.eql 37 (.slice (some ad) n cap) (.slice none 0 0)).run Tryz.prog w = .ok (.bool false) w := fun _ _ => by kernel_rfl
    have hrow : (w.alloc (.cells #[] 3)).ownsRow w.heap.size 3 1 (.slice (some ⟨w.heap.size, 0, none⟩) 0 0) ([] : List Nat).length (S12.ints []) :=
      ⟨rfl, .inr ⟨w.heap.size, 0, #[], rfl, Nat.le_refl _, heap_alloc_new w _, Nat.le_refl _, by unfold maxLen; omega, rfl, rfl⟩⟩
    have HR := Lib.hid hrow
    clear hrow
    go_enter Tryz.func46, Tryz.ntmps46
    go_wp2_with (at_builtin; refine wpList_append_ints _ rfl (.tmp 5) (.tmp 6) rfl (l := []) rfl HR.out (by simp) (M := l) rfl (H.out.ex (Ex.made w _)) (by simp; omega) ?_)
    intro v' w' hr hg hor
    have HO := Lib.hid hr
    have hx : Ex w w' := Below.grown (Ex.made w _) hg (by simp) (fun k hk => by cases hk; exact Nat.le_refl _)
    have HX := Lib.hid hx
    clear hr hg hor hx
    go_wp2_with fail
    go_ret
    exact ⟨_, rfl, by simpa using HO.out, HX.out⟩

end Go.Proofs.YtmlobpapjfkbmaaGreat

/- Package wait: who waits: reading. -/
namespace Go.Proofs.YtmlobpapjfkbmaaGreat
open Go.RowKit
set_option linter.unusedVariables false
set_option maxRecDepth 20000
set_option linter.unusedSimpArgs false

theorem idx_waits (wv : Nat → Value) (w : World) : ∀ i, i < 32 → (Instr.index 44 (.agg ((List.range 32).map wv).toArray) (.int .i64 (i : Nat))).run Tryz.prog w = .ok (wv i) w
  | 0, _ => by kernel_rfl
  | 1, _ => by kernel_rfl
  | 2, _ => by kernel_rfl
  | 3, _ => by kernel_rfl
  | 4, _ => by kernel_rfl
  | 5, _ => by kernel_rfl
  | 6, _ => by kernel_rfl
  | 7, _ => by kernel_rfl
  | 8, _ => by kernel_rfl
  | 9, _ => by kernel_rfl
  | 10, _ => by kernel_rfl
  | 11, _ => by kernel_rfl
  | 12, _ => by kernel_rfl
  | 13, _ => by kernel_rfl
  | 14, _ => by kernel_rfl
  | 15, _ => by kernel_rfl
  | 16, _ => by kernel_rfl
  | 17, _ => by kernel_rfl
  | 18, _ => by kernel_rfl
  | 19, _ => by kernel_rfl
  | 20, _ => by kernel_rfl
  | 21, _ => by kernel_rfl
  | 22, _ => by kernel_rfl
  | 23, _ => by kernel_rfl
  | 24, _ => by kernel_rfl
  | 25, _ => by kernel_rfl
  | 26, _ => by kernel_rfl
  | 27, _ => by kernel_rfl
  | 28, _ => by kernel_rfl
  | 29, _ => by kernel_rfl
  | 30, _ => by kernel_rfl
  | 31, _ => by kernel_rfl
  | n + 32, h => absurd h (by omega)

theorem place_any (w : World) (a : Nat) (ha : a < 32) : Calls Tryz.prog 89 #[.int .i64 (a : Nat)] w fun e w' => e = .returned (.bool true) ∧ w = w' := by
  have a1 : (a : Int) < 32 := by omega
  go_enter Tryz.func89, Tryz.ntmps89
  go_wp2_with fail
  go_ret
  exact ⟨rfl, rfl⟩

/-- Who waits, in memory. -/
structure Wt (w : World) (wb : Nat) (wv : Nat → Value) (W : List (List Nat)) : Prop where
  box : Box w wb ((List.range 32).map wv).toArray 107
  row : ∀ i, i < 32 → Rn w (wv i) (W.getD i [])
  len : W.length = 32
  small : ∀ i, (W.getD i []).length ≤ 100000
theorem Md.wt {w : World} {A : Adr} {t : Nat → Tg} {mb : Nat} {F : Fns} {m : MS} (h : Md w A t mb F m) (hs : ∀ i, (m.wait.getD i []).length ≤ 100000) : Wt w A.wb A.wv m.wait :=
  ⟨h.wbox.box, fun i hi => Rn.of (h.wait i hi).row, h.wlen, hs⟩
theorem Wt.ex {w w' : World} {wb : Nat} {wv : Nat → Value} {W : List (List Nat)} (h : Wt w wb wv W) (x : Ex w w') : Wt w' wb wv W := ⟨h.box.ex x, fun i hi => (h.row i hi).ex x, h.len, h.small⟩

def hasW (W : List (List Nat)) (g : Nat) : Bool := W.any (fun l => l.contains g)
theorem hasW_iff {W : List (List Nat)} (hl : W.length = 32) (g : Nat) : hasW W g = true ↔ ∃ i, i < 32 ∧ (W.getD i []).contains g = true := by
  unfold hasW
  rw [List.any_eq_true]
  constructor
  · rintro ⟨l, h1, h2⟩
    obtain ⟨i, hi, rfl⟩ := List.getElem_of_mem h1
    exact ⟨i, by omega, by simpa [hi] using h2⟩
  · rintro ⟨i, h1, h2⟩
    have hi : i < W.length := by omega
    refine ⟨W[i], List.getElem_mem hi, by simpa [hi] using h2⟩

set_option maxHeartbeats 3200000 in
theorem find_any {w : World} {wb : Nat} {wv : Nat → Value} {W : List (List Nat)} (h : Wt w wb wv W) (g : Nat) :
    Calls Tryz.prog 90 #[.pointer (some ⟨wb, 0, none⟩), .int .i64 (g : Nat)] w fun e w' => ∃ r : Int, e = .returned (.int .i64 r) ∧ (0 ≤ r ↔ hasW W g = true) ∧ w = w' := by
  have H := Lib.hid h
  have HB := Lib.hid h.box
  have ix := Lib.hid (fun w => idx_waits wv w)
  obtain ⟨cs, hcs⟩ : ∃ cs, ((List.range 32).map wv).toArray = cs := ⟨_, rfl⟩
  rw [hcs] at HB ix
  have HCS := Lib.hid hcs
  clear h hcs
  go_enter Tryz.func90, Tryz.ntmps90
  go_wp2_with (refine wpList_load_row rfl 44 (.tmp 9) rfl wb rfl 107 cs (0, 0) _ HB.out Tryz.underlying44 rfl (by rw [← HCS.out]; kernel_rfl) ?_)
  go_loopw [11] (fun iv wr => ∃ i : Nat, i ≤ 32 ∧ iv = .int .i64 i ∧ (∀ j, j < i → (W.getD j []).contains g = false) ∧ w = wr) (fun iv _ => 32 - (intOf iv).toNat)
  case atStart => exact ⟨0, by omega, rfl, fun j hj => by omega, rfl⟩
  case round =>
    obtain ⟨i, hi, rfl, hno, rfl⟩ := hrel
    have HNO := Lib.hid hno
    clear hno
    by_cases hlt : i < 32
    · have i1 : (i : Int) < 32 := by omega
      have i2 := fun w => ix.out w i hlt
      have K := Lib.hid (contains_any (H.out.row i hlt) (H.out.small i) g)
      obtain ⟨ct, hct⟩ : ∃ ct, (W.getD i []).contains g = ct := ⟨_, rfl⟩
      rw [hct] at K
      have HCT := Lib.hid hct
      clear hct
      cases ct with
      | true =>
        go_wp2_with fail
        refine K.out.mono ?_
        rintro e w' ⟨rfl, rfl⟩
        go_wp2_with fail
        go_ret
        exact ⟨_, rfl, ⟨fun _ => (hasW_iff H.out.len g).2 ⟨i, hlt, HCT.out⟩, fun _ => by omega⟩, rfl⟩
      | false =>
        go_wp2_with fail
        refine K.out.mono ?_
        rintro e w' ⟨rfl, rfl⟩
        go_wp2_with fail
        go_roundw
        case rel =>
          refine ⟨i + 1, by omega, by go_num, fun j hj => ?_, by first | rfl | trivial⟩
          rcases Nat.lt_or_ge j i with h | h
          · exact HNO.out j h
          · obtain rfl : j = i := by omega
            exact HCT.out
        case measure => simp [intOf]; omega
    · obtain rfl : i = 32 := by omega
      go_wp2_with fail
      go_ret
      refine ⟨_, rfl, ⟨fun h => absurd h (by omega), fun h => ?_⟩, rfl⟩
      obtain ⟨j, h1, h2⟩ := (hasW_iff H.out.len g).1 h
      rw [HNO.out j h1] at h2
      cases h2

/-- How many wait at the places below k. -/
def cntW (W : List (List Nat)) : Nat → Nat
  | 0 => 0
  | k + 1 => cntW W k + (W.getD k []).length
theorem cntW_le {W : List (List Nat)} (h : ∀ i, (W.getD i []).length ≤ 100000) : ∀ k, cntW W k ≤ k * 100000
  | 0 => Nat.le_refl _
  | k + 1 => by have := cntW_le h k; have := h k; simp only [cntW]; omega

set_option maxHeartbeats 3200000 in
theorem wlen_any {w : World} {wb : Nat} {wv : Nat → Value} {W : List (List Nat)} (h : Wt w wb wv W) :
    Calls Tryz.prog 76 #[.pointer (some ⟨wb, 0, none⟩)] w fun e w' => e = .returned (.int .i64 (cntW W 32 : Nat)) ∧ w = w' := by
  have H := Lib.hid h
  have HB := Lib.hid h.box
  have ix := Lib.hid (fun w => idx_waits wv w)
  obtain ⟨cs, hcs⟩ : ∃ cs, ((List.range 32).map wv).toArray = cs := ⟨_, rfl⟩
  rw [hcs] at HB ix
  have HCS := Lib.hid hcs
  have hle := Lib.hid (cntW_le h.small)
  clear h hcs
  go_enter Tryz.func76, Tryz.ntmps76
  go_wp2_with (refine wpList_load_row rfl 44 (.tmp 10) rfl wb rfl 107 cs (0, 0) _ HB.out Tryz.underlying44 rfl (by rw [← HCS.out]; kernel_rfl) ?_)
  go_loopw [3, 12] (fun nv iv wr => ∃ i : Nat, i ≤ 32 ∧ iv = .int .i64 i ∧ nv = .int .i64 (cntW W i : Nat) ∧ w = wr) (fun _ iv _ => 32 - (intOf iv).toNat)
  case atStart => exact ⟨0, by omega, rfl, rfl, rfl⟩
  case round =>
    obtain ⟨i, hi, rfl, rfl, rfl⟩ := hrel
    by_cases hlt : i < 32
    · have i1 : (i : Int) < 32 := by omega
      have i2 := fun w => ix.out w i hlt
      obtain ⟨a, cap, hv, -⟩ := H.out.row i hlt
      have hs := H.out.small i
      have hc := hle.out i
      obtain ⟨c, hcc⟩ : ∃ c, cntW W i = c := ⟨_, rfl⟩
      obtain ⟨l, hll⟩ : ∃ l, (W.getD i []).length = l := ⟨_, rfl⟩
      rw [hll] at hv hs
      rw [hcc] at hc ⊢
      have HCC : Hid (cntW W (i + 1) = c + l) := Lib.hid (by rw [cntW, hcc, hll])
      rw [hv] at i2
      clear hcc hll hv
      go_wp2_with fail
      go_roundw
      case rel => exact ⟨i + 1, by omega, by go_num, by rw [HCC.out]; go_num, by first | rfl | trivial⟩
      case measure => simp [intOf]; omega
    · obtain rfl : i = 32 := by omega
      have hc := hle.out 32
      go_wp2_with fail
      go_ret
      exact ⟨rfl, rfl⟩

end Go.Proofs.YtmlobpapjfkbmaaGreat

/- What a call leaves of a model. -/
namespace Go.Proofs.YtmlobpapjfkbmaaGreat
open Go.RowKit
set_option linter.unusedVariables false
set_option maxRecDepth 20000

/-- The model is m'; nothing else has turned. -/
def MdR (w : World) (A : Adr) (t : Nat → Tg) (mb : Nat) (F : Fns) (m' : MS) (w' : World) : Prop :=
  ∃ A' t', Md w' A' t' mb F m' ∧ New w' t' ∧ (∀ i, i < w.heap.size → t' i = t i) ∧ A'.pb = A.pb ∧ Chg (fun i => (t i).1 ≠ 0) w w'
theorem MdR.eff {w w' : World} {A : Adr} {t : Nat → Tg} {mb : Nat} {F : Fns} {m' : MS} (h : MdR w A t mb F m' w') {cb : Nat} {cc : CmI} {v : Int} (hc : Cb w A t cb cc v) : EffT w A t mb F cb cc m' v w' := by
  obtain ⟨A', t', h1, h2, h3, h4, h5⟩ := h
  exact ⟨A', t', h1, h2, h3, h4, hc.box.chg h5 (fun e => e hc.tag), h5.weak (fun _ _ h => .inl h)⟩
theorem mdr_ex {w w' : World} {A : Adr} {t : Nat → Tg} {mb : Nat} {F : Fns} {m : MS} (h : Md w A t mb F m) (n : New w t) (x : Ex w w') : MdR w A t mb F m w' :=
  ⟨A, t, h.ex (x.chg (fun _ => False)) (fun i hi => hi.elim), n.le x.size, fun _ _ => rfl, rfl, x.chg _⟩
/-- New blocks first. -/
theorem MdR.pre {w w1 w2 : World} {A : Adr} {t : Nat → Tg} {mb : Nat} {F : Fns} {m' : MS} (x : Ex w w1) (h : MdR w1 A t mb F m' w2) : MdR w A t mb F m' w2 := by
  obtain ⟨A', t', h1, h2, h3, h4, h5⟩ := h
  exact ⟨A', t', h1, h2, fun i hi => h3 i (Nat.lt_of_lt_of_le hi x.size), h4, (x.chg _).trans h5 (fun _ _ h => h)⟩
/-- One after the other. -/
theorem MdR.trans {w w1 w2 : World} {A : Adr} {t : Nat → Tg} {mb : Nat} {F : Fns} {m1 m2 : MS} (h : MdR w A t mb F m1 w1) (k : ∀ A' t', Md w1 A' t' mb F m1 → New w1 t' → MdR w1 A' t' mb F m2 w2) : MdR w A t mb F m2 w2 := by
  obtain ⟨A', t', h1, h2, h3, h4, h5⟩ := h
  obtain ⟨A2, t2, k1, k2, k3, k4, k5⟩ := k A' t' h1 h2
  exact ⟨A2, t2, k1, k2, fun i hi => (k3 i (Nat.lt_of_lt_of_le hi h5.size)).trans (h3 i hi), k4.trans h4, h5.trans k5 (fun i hi hf => by rw [h3 i hi] at hf; exact hf)⟩

theorem mdr_wput {w w' : World} {A : Adr} {t : Nat → Tg} {mb : Nat} {F : Fns} {m : MS} (h : Md w A t mb F m) (n : New w t) {a : Nat} (ha : a < 32) {v' : Value} {l : List Nat} (k : Chg (fun i => i = A.wb ∨ (A.wv a).ownBlock = some i) w w')
    (hb : Box w' A.wb ((List.range 32).map (fun i => if i = a then v' else A.wv i)).toArray 107) (hr : w'.ownsRow 0 3 1 v' l.length (S12.ints l)) (hor : ∀ b, v'.ownBlock = some b → (A.wv a).ownBlock = some b ∨ w.heap.size ≤ b) :
    MdR w A t mb F { m with wait := m.wait.set a l } w' := by
  have h' := h.retag n (tagv_old w t v'.ownBlock (12, a))
  have tg := fun b (hb : (A.wv a).ownBlock = some b) => (h.wait a ha).tag b hb
  refine ⟨_, tagv w t v'.ownBlock (12, a), h'.wput (P := fun i => i = A.wb ∨ (A.wv a).ownBlock = some i) a v' l ha hb ⟨hr, fun b hb => tagv_at hb ((hor b hb).imp (tg b) id)⟩ k ?_, tagv_new k.size (fun b hb => row_lt hr hb), tagv_old _ _ _ _, rfl, k.weak ?_⟩
  · rintro i (rfl | hi)
    · left; rw [h'.wbox.tag]; simp
    · left; rw [(h'.wait a ha).tag i hi]; simp
  · rintro i - (rfl | hi)
    · rw [h.wbox.tag]; simp
    · rw [tg i hi]; simp
theorem mdr_states {w w' : World} {A : Adr} {t : Nat → Tg} {mb : Nat} {F : Fns} {m : MS} (h : Md w A t mb F m) (n : New w t) {v' : Value} {L : List Nat} (k : Chg (S12.Of A.sb A.sv) w w')
    (hs : S12.St w' A.sb v' L) (hor : ∀ b, v'.ownBlock = some b → A.sv.ownBlock = some b ∨ w.heap.size ≤ b) : MdR w A t mb F { m with st := L } w' := by
  have h' := h.retag n (tagv_old w t v'.ownBlock (3, 0))
  refine ⟨_, tagv w t v'.ownBlock (3, 0), h'.states (P := S12.Of A.sb A.sv) v' L hs (fun b hb => tagv_at hb ((hor b hb).imp (h.stt.2 b) id)) k ?_, tagv_new k.size (fun b hb => row_lt hs.row hb), tagv_old _ _ _ _, rfl, k.weak ?_⟩
  · rintro i (rfl | hi)
    · left; rw [h'.stt.1]; simp
    · left; rw [h'.stt.2 i hi]; simp
  · rintro i - (rfl | hi)
    · rw [h.stt.1]; simp
    · rw [h.stt.2 i hi]; simp
theorem mdr_nxt {w w' : World} {A : Adr} {t : Nat → Tg} {mb : Nat} {F : Fns} {m : MS} (h : Md w A t mb F m) (n : New w t) {L : List Nat} (k : S12.Nxt w A.sb A.sv L w') : MdR w A t mb F { m with st := L } w' := by
  obtain ⟨v', h1, h2, h3⟩ := k
  exact mdr_states h n h2 h1 h3
theorem mdr_timers {w w' : World} {A : Adr} {t : Nat → Tg} {mb : Nat} {F : Fns} {m : MS} (h : Md w A t mb F m) (n : New w t) {o : Option Nat} {k' : Nat} {S : List T13.T3} (k : Chg (T13.Ob A.tb A.tr) w w')
    (hs : T13.TS w' A.tbase A.tb o k' S) (hor : T13.NewO w A.tr o) : MdR w A t mb F { m with sleep := S, k := k' } w' := by
  have h' := h.retag n (tagv_old w t o (8, 0))
  have hor' : ∀ b, o = some b → A.tr = some b ∨ w.heap.size ≤ b := fun b hb => by
    rcases hor with e | ⟨g, e, hg⟩
    · exact .inl (e ▸ hb)
    · rw [e] at hb; cases hb; exact .inr hg
  refine ⟨_, tagv w t o (8, 0), h'.timers (P := T13.Ob A.tb A.tr) o k' S hs (fun b hb => tagv_at hb ((hor' b hb).imp (h.tmt.2 b) id)) k ?_, tagv_new k.size (fun b hb => (hs.bl.2.2 b hb).2), tagv_old _ _ _ _, rfl, k.weak ?_⟩
  · rintro i (rfl | hi)
    · left; rw [h'.tmt.1]; simp
    · left; rw [h'.tmt.2 i hi]; simp
  · rintro i - (rfl | hi)
    · rw [h.tmt.1]; simp
    · rw [h.tmt.2 i hi]; simp
theorem mdr_oput {w w' : World} {A : Adr} {t : Nat → Tg} {mb : Nat} {F : Fns} {m : MS} (h : Md w A t mb F m) (n : New w t) {j : Nat} (hj : j < m.slots.length) {l : List Nat} (k : Chg (fun i => (A.ov j).ownBlock = some i) w w') (ho : w'.ownsRow 0 3 1 (A.ov j) l.length (S12.ints l)) :
    MdR w A t mb F { m with slots := m.slots.set j l } w' := by
  have tg := fun b (hb : (A.ov j).ownBlock = some b) => (h.slot j hj).tag b hb
  refine ⟨A, t, h.oput (P := fun i => (A.ov j).ownBlock = some i) j l ho k ?_, n.le k.size, fun _ _ => rfl, rfl, k.weak ?_⟩
  · intro i hi; left; rw [tg i hi]; simp
  · intro i _ hi; rw [tg i hi]; simp
theorem mdr_tick {w w' : World} {A : Adr} {t : Nat → Tg} {mb : Nat} {F : Fns} {m : MS} (h : Md w A t mb F m) (n : New w t) (c : Nat) (k : Chg (fun i => i = mb) w w') (hb : Box w' mb (mcells A c) 70) : MdR w A t mb F { m with clock := c } w' := by
  refine ⟨A, t, h.tick (P := fun i => i = mb) c hb k ?_, n.le k.size, fun _ _ => rfl, rfl, k.weak ?_⟩
  · rintro i rfl; left; rw [h.box.tag]; simp
  · rintro i - rfl; rw [h.box.tag]; simp
/-- An object more: its row o in a new block, the row of rows lv. -/
theorem mdr_onew {w w' : World} {A : Adr} {t : Nat → Tg} {mb : Nat} {F : Fns} {m : MS} (h : Md w A t mb F m) (n : New w t) {lv o : Value} {l : List Nat} (k : Chg (fun i => i = mb ∨ A.lv.ownBlock = some i) w w') (hb : Box w' mb (mcells { A with lv := lv } m.clock) 70)
    (hr : w'.ownsRow 0 37 1 lv (m.slots.length + 1) (((List.range m.slots.length).map A.ov) ++ [o])) (hor : ∀ b, lv.ownBlock = some b → A.lv.ownBlock = some b ∨ w.heap.size ≤ b) (ho : w'.ownsRow 0 3 1 o l.length (S12.ints l)) (hon : ∀ b, o.ownBlock = some b → w.heap.size ≤ b ∧ lv.ownBlock ≠ some b) :
    ∃ t', Md w' { A with lv := lv, ov := fun i => if i = m.slots.length then o else A.ov i } t' mb F { m with slots := m.slots ++ [l] } ∧ New w' t' ∧ (∀ i, i < w.heap.size → t' i = t i) ∧ Chg (fun i => (t i).1 ≠ 0) w w' := by
  let t' : Nat → Tg := fun i => if i < w.heap.size then t i else if lv.ownBlock = some i then (6, 0) else if o.ownBlock = some i then (11, m.slots.length) else (0, 0)
  have old : ∀ i, i < w.heap.size → t' i = t i := fun i hi => if_pos hi
  have h' := h.retag n old
  have e1 : ∀ b, lv.ownBlock = some b → t' b = (6, 0) := fun b hb => by
    show (if b < w.heap.size then t b else _) = _
    by_cases e : b < w.heap.size
    · rw [if_pos e]
      rcases hor b hb with h1 | h1
      · exact h.slr.tag b h1
      · omega
    · rw [if_neg e, if_pos hb]
  have e2 : ∀ b, o.ownBlock = some b → t' b = (11, m.slots.length) := fun b hb => by
    obtain ⟨h1, h2⟩ := hon b hb
    show (if b < w.heap.size then t b else _) = _
    rw [if_neg (by omega), if_neg h2, if_pos hb]
  refine ⟨t', h'.onew (P := fun i => i = mb ∨ A.lv.ownBlock = some i) lv o l hb ⟨hr, e1⟩ ⟨ho, e2⟩ k ?_, ?_, old, k.weak ?_⟩
  · rintro i (rfl | hi)
    · left; rw [h'.box.tag]; simp
    · left; rw [h'.slr.tag i hi]; simp
  · intro i hi
    show (if i < w.heap.size then t i else _).1 = 0
    have hs := k.size
    rw [if_neg (by omega), if_neg, if_neg]
    · intro e; have := row_lt ho e; omega
    · intro e; have := row_lt hr e; omega
  · rintro i - (rfl | hi)
    · rw [h.box.tag]; simp
    · rw [h.slr.tag i hi]; simp
/-- A goroutine more: its block b, the row gv. -/
theorem mdr_gnew {w w' : World} {A : Adr} {t : Nat → Tg} {mb : Nat} {F : Fns} {m : MS} (h : Md w A t mb F m) (n : New w t) {gv : Value} {b : Nat} {x : GS} (k : Chg (fun i => i = mb ∨ A.gv.ownBlock = some i) w w') (hb : Box w' mb (mcells { A with gv := gv } m.clock) 70)
    (hr : w'.ownsRow 0 78 1 gv (m.gs.length + 1) (ptrs A.gb m.gs.length ++ [.pointer (some ⟨b, 0, none⟩)])) (hor : ∀ b, gv.ownBlock = some b → A.gv.ownBlock = some b ∨ w.heap.size ≤ b) (hg : Box w' b (gcells x) 81) (hbn : w.heap.size ≤ b ∧ gv.ownBlock ≠ some b) :
    MdR w A t mb F { m with gs := m.gs ++ [x] } w' := by
  let t' : Nat → Tg := fun i => if i < w.heap.size then t i else if gv.ownBlock = some i then (4, 0) else if i = b then (10, m.gs.length) else (0, 0)
  have old : ∀ i, i < w.heap.size → t' i = t i := fun i hi => if_pos hi
  have h' := h.retag n old
  have e1 : ∀ b, gv.ownBlock = some b → t' b = (4, 0) := fun b hb => by
    show (if b < w.heap.size then t b else _) = _
    by_cases e : b < w.heap.size
    · rw [if_pos e]
      rcases hor b hb with h1 | h1
      · exact h.grow.tag b h1
      · omega
    · rw [if_neg e, if_pos hb]
  have e2 : t' b = (10, m.gs.length) := by
    obtain ⟨h1, h2⟩ := hbn
    show (if b < w.heap.size then t b else _) = _
    rw [if_neg (by omega), if_neg h2, if_pos rfl]
  refine ⟨_, t', h'.gnew (P := fun i => i = mb ∨ A.gv.ownBlock = some i) gv b x hb ⟨hr, e1⟩ ⟨hg, e2⟩ k ?_, ?_, old, rfl, k.weak ?_⟩
  · rintro i (rfl | hi)
    · left; rw [h'.box.tag]; simp
    · left; rw [h'.grow.tag i hi]; simp
  · intro i hi
    show (if i < w.heap.size then t i else _).1 = 0
    have hs := k.size
    rw [if_neg (by omega), if_neg, if_neg]
    · intro e; have := hg.lt; omega
    · intro e; have := row_lt hr e; omega
  · rintro i - (rfl | hi)
    · rw [h.box.tag]; simp
    · rw [h.grow.tag i hi]; simp

end Go.Proofs.YtmlobpapjfkbmaaGreat

/- Package wait: New, Wait, Wake. -/
namespace Go.Proofs.YtmlobpapjfkbmaaGreat
open Go.RowKit
set_option linter.unusedVariables false
set_option maxRecDepth 20000
set_option linter.unusedSimpArgs false

set_option maxHeartbeats 1600000 in
theorem wnew_any (w : World) : Calls Tryz.prog 22 #[] w fun e w' => e = .returned (.pointer (some ⟨w.heap.size, 0, none⟩)) ∧ w' = w.alloc (.cells ((List.range 32).map (fun _ => Value.slice none 0 0)).toArray 107) := by
  go_enter Tryz.func22, Tryz.ntmps22
  go_wp2_with fail
  go_ret
  exact ⟨rfl, rfl⟩

theorem wvcells (wv : Nat → Value) (a : Nat) (ha : a < 32) (v : Value) : ((List.range 32).map wv).toArray.setIfInBounds a v = ((List.range 32).map (fun i => if i = a then v else wv i)).toArray := by
  simp only [List.setIfInBounds_toArray]
  congr 1
  apply List.ext_getElem
  · simp
  · intro i h1 h2
    have hi : i < 32 := by simpa using h2
    by_cases e : i = a
    · subst e; simp
    · rw [List.getElem_set_ne (fun h => e h.symm)]; simp [e]

theorem wait_end {w w1 : World} {A : Adr} {t : Nat → Tg} {mb : Nat} {F : Fns} {m : MS} (h : Md w A t mb F m) (n : New w t) {a g wb g' cap : Nat} {v : Value} {l : List Nat} (ha : a < 32) (hwb : A.wb = wb) (hv : A.wv a = v) (hl : m.wait.getD a [] = l)
    (ho : w1.ownsRow 0 3 1 (.slice (some ⟨g', 0, none⟩) (l.length + 1) cap) (l.length + 1) (S12.ints l ++ [.int .i64 (g : Nat)])) (hg : ((w.alloc (.cells #[.int .i64 (g : Nat)] 3)).drew).grownBy w1 v.ownBlock)
    (hat : v.ownBlock = some g' ∨ g' = ((w.alloc (.cells #[.int .i64 (g : Nat)] 3)).drew).heap.size) :
    MdR w A t mb F { m with wait := m.wait.set a (m.wait.getD a [] ++ [g]) } (w1.setCell ⟨wb, a, none⟩ (.slice (some ⟨g', 0, none⟩) (l.length + 1) cap)) := by
  subst hwb hv
  have tg := fun b (hb : (A.wv a).ownBlock = some b) => (h.wait a ha).tag b hb
  have hne : (A.wv a).ownBlock ≠ some A.wb := fun e => by
    have h1 := tg _ e
    rw [h.wbox.tag] at h1; simp at h1
  have x1 : Ex w ((w.alloc (.cells #[.int .i64 (g : Nat)] 3)).drew) := (Ex.made w _).trans (Ex.drawn _ 1)
  have c1 := (x1.chg (fun i => i = A.wb ∨ (A.wv a).ownBlock = some i)).trans (Chg.grown (F := fun i => i = A.wb ∨ (A.wv a).ownBlock = some i) hg (fun i hi => .inr hi)) (fun _ _ h => h)
  have c2 := c1.trans (Chg.cell (F := fun i => i = A.wb ∨ (A.wv a).ownBlock = some i) w1 ⟨A.wb, a, none⟩ (.slice (some ⟨g', 0, none⟩) (l.length + 1) cap) (.inl rfl)) (fun _ _ h => h)
  have hbx : Box w1 A.wb ((List.range 32).map A.wv).toArray 107 := (hg.block A.wb (by have := h.wbox.box.lt; simp; omega) (fun e => hne e.symm)).trans (h.wbox.box.ex x1)
  have hgw : g' ≠ A.wb := by
    rcases hat with e | e
    · intro e2; exact hne (e2 ▸ e)
    · have := h.wbox.box.lt; have e : g' = w.heap.size + 1 := by simpa using e
      omega
  have hl' : m.wait.getD a [] ++ [g] = l ++ [g] := by rw [hl]
  rw [hl']
  refine mdr_wput h n ha c2 ?_ ?_ ?_ (v' := .slice (some ⟨g', 0, none⟩) (l.length + 1) cap)
  · rw [← wvcells A.wv a ha]; exact hbx.put a _
  · have e1 : (l ++ [g]).length = l.length + 1 := by simp
    rw [e1, ints_append]
    exact row_chg ho (Chg.cell (F := fun i => i = A.wb) w1 ⟨A.wb, a, none⟩ _ rfl) (fun b hb e => by cases hb; exact hgw e)
  · intro b hb
    cases hb
    rcases hat with e | e
    · exact .inl e
    · right; have e : g' = w.heap.size + 1 := by simpa using e
      show w.heap.size ≤ g'; omega

set_option maxHeartbeats 3200000 in
theorem wait_any {w : World} {A : Adr} {t : Nat → Tg} {mb : Nat} {F : Fns} {m : MS} (h : Md w A t mb F m) (n : New w t) (hs : ∀ i, (m.wait.getD i []).length ≤ 100000) (a g : Nat) (ha : a < 32) :
    Calls Tryz.prog 85 #[.pointer (some ⟨A.wb, 0, none⟩), .int .i64 (a : Nat), .int .i64 (g : Nat)] w
      fun e w' => (∃ r : Int, e = .returned (.int .i64 r)) ∧ MdR w A t mb F (if waits m g then m else { m with wait := m.wait.set a (m.wait.getD a [] ++ [g]) }) w' := by
  obtain ⟨m', hm'⟩ : ∃ m', (if waits m g then m else { m with wait := m.wait.set a (m.wait.getD a [] ++ [g]) }) = m' := ⟨_, rfl⟩
  rw [hm']
  have HM := Lib.hid hm'
  clear hm'
  have H := Lib.hid h
  have N := Lib.hid n
  have HWT := h.wt hs
  have K1 := Lib.hid (place_any w a ha)
  have K2 := Lib.hid (find_any HWT g)
  have hwb := h.wbox.box
  have hwl := hwb.lt
  have c1 : w.cell? ⟨A.wb, a, none⟩ = some (A.wv a) := by rw [hwb.cell]; simp [ha]
  have f1 := hwb.soft a
  have hr := (h.wait a ha).row
  have hw : waits m g = hasW m.wait g := rfl
  have hsa := hs a
  have a1 : (a : Int) < 32 := by omega
  have hne : (A.wv a).ownBlock ≠ some A.wb := fun e => by
    have h1 := (h.wait a ha).tag _ e
    have h2 := h.wbox.tag
    rw [h1] at h2; simp at h2
  have HNE := Lib.hid hne
  obtain ⟨wb, hwbe⟩ : ∃ b, A.wb = b := ⟨_, rfl⟩
  obtain ⟨v, hv⟩ : ∃ v, A.wv a = v := ⟨_, rfl⟩
  obtain ⟨l, hl⟩ : ∃ l, m.wait.getD a [] = l := ⟨_, rfl⟩
  have hr2 : w.ownsRow 0 3 1 v l.length (S12.ints l) := by
    have : m.wat a = l := hl
    rw [this, hv] at hr; exact hr
  rw [hv] at c1 HNE
  rw [hl] at hsa
  rw [hwbe] at K2 hwb hwl c1 f1 HNE ⊢
  have HR := Lib.hid hr2
  have HB := Lib.hid hwb
  have HV := Lib.hid hv
  have HL := Lib.hid hl
  have HWB := Lib.hid hwbe
  have HW := Lib.hid hw
  clear h n hr hr2 hwb hv hl hwbe hs HWT hw hne
  go_enter Tryz.func85, Tryz.ntmps85
  go_wp2_with fail
  refine K1.out.mono ?_
  rintro e w' ⟨rfl, rfl⟩
  go_wp2_with fail
  refine K2.out.mono ?_
  rintro e w' ⟨r, rfl, hr, rfl⟩
  cases hb : hasW m.wait g with
  | true =>
    have hr0 : (0 : Int) ≤ r := hr.2 hb
    have HBB := Lib.hid hb
    clear hr hb
    go_wp2_with fail
    go_ret
    refine ⟨⟨_, rfl⟩, ?_⟩
    rw [← HM.out, HW.out, HBB.out, if_pos rfl]
    exact mdr_ex H.out N.out (Ex.refl _)
  | false =>
    have hr0 : ¬ (0 : Int) ≤ r := fun h => by rw [hr.1 h] at hb; cases hb
    have HBB := Lib.hid hb
    clear hr hb
    go_upto_region 7 with fail
    obtain ⟨i0, hi, hz0, hz1, hz2⟩ := info_parts info_int
    have s1 : Hid (((w.alloc (.cells #[.int .i64 (g : Nat)] 3)).drew).ownsRow 0 3 1 v l.length (S12.ints l)) := Lib.hid (World.ownsRow.drew (World.ownsRow.alloc HR.out _))
    have s2 : Hid (∀ (j : Nat) (u : Value), [Value.int .i64 (g : Nat)][j]? = some u → ((w.alloc (.cells #[.int .i64 (g : Nat)] 3)).drew).cell? ((⟨w.heap.size, 0, none⟩ : Addr).add j) = some u) := Lib.hid (one_new w (.int .i64 (g : Nat)) 3)
    have s4 : Hid (∀ w1, ((w.alloc (.cells #[.int .i64 (g : Nat)] 3)).drew).grownBy w1 v.ownBlock → w1.cell? ⟨wb, a, none⟩ = some v ∧ w1.frozen? ⟨wb, a, none⟩ = false ∧ Box w1 wb ((List.range 32).map A.wv).toArray 107) := Lib.hid (by
      intro w1 hg
      have hbx : Box w1 wb ((List.range 32).map A.wv).toArray 107 := (hg.block wb (by simp; omega) (fun e => HNE.out e.symm)).trans ((HB.out.ex (Ex.made w _)).ex (Ex.drawn _ 1))
      exact ⟨by rw [hbx.cell, ← HV.out]; simp [ha], hbx.soft a, hbx⟩)
    go_region_law (refine step_append_lies _ rfl (.tmp 26) (.tmp 28) 37 rfl 0 3 i0 (.int .i64 0) 1 8 Tryz.underlying37 hi hz0 hz1 hz2 rfl (by decide) v l.length (S12.ints l) (by simp [Act.eval]) s1.out ⟨w.heap.size, 0, none⟩ 1 1 [.int .i64 (g : Nat)] (by simp [Act.eval]) rfl s2.out (by simp [Value.oneCell']) (by omega) (by unfold maxLen; omega) (by omega) (Nat.zero_le _) _ rfl ?_; intro g' cap w1 hown hgrow hat hlt; obtain ⟨cb, fb, hbx⟩ := s4.out w1 hgrow; have HBX := Lib.hid hbx; have HO := Lib.hid hown; have HG := Lib.hid hgrow; have HAT := Lib.hid hat; have HLT := Lib.hid hlt; clear hown hgrow hat hlt hbx)
    all_goals
      go_wp2_with fail
      go_ret
      refine ⟨⟨_, rfl⟩, ?_⟩
      rw [← HM.out, if_neg (by rw [HW.out, HBB.out]; simp)]
      exact wait_end H.out N.out ha HWB.out HV.out HL.out HO.out HG.out HAT.out

end Go.Proofs.YtmlobpapjfkbmaaGreat

/- Package wait: Wake. -/
namespace Go.Proofs.YtmlobpapjfkbmaaGreat
open Go.RowKit
set_option linter.unusedVariables false
set_option maxRecDepth 20000
set_option linter.unusedSimpArgs false

def WakeR (w : World) (A : Adr) (t : Nat → Tg) (mb : Nat) (F : Fns) (m : MS) (a : Nat) (e : Ending) (w' : World) : Prop :=
  match m.wait.getD a [] with
  | [] => e = .returned (.tuple #[.int .i64 0, .bool false]) ∧ w = w'
  | x :: l => e = .returned (.tuple #[.int .i64 (x : Nat), .bool true]) ∧ MdR w A t mb F { m with wait := m.wait.set a l } w'

theorem Rn.tail {w : World} {g x : Nat} {l : List Nat} {cap : Nat} (h : Rn w (.slice (some ⟨g, 0, none⟩) (l.length + 1) cap) (x :: l)) (ao : Option Addr) (hao : ao = if cap = 1 then some ⟨g, 0, none⟩ else some ⟨g, 1, none⟩) : Rn w (.slice ao l.length (cap - 1)) l := by
  obtain ⟨a, c, e, h1, h2, h3⟩ := h
  simp only [Value.slice.injEq] at e
  obtain ⟨rfl, -, rfl⟩ := e
  simp only [List.length_cons] at h2 h3
  refine ⟨ao, cap - 1, rfl, fun h => ?_, by omega, fun j hj => ?_⟩
  · rw [hao] at h; split at h <;> cases h
  · obtain ⟨g', off, e, hg, hc⟩ := h3 (j + 1) (by omega)
    cases e
    refine ⟨g, 1, ?_, hg, ?_⟩
    · rw [hao, if_neg (by omega)]
    · rw [show 1 + j = 0 + (j + 1) by omega, hc]; rfl

theorem wake_end {w w1 : World} {A : Adr} {t : Nat → Tg} {mb : Nat} {F : Fns} {m : MS} (h : Md w A t mb F m) (n : New w t) {a wb : Nat} {u : Value} {l : List Nat} (ha : a < 32) (hwb : A.wb = wb) (x1 : Ex w w1) {B : Nat} (hB : w.heap.size ≤ B)
    (ho : w1.ownsRow B 3 1 u l.length (S12.ints l)) {W : World} (hW : W = w1.setCell ⟨wb, a, none⟩ u) : MdR w A t mb F { m with wait := m.wait.set a l } W := by
  subst hwb hW
  have hwl := h.wbox.box.lt
  have c2 := (x1.chg (fun i => i = A.wb ∨ (A.wv a).ownBlock = some i)).trans (Chg.cell (F := fun i => i = A.wb ∨ (A.wv a).ownBlock = some i) w1 ⟨A.wb, a, none⟩ u (.inl rfl)) (fun _ _ h => h)
  have hge : ∀ b, u.ownBlock = some b → B ≤ b := fun b hb => by
    rcases row_shape ho with ⟨rfl, -⟩ | ⟨g, cap, rfl, h2, -⟩
    · cases hb
    · cases hb; exact h2
  have ho0 : w1.ownsRow 0 3 1 u l.length (S12.ints l) := by
    refine ⟨ho.1, ?_⟩
    rcases ho.2 with ⟨h1, h2⟩ | ⟨g, cap, cur, h1, h2, h3⟩
    · exact .inl ⟨h1, h2⟩
    · exact .inr ⟨g, cap, cur, h1, Nat.zero_le _, h3⟩
  refine mdr_wput h n ha c2 ?_ ?_ (fun b hb => .inr (Nat.le_trans hB (hge b hb)))
  · rw [← wvcells A.wv a ha]; exact (h.wbox.box.ex x1).put a _
  · exact row_chg ho0 (Chg.cell (F := fun i => i = A.wb) w1 ⟨A.wb, a, none⟩ _ rfl) (fun b hb e => by have := hge b hb; omega)

set_option maxHeartbeats 3200000 in
theorem wake_any {w : World} {A : Adr} {t : Nat → Tg} {mb : Nat} {F : Fns} {m : MS} (h : Md w A t mb F m) (n : New w t) (hs : ∀ i, (m.wait.getD i []).length ≤ 100000) (a : Nat) (ha : a < 32) :
    Calls Tryz.prog 86 #[.pointer (some ⟨A.wb, 0, none⟩), .int .i64 (a : Nat)] w (WakeR w A t mb F m a) := by
  have H := Lib.hid h
  have N := Lib.hid n
  have K1 := Lib.hid (place_any w a ha)
  have hwb := h.wbox.box
  have hwl := hwb.lt
  have c1 : w.cell? ⟨A.wb, a, none⟩ = some (A.wv a) := by rw [hwb.cell]; simp [ha]
  have f1 := hwb.soft a
  have hr := (h.wait a ha).row
  have hsa := hs a
  have a1 : (a : Int) < 32 := by omega
  obtain ⟨wb, hwbe⟩ : ∃ b, A.wb = b := ⟨_, rfl⟩
  obtain ⟨v, hv⟩ : ∃ v, A.wv a = v := ⟨_, rfl⟩
  obtain ⟨l, hl⟩ : ∃ l, m.wait.getD a [] = l := ⟨_, rfl⟩
  have hr2 : w.ownsRow 0 3 1 v l.length (S12.ints l) := by
    have : m.wat a = l := hl
    rw [this, hv] at hr; exact hr
  rw [hv] at c1
  rw [hl] at hsa
  rw [hwbe] at hwb hwl c1 f1 ⊢
  have HWB := Lib.hid hwbe
  unfold WakeR
  rw [hl]
  have HB := Lib.hid hwb
  cases l with
  | nil =>
    obtain ⟨va, vc, rfl⟩ : ∃ a c, v = .slice a 0 c := by
      rcases row_shape hr2 with ⟨h1, -⟩ | ⟨g, cap, h1, -⟩
      · exact ⟨none, 0, h1⟩
      · exact ⟨_, cap, h1⟩
    clear h n hr hr2 hwb hv hl hwbe hs
    go_enter Tryz.func86, Tryz.ntmps86
    go_wp2_with fail
    refine K1.out.mono ?_
    rintro e w' ⟨rfl, rfl⟩
    go_wp2_with fail
    exact bodyPost_ret (v := .tuple #[.int .i64 0, .bool false]) (by simp [results, Tryz.results86, go_sem]) rfl ⟨rfl, rfl⟩
  | cons x l =>
    have HRn := Lib.hid (Rn.of hr2)
    obtain ⟨g, cap, rfl, glt, hcap⟩ : ∃ g cap, v = .slice (some ⟨g, 0, none⟩) (l.length + 1) cap ∧ g < w.heap.size ∧ l.length + 1 ≤ cap := by
      rcases row_shape hr2 with ⟨-, h2, -⟩ | ⟨g, cap, h1, -, h3, h4, -⟩
      · simp at h2
      · exact ⟨g, cap, h1, h3, h4⟩
    have c2 : w.cell? ⟨g, 0, none⟩ = some (.int .i64 (x : Nat)) := by rw [hr2.cellAt 0 (by simp)]; rfl
    have hsl : l.length ≤ 100000 := by simp only [List.length_cons] at hsa; omega
    obtain ⟨k, hk⟩ : ∃ k, l.length = k := ⟨_, rfl⟩
    obtain ⟨ao, hao⟩ : ∃ ao, (if cap = 1 then some (⟨g, 0, none⟩ : Addr) else some ⟨g, 1, none⟩) = ao := ⟨_, rfl⟩
    have KC : Hid (∀ W, Ex w W → Calls Tryz.prog 46 #[.slice ao k (cap - 1)] W fun e w' => ∃ u, e = .returned u ∧ w'.ownsRow W.heap.size 3 1 u k (S12.ints l) ∧ Ex W w') := Lib.hid (fun W hW => by
      have := clone_any ((Rn.tail HRn.out ao hao.symm).ex hW) hsl
      rw [hk] at this
      exact this)
    rw [hk] at c1 hcap hsl
    have HK := Lib.hid hk
    have k1 : (0 : Int) < (k : Int) + 1 := by omega
    have kb : ((k : Int) + 1 == 0) = false := by simp; omega
    clear h n hr hr2 hwb hv hl hwbe hs hsa hk HRn
    go_enter Tryz.func86, Tryz.ntmps86
    go_wp2_with fail
    refine K1.out.mono ?_
    rintro e w' ⟨rfl, rfl⟩
    go_upto_region 4 with fail
    have s4 : Hid (∀ W1, Ex w W1 → W1.cell? ⟨wb, a, none⟩ = some (.slice (some ⟨g, 0, none⟩) (k + 1) cap) ∧ W1.frozen? ⟨wb, a, none⟩ = false) := Lib.hid (fun W1 hx => ⟨(hx.cell (p := ⟨wb, a, none⟩) hwl).trans c1, (hx.frozen (p := ⟨wb, a, none⟩) hwl).trans f1⟩)
    go_region_with (go_at_call 46; (first | rw [hao] | skip); refine (KC.out _ (Ex.drawn _ _)).mono ?_; rintro e w1 ⟨u, rfl, hrow, hx⟩; obtain ⟨ua, uc, rfl⟩ := T13.row_val hrow; obtain ⟨cb, fb⟩ := s4.out w1 ((Ex.drawn _ _).trans hx); have HO := Lib.hid hrow; have HX := Lib.hid hx; clear hrow hx)
    all_goals
      go_wp2_with fail
      refine bodyPost_ret (v := .tuple #[.int .i64 (x : Nat), .bool true]) (by simp [results, Tryz.results86, go_sem]) rfl ⟨rfl, ?_⟩
      have ho := HO.out
      obtain rfl := HK.out
      exact wake_end H.out N.out ha HWB.out ((Ex.drawn _ _).trans HX.out) (Nat.le_refl _) ho rfl

end Go.Proofs.YtmlobpapjfkbmaaGreat

/- A model's instructions: slots of objects. -/
namespace Go.Proofs.YtmlobpapjfkbmaaGreat
open Go.RowKit
set_option linter.unusedVariables false
set_option maxRecDepth 20000
set_option linter.unusedSimpArgs false

def panicF : Ending := .panicked [{ v := faultV, recovered := false }]
/-- The row of rows, read. -/
theorem Md.lvat {w : World} {A : Adr} {t : Nat → Tg} {mb : Nat} {F : Fns} {m : MS} (h : Md w A t mb F m) {id : Nat} (hid : id < m.slots.length) : ∃ lb cap, A.lv = .slice (some ⟨lb, 0, none⟩) m.slots.length cap ∧ lb < w.heap.size ∧ m.slots.length ≤ cap ∧ w.cell? ⟨lb, id, none⟩ = some (A.ov id) := by
  rcases row_shape h.slr.row with ⟨-, h2, -⟩ | ⟨b, cap, h1, -, h3, h4, -⟩
  · omega
  · have hr := h.slr.row
    rw [h1] at hr
    refine ⟨b, cap, h1, h3, h4, ?_⟩
    rw [hr.cellAt id (by omega)]
    simp [hid]
theorem effD_none {w w' : World} {A : Adr} {t : Nat → Tg} {mb : Nat} {F : Fns} {cb : Nat} {cc : CmI} {r : MS × Int × Option Nat} {m' : MS} {v v' : Int} {e : Ending} (hr : r = (m', v, none)) (h1 : e = panicF) (h2 : EffT w A t mb F cb cc m' v' w') : EffD w A t mb F cb cc r e w' := by
  subst hr; exact ⟨h1, v', h2⟩

set_option maxHeartbeats 3200000 in
theorem slot_bad {w : World} {A : Adr} {t : Nat → Tg} {mb : Nat} {F : Fns} {m : MS} (h : Md w A t mb F m) {g : Nat} (hg : g < m.gs.length) (hl : (m.at g).stack.length = 16) (a i : Nat) (ha : a < 16) (hv : (m.at g).val a < m.slots.length) (hn : m.slots.length ≤ 100000) (hon : ∀ i, (m.slots.getD i []).length ≤ 1000)
    (hb : (m.at g).val a = 0 ∨ (m.slots.getD ((m.at g).val a) []).length ≤ i) :
    Calls Tryz.prog 83 #[.pointer (some ⟨mb, 0, none⟩), .pointer (some ⟨A.gb g, 0, none⟩), .int .i64 (a : Nat), .int .i64 (i : Nat)] w fun e w' => e = panicF ∧ w = w' := by
  have hB := (h.gor g hg).box
  have xa := gcells_at (m.at g) a (by omega)
  rw [← hB.cell] at xa
  have m4 : w.cell? ⟨mb, 5, none⟩ = some A.lv := h.box.box.cell 5
  obtain ⟨lb, cap, hlv, llt, lcap, lc⟩ := h.lvat hv
  rw [hlv] at m4
  obtain ⟨va, hva⟩ : ∃ v, (m.at g).val a = v := ⟨_, rfl⟩
  rw [hva] at xa hv hb lc
  obtain ⟨sa, sc, hsv⟩ := T13.row_val (h.slot va hv).row
  rw [hsv] at lc
  have hoj : (m.obj va).length = (m.slots.getD va []).length := rfl
  rw [hoj] at lc
  obtain ⟨ol, hol⟩ : ∃ k, (m.slots.getD va []).length = k := ⟨_, rfl⟩
  rw [hol] at lc hb
  have ho9 : ol ≤ 1000 := hol ▸ hon va
  obtain ⟨sl, hsl⟩ : ∃ k, m.slots.length = k := ⟨_, rfl⟩
  rw [hsl] at m4 lcap hv hn
  obtain ⟨gb, hgb⟩ : ∃ gb, A.gb g = gb := ⟨_, rfl⟩
  rw [hgb] at xa ⊢
  have a1 : (a : Int) < 16 := by omega
  have v1 : (va : Int) < (sl : Int) := by omega
  clear h hg hl hB hlv hva hsv hoj hol hsl hgb hon
  by_cases h0 : va = 0
  · subst h0
    rw [show ((0 : Nat) : Int) = 0 from rfl] at xa
    clear hb v1 lc
    go_enter Tryz.func83, Tryz.ntmps83
    go_wp2_with fail
    exact ⟨rfl, rfl, rfl⟩
  · have hd : ((va : Int) == 0) = false := by simp; omega
    have hi : (ol : Int) ≤ (i : Int) := by omega
    clear hb h0
    go_enter Tryz.func83, Tryz.ntmps83
    go_wp2_with fail
    exact ⟨rfl, rfl, rfl⟩

set_option maxHeartbeats 3200000 in
theorem slot_ok {w : World} {A : Adr} {t : Nat → Tg} {mb : Nat} {F : Fns} {m : MS} (h : Md w A t mb F m) {g : Nat} (hg : g < m.gs.length) (hl : (m.at g).stack.length = 16) (a i : Nat) (ha : a < 16) (hv : (m.at g).val a < m.slots.length) (hn : m.slots.length ≤ 100000) (hon : ∀ i, (m.slots.getD i []).length ≤ 1000)
    (h0 : (m.at g).val a ≠ 0) {ob oc : Nat} (hob : A.ov ((m.at g).val a) = .slice (some ⟨ob, 0, none⟩) (m.slots.getD ((m.at g).val a) []).length oc) (hoc : (m.slots.getD ((m.at g).val a) []).length ≤ oc) (hi : i < (m.slots.getD ((m.at g).val a) []).length) :
    Calls Tryz.prog 83 #[.pointer (some ⟨mb, 0, none⟩), .pointer (some ⟨A.gb g, 0, none⟩), .int .i64 (a : Nat), .int .i64 (i : Nat)] w fun e w' => e = .returned (.pointer (some ⟨ob, i, none⟩)) ∧ w = w' := by
  have hB := (h.gor g hg).box
  have xa := gcells_at (m.at g) a (by omega)
  rw [← hB.cell] at xa
  have m4 : w.cell? ⟨mb, 5, none⟩ = some A.lv := h.box.box.cell 5
  obtain ⟨lb, cap, hlv, llt, lcap, lc⟩ := h.lvat hv
  rw [hlv] at m4
  rw [hob] at lc
  obtain ⟨va, hva⟩ : ∃ v, (m.at g).val a = v := ⟨_, rfl⟩
  rw [hva] at xa hv lc hi h0 hoc
  obtain ⟨ol, hol⟩ : ∃ k, (m.slots.getD va []).length = k := ⟨_, rfl⟩
  rw [hol] at lc hi hoc
  have ho9 : ol ≤ 1000 := hol ▸ hon va
  obtain ⟨sl, hsl⟩ : ∃ k, m.slots.length = k := ⟨_, rfl⟩
  rw [hsl] at m4 lcap hv hn
  obtain ⟨gb, hgb⟩ : ∃ gb, A.gb g = gb := ⟨_, rfl⟩
  rw [hgb] at xa ⊢
  have a1 : (a : Int) < 16 := by omega
  have v1 : (va : Int) < (sl : Int) := by omega
  have hd : ((va : Int) == 0) = false := by simp; omega
  have hi' : (i : Int) < (ol : Int) := by omega
  clear h hg hl hB hlv hva hol hsl hgb h0 hob hon
  go_enter Tryz.func83, Tryz.ntmps83
  go_wp2_with fail
  go_ret
  exact ⟨rfl, rfl⟩

end Go.Proofs.YtmlobpapjfkbmaaGreat

/- A region that draws its order, whose last operation waits for all others: what is held need not hold behind the last. -/
namespace Go.Proofs.YtmlobpapjfkbmaaGreat
open Go
set_option linter.unusedVariables false
set_option maxRecDepth 20000

/-- Each operation but the n-th is waited for by a later one. -/
def lastOf (md : Region.Mode) (ops : Array Oper) (n : Nat) : Bool :=
  ops.size == n + 1 && (List.range n).all fun i => (List.range ops.size).any fun j => decide (i < j) && ((ops[j]?).map fun o => o.after.any fun e => Region.binds md e && e.on == i).getD false
/-- Who is listed was waited for by none that isn't. -/
def ClosedL (md : Region.Mode) (ops : Array Oper) (listed : Array Bool) : Prop :=
  ∀ (j : Nat) (o : Oper), ops[j]? = some o → listed.getD j true = true → ∀ e ∈ o.after, Region.binds md e = true → listed.getD e.on true = true

section
variable {P : Program} {ops : Array Oper} {Q : Exit → Act → World → Prop} {md : Region.Mode} {S : World → Prop} {n : Nat}

theorem getD_true {listed : Array Bool} {i : Nat} (h : listed.getD i false = true) : listed.getD i true = true := by
  rcases Nat.lt_or_ge i listed.size with h' | h'
  · simp [h'] at h ⊢; exact h
  · simp [Array.getElem?_eq_none h'] at h
theorem getD_set_t {listed : Array Bool} {i j : Nat} (h : listed.getD j true = true) : (listed.setIfInBounds i true).getD j true = true := by
  by_cases hij : i = j
  · subst hij
    rcases Nat.lt_or_ge i listed.size with h' | h'
    · simp [h']
    · simp [Nat.not_lt.2 h']
  · rw [getD_set_ne true hij]; exact h
theorem ClosedL.set {listed : Array Bool} (h : ClosedL md ops listed) {i : Nat} (hi : i ∈ Region.ready md ops listed) : ClosedL md ops (listed.setIfInBounds i true) := by
  intro j o ho hl e he hb
  by_cases hij : i = j
  · subst hij
    obtain ⟨-, o2, ho2, hall⟩ := mem_ready.1 hi
    rw [ho] at ho2
    cases ho2
    exact getD_set_t (getD_true (hall e he hb))
  · rw [getD_set_ne true hij] at hl
    exact getD_set_t (h j o ho hl e he hb)
/-- When the last may come up all others have. -/
theorem lastOf_all {listed : Array Bool} (hl : lastOf md ops n = true) (hc : ClosedL md ops listed) (hn : n ∈ Region.ready md ops listed) : ∀ (d i : Nat), i + d = n → i ≠ n → listed.getD i true = true := by
  unfold lastOf at hl
  rw [Bool.and_eq_true, List.all_eq_true] at hl
  obtain ⟨hsz, hall⟩ := hl
  have hsz : ops.size = n + 1 := by simpa using hsz
  intro d
  induction d using Nat.strongRecOn with
  | ind d ih =>
    intro i hid hne
    have h1 := hall i (by rw [List.mem_range]; omega)
    rw [List.any_eq_true] at h1
    obtain ⟨j, hj, h2⟩ := h1
    rw [Bool.and_eq_true] at h2
    obtain ⟨h3, h4⟩ := h2
    have h3 : i < j := by simpa using h3
    have hjn : j < n + 1 := by rw [List.mem_range, hsz] at hj; exact hj
    cases ho : ops[j]? with
    | none => rw [ho] at h4; cases h4
    | some o =>
      rw [ho] at h4
      have h5 : (o.after.any fun e => Region.binds md e && e.on == i) = true := h4
      obtain ⟨k, hk, h6, hei⟩ : ∃ (k : Nat) (h : k < o.after.size), Region.binds md o.after[k] = true ∧ o.after[k].on = i := by simpa using h5
      have he := Array.getElem_mem hk
      generalize o.after[k] = e at he h6 hei
      by_cases hjn2 : j = n
      · subst hjn2
        obtain ⟨-, o2, ho2, hal⟩ := mem_ready.1 hn
        rw [ho] at ho2
        cases ho2
        have := hal e he h6
        rw [hei] at this
        exact getD_true this
      · have h7 := ih (n - j) (by omega) j (by omega) hjn2
        have := hc j o ho h7 e he h6
        rwa [hei] at this

/-- Whatever order is picked from here on; S holds behind each but the last. -/
def wpAnyL (P : Program) (md : Region.Mode) (ops : Array Oper) (Q : Exit → Act → World → Prop) (S : World → Prop) (n : Nat) : Nat → Array Bool → Act → World → Prop
  | 0, listed, a, w => Region.ready md ops listed = [] ∧ Q .normal a w
  | fuel + 1, listed, a, w =>
    (Region.ready md ops listed = [] → Q .normal a w) ∧
    ∀ i ∈ Region.ready md ops listed, wpOp P ops Q i (fun a' w' => (i ≠ n → S w') ∧ wpAnyL P md ops Q S n fuel (listed.setIfInBounds i true) a' w') a w

theorem wpAny_of_last : ∀ (fuel : Nat) (listed : Array Bool) (a : Act) (w : World), wpAnyL P md ops Q S n fuel listed a w → wpAny P md ops Q fuel listed a w
  | 0, _, _, _, h => h
  | fuel + 1, _, _, _, h => ⟨h.1, fun i hi => wpOp_mono (fun a' w' h' => wpAny_of_last fuel _ a' w' h'.2) (h.2 i hi)⟩

theorem wpAnyL_first {i : Nat} {oi : Oper} {v : Value} (hn : lastOf md ops n = true) (hin : i ≠ n) (hi : ops[i]? = some oi) (hsel : ∀ (j : Nat) (o : Oper) cs b, ops[j]? = some o → o.op ≠ .select cs b)
    (hQ : ∀ c a w, Q (.panic c) (a.put oi.dst v) w → Q (.panic c) a w) :
    ∀ (fuel : Nat) (listed : Array Bool) (a : Act) (w : World), ClosedL md ops listed →
      (∀ j oj, ops[j]? = some oj → j ≠ i → listed.getD j true = false → (∀ e ∈ oj.after, Region.binds md e = true → e.on ≠ i) → oi.apart ops oj = true) →
      i ∈ Region.ready md ops listed → YieldsIf P ops S oi v a → S w →
      wpAnyL P md ops Q S n fuel (listed.setIfInBounds i true) (a.put oi.dst v) w → wpAnyL P md ops Q S n (fuel + 1) listed a w := by
  intro fuel
  induction fuel with
  | zero =>
    intro listed a w _ _ hr hy hS H
    refine ⟨fun h => (by rw [h] at hr; cases hr), fun j hj => ?_⟩
    by_cases hji : j = i
    · subst hji; exact hy.wpOp hi hS ⟨fun _ => hS, H⟩
    · have := ready_mono hj hji
      rw [H.1] at this
      cases this
  | succ fuel ih =>
    intro listed a w hcl hfree hr hy hS H
    refine ⟨fun h => (by rw [h] at hr; cases hr), fun j hj => ?_⟩
    by_cases hji : j = i
    · subst hji; exact hy.wpOp hi hS ⟨fun _ => hS, H⟩
    · have hjn : j ≠ n := fun e => by
        subst e
        have hlt : i ≤ j := by
          have h1 := (Array.getElem?_eq_some_iff.1 hi).1
          unfold lastOf at hn
          rw [Bool.and_eq_true] at hn
          have : ops.size = j + 1 := by simpa using hn.1
          omega
        have h2 := lastOf_all hn hcl hj (j - i) i (by omega) hin
        rw [(mem_ready.1 hr).1] at h2
        cases h2
      have h1 := H.2 j (ready_mono hj hji)
      obtain ⟨hjun, oj, hoj, hall⟩ := mem_ready.1 hj
      have hnot : ∀ e ∈ oj.after, Region.binds md e = true → e.on ≠ i := fun e he hb heq => by
        have h1 := hall e he hb
        have h0 := (mem_ready.1 hr).1
        rw [heq] at h1
        rw [getD_true h1] at h0
        cases h0
      have h2 := wpOp_putIf hoj (hfree j oj hoj hji hjun hnot) (fun cs b => hsel i oi cs b hi) (fun cs b => hsel j oj cs b hoj) hQ hy h1
      have hfree' : ∀ k ok, ops[k]? = some ok → k ≠ i → (listed.setIfInBounds j true).getD k true = false →
          (∀ e ∈ ok.after, Region.binds md e = true → e.on ≠ i) → oi.apart ops ok = true := fun k ok hk hki hun hno => by
        refine hfree k ok hk hki ?_ hno
        by_cases hjk : j = k
        · subst hjk; exact hjun
        · rw [getD_set_ne true hjk] at hun; exact hun
      refine wpOp_mono (fun a' w' h3 => ⟨h3.2.1, ih (listed.setIfInBounds j true) a' w' (hcl.set hj) hfree' (ready_mono hr (Ne.symm hji)) h3.1 (h3.2.1 hjn) ?_⟩) h2
      rw [Array.setIfInBounds_comm _ _ hji]
      exact h3.2.2

/-- The walk's goal: what is listed is closed. -/
def HeldL (P : Program) (md : Region.Mode) (ops : Array Oper) (Q : Exit → Act → World → Prop) (S : World → Prop) (n : Nat) (fuel : Nat) (listed : Array Bool) (a : Act) (w : World) : Prop :=
  lastOf md ops n = true → ClosedL md ops listed → wpAnyL P md ops Q S n fuel listed a w

theorem heldL_take {i : Nat} {oi : Oper} {v : Value} {fuel : Nat} {listed : Array Bool} {a : Act} {w : World} (hi : ops[i]? = some oi) (hin : (i == n) = false)
    (hs : Region.noSelect ops = true) (hf : Region.free md ops listed i = true) (hr : (Region.ready md ops listed).contains i = true)
    (hQ : ∀ c a w, Q (.panic c) (a.put oi.dst v) w → Q (.panic c) a w) (hy : YieldsIf P ops S oi v a) (hS : S w)
    (h : HeldL P md ops Q S n fuel (listed.setIfInBounds i true) (a.put oi.dst v) w) : HeldL P md ops Q S n (fuel + 1) listed a w := fun hn hc =>
  wpAnyL_first hn (by simpa using hin) hi (Region.noSelect_spec hs) hQ fuel listed a w hc (Region.free_spec hi hf) (by simpa using hr) hy hS (h hn (hc.set (by simpa using hr)))

def AllL (P : Program) (md : Region.Mode) (ops : Array Oper) (Q : Exit → Act → World → Prop) (S : World → Prop) (n : Nat) (fuel : Nat) (listed : Array Bool) (a : Act) (w : World) (rs : List Nat) : Prop :=
  ∀ i ∈ rs, wpOp P ops Q i (fun a' w' => (i ≠ n → S w') ∧ HeldL P md ops Q S n fuel (listed.setIfInBounds i true) a' w') a w
theorem AllL.nil {fuel : Nat} {listed : Array Bool} {a : Act} {w : World} : AllL P md ops Q S n fuel listed a w [] := fun _ h => by cases h
theorem AllL.cons {fuel : Nat} {listed : Array Bool} {a : Act} {w : World} {i : Nat} {o : Oper} {rs : List Nat} (ho : ops[i]? = some o)
    (h : ∀ K' : Act → World → Prop, Shut (∀ a w, (i ≠ n → S w) → ((i ≠ n → S w) → HeldL P md ops Q S n fuel (listed.setIfInBounds i true) a w) → K' a w) → if Region.wanted o (yielded ops a.tmps) = true then Oper.wp P o a w K' Q else K' (a.put o.dst undef) w)
    (hs : AllL P md ops Q S n fuel listed a w rs) : AllL P md ops Q S n fuel listed a w (i :: rs) := fun j hj => by
  rcases List.mem_cons.1 hj with rfl | hj
  · exact wpOp_step ho (fun K' hK => h K' (fun a w hS hW => hK a w ⟨hS, hW hS⟩))
  · exact hs j hj
theorem heldL_ready {rs : List Nat} {fuel : Nat} {listed : Array Bool} {a : Act} {w : World} (hr : Region.ready md ops listed = rs) (hne : rs ≠ [])
    (h : AllL P md ops Q S n fuel listed a w rs) : HeldL P md ops Q S n (fuel + 1) listed a w := fun hn hc =>
  ⟨fun h0 => absurd (hr ▸ h0) hne, fun i hi => wpOp_mono (fun a' w' h' => ⟨h'.1, h'.2 hn (hc.set hi)⟩) (h i (hr ▸ hi))⟩
theorem heldL_done {listed : Array Bool} {a : Act} {w : World} (hr : Region.ready md ops listed = []) (h : Q .normal a w) :
    ∀ fuel, HeldL P md ops Q S n fuel listed a w
  | 0 => fun _ _ => ⟨hr, h⟩
  | _ + 1 => fun _ _ => ⟨fun _ => h, by rw [hr]; simp⟩

/-- The last operation's step alone. -/
theorem heldL_last {fuel : Nat} {listed : Array Bool} {a : Act} {w : World} (hr : Region.ready md ops listed = [n]) (hr2 : Region.ready md ops (listed.setIfInBounds n true) = [])
    (h : wpOp P ops Q n (fun a' w' => Q .normal a' w') a w) : HeldL P md ops Q S n (fuel + 1) listed a w := fun hn hc =>
  ⟨fun h0 => (by rw [hr] at h0; cases h0), fun i hi => by
    rw [hr] at hi
    obtain rfl : i = n := by simpa using hi
    refine wpOp_mono (fun a' w' h' => ⟨fun h => (h rfl).elim, ?_⟩) h
    exact heldL_done hr2 h' fuel hn (hc.set (by rw [hr]; simp))⟩

theorem wp_region_last {id : Nat} {a : Act} {w : World} (n m : Nat) (hsz : (ops.size == m) = true) (hm : P.follows .mixedOrders = true) (hn : lastOf .any ops n = true) (hS : S w.drew)
    (h : S w.drew → HeldL P .any ops Q S n m (Array.replicate m false) a w.drew) : (Code.region id ops true).wp P Q a w := by
  have hsz : ops.size = m := by simpa using hsz
  subst hsz
  refine wp_region_any hm (wpAny_of_last (S := S) (n := n) _ _ _ _ (h hS hn ?_))
  intro j o ho hl
  have hlt := (Array.getElem?_eq_some_iff.1 ho).1
  simp [hlt] at hl
end

end Go.Proofs.YtmlobpapjfkbmaaGreat

/- The last store of a region that draws: a number, a slice of numbers. -/
namespace Go.Proofs.YtmlobpapjfkbmaaGreat
open Go.RowKit
set_option linter.unusedVariables false
set_option maxRecDepth 20000
set_option linter.unusedSimpArgs false

theorem ex_drw (w : World) : Ex w w.drew := Ex.drawn w 1
theorem heldL_store_int {ops : Array Oper} {a : Act} {Q : Exit → Act → World → Prop} {S : World → Prop} {Y : World} {b j n fuel : Nat} {x : Int} {listed : Array Bool} {u0 : Value} (p q : Tmp)
    (hr : Region.ready .any ops listed = [n]) (hr2 : Region.ready .any ops (listed.setIfInBounds n true) = [])
    (ho : (ops[n]?).map (fun o => (o.op, o.guard, o.dst)) = some (.store 3 (.tmp p) (.tmp q), none, none)) (hp : a.eval (.tmp p) = .pointer (some ⟨b, j, none⟩)) (hv : a.eval (.tmp q) = .int .i64 x)
    (c : Y.cell? ⟨b, j, none⟩ = some u0) (s : Y.frozen? ⟨b, j, none⟩ = false)
    (k : Q .normal a (Y.setCell ⟨b, j, none⟩ (.int .i64 x))) : HeldL Tryz.prog .any ops Q S n (fuel + 1) listed a Y := by
  cases hi : ops[n]? with
  | none => rw [hi] at ho; cases ho
  | some o =>
    rw [hi] at ho
    simp only [Option.map_some, Option.some.injEq, Prod.mk.injEq] at ho
    obtain ⟨ho, hgd, hd⟩ := ho
    refine heldL_last hr hr2 (wpOp_step hi fun K' hK => ?_)
    have hw : Region.wanted o (yielded ops a.tmps) = true := by simp [Region.wanted, hgd]
    rw [if_pos hw]
    unfold Oper.wp execOp
    simp only [ho, hp, hv]
    go_simp
    exact hK _ _ k

end Go.Proofs.YtmlobpapjfkbmaaGreat

