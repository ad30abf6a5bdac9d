/- Part 12 of what is proved of the program of layer 16: New16. -/
import Derived.Test.YtmlobpapjfkbmaaGreatK8
import Derived.Test.YtmlobpapjfkbmaaGreatK7
import Derived.Test.YtmlobpapjfkbmaaGreatK5
import Derived.Test.YtmlobpapjfkbmaaGreatK9
import Derived.Deep.RegionHeld3
/- A model at its beginning. -/
namespace Go.Proofs.YtmlobpapjfkbmaaGreat
open Go.RowKit
set_option linter.unusedVariables false
set_option maxRecDepth 20000
set_option linter.unusedSimpArgs false

theorem wpAnyH_strong {P : Program} {md : Region.Mode} {ops : Array Oper} {Q : Exit → Act → World → Prop} {S S' : World → Prop} (hs : ∀ w, S' w → S w) : ∀ (fuel : Nat) (listed : Array Bool) (a : Act) (w : World), wpAnyH P md ops Q S' fuel listed a w → wpAnyH P md ops Q S fuel listed a w
  | 0, _, _, _, h => h
  | fuel + 1, _, _, _, h => ⟨h.1, fun i hi => wpOp_mono (fun a' w' h' => ⟨hs _ h'.1, wpAnyH_strong hs fuel _ a' w' h'.2⟩) (h.2 i hi)⟩

/-- What is held from here on: all that there is now. -/
theorem wpAnyH_now {P : Program} {md : Region.Mode} {ops : Array Oper} {Q : Exit → Act → World → Prop} {W0 w : World} {fuel : Nat} {listed : Array Bool} {a : Act} (h : Ex W0 w) (k : Ex w w → wpAnyH P md ops Q (fun w' => Ex w w') fuel listed a w) : wpAnyH P md ops Q (fun w' => Ex W0 w') fuel listed a w :=
  wpAnyH_strong (fun _ h' => h.trans h') fuel listed a w (k (Ex.refl w))
def wcs : Array Value := ((List.range 32).map (fun _ => Value.slice none 0 0)).toArray
theorem row_box {Y : World} {b n : Nat} {xs : List Value} {ty : TypeId} (h : Box Y b xs.toArray ty) (hl : xs.length = n) (hn : n ≤ 100000) : Y.ownsRow 0 ty 1 (.slice (some ⟨b, 0, none⟩) n n) n xs :=
  ⟨by simp [hl], .inr ⟨b, n, xs.toArray, rfl, Nat.zero_le _, h, Nat.le_refl _, by unfold maxLen; omega, by simp [hl], by simp [← hl]⟩⟩
theorem wnew_box (w : World) : Calls Tryz.prog 22 #[] w fun e w' => e = .returned (.pointer (some ⟨w.heap.size, 0, none⟩)) ∧ Box w' w.heap.size wcs 107 ∧ Ex w w' :=
  (wnew_any w).mono fun e w' ⟨h1, h2⟩ => ⟨h1, by rw [h2]; exact Box.fresh _ _ _, by rw [h2]; exact Ex.made _ _⟩

/-- What has been made of a new model. -/
structure NS (w Y : World) (gn : Nat) (s t a g l : Option Nat) : Prop where
  ex : Ex w Y
  fs : ∀ b, s = some b → S12.St Y b (.slice none 0 0) [] ∧ w.heap.size ≤ b ∧ b < Y.heap.size
  ft : ∀ b, t = some b → T13.TS Y (b + 1) b none 0 [] ∧ w.heap.size ≤ b ∧ b < Y.heap.size
  fa : ∀ b, a = some b → Box Y b wcs 107 ∧ w.heap.size ≤ b ∧ b < Y.heap.size
  fg : ∀ b, g = some b → Box Y b (S12.ints (List.replicate gn 0)).toArray 3 ∧ w.heap.size ≤ b ∧ b < Y.heap.size
  fl : ∀ b, l = some b → Box Y b #[.slice none 0 0] 37 ∧ w.heap.size ≤ b ∧ b < Y.heap.size
  nst : ∀ b, s = some b → t ≠ some b
  nsa : ∀ b, s = some b → a ≠ some b
  nsg : ∀ b, s = some b → g ≠ some b
  nsl : ∀ b, s = some b → l ≠ some b
  nta : ∀ b, t = some b → a ≠ some b
  ntg : ∀ b, t = some b → g ≠ some b
  ntl : ∀ b, t = some b → l ≠ some b
  nag : ∀ b, a = some b → g ≠ some b
  nal : ∀ b, a = some b → l ≠ some b
  ngl : ∀ b, g = some b → l ≠ some b

theorem NS.start (w : World) (gn : Nat) {Y : World} (x : Ex w Y) : NS w Y gn none none none none none := by
  refine ⟨x, ?_, ?_, ?_, ?_, ?_, ?_, ?_, ?_, ?_, ?_, ?_, ?_, ?_, ?_, ?_⟩ <;> (intro b h; cases h)
section
variable {w Y Y' : World} {gn : Nat} {s t a g l : Option Nat}
theorem NS.le (h : NS w Y gn s t a g l) (x : Ex Y Y') : NS w Y' gn s t a g l := by
  have hz := x.size
  refine ⟨h.ex.trans x, fun b e => ?_, fun b e => ?_, fun b e => ?_, fun b e => ?_, fun b e => ?_, h.nst, h.nsa, h.nsg, h.nsl, h.nta, h.ntg, h.ntl, h.nag, h.nal, h.ngl⟩
  · obtain ⟨h1, h2, h3⟩ := h.fs b e; exact ⟨h1.ex x, h2, by omega⟩
  · obtain ⟨h1, h2, h3⟩ := h.ft b e; exact ⟨h1.ex x, h2, by omega⟩
  · obtain ⟨h1, h2, h3⟩ := h.fa b e; exact ⟨h1.ex x, h2, by omega⟩
  · obtain ⟨h1, h2, h3⟩ := h.fg b e; exact ⟨h1.ex x, h2, by omega⟩
  · obtain ⟨h1, h2, h3⟩ := h.fl b e; exact ⟨h1.ex x, h2, by omega⟩
theorem NS.state (h : NS w Y gn none t a g l) (x : Ex Y Y') (k : S12.St Y' Y.heap.size (.slice none 0 0) []) : NS w Y' gn (some Y.heap.size) t a g l := by
  have q := h.le x
  refine ⟨q.ex, ?_, q.ft, q.fa, q.fg, q.fl, ?_, ?_, ?_, ?_, h.nta, h.ntg, h.ntl, h.nag, h.nal, h.ngl⟩
  · intro b e; cases e; exact ⟨k, h.ex.size, k.box.lt⟩
  · intro b e e2; cases e; have := (h.ft _ e2).2.2; omega
  · intro b e e2; cases e; have := (h.fa _ e2).2.2; omega
  · intro b e e2; cases e; have := (h.fg _ e2).2.2; omega
  · intro b e e2; cases e; have := (h.fl _ e2).2.2; omega
theorem NS.timer (h : NS w Y gn s none a g l) (x : Ex Y Y') (k : T13.TS Y' (Y.heap.size + 1) Y.heap.size none 0 []) : NS w Y' gn s (some Y.heap.size) a g l := by
  have q := h.le x
  refine ⟨q.ex, q.fs, ?_, q.fa, q.fg, q.fl, ?_, h.nsa, h.nsg, h.nsl, ?_, ?_, ?_, h.nag, h.nal, h.ngl⟩
  · intro b e; cases e; exact ⟨k, h.ex.size, by have := k.bl; omega⟩
  · intro b e e2; cases e2; have := (h.fs _ e).2.2; omega
  · intro b e e2; cases e; have := (h.fa _ e2).2.2; omega
  · intro b e e2; cases e; have := (h.fg _ e2).2.2; omega
  · intro b e e2; cases e; have := (h.fl _ e2).2.2; omega
theorem NS.wait (h : NS w Y gn s t none g l) (x : Ex Y Y') (k : Box Y' Y.heap.size wcs 107) : NS w Y' gn s t (some Y.heap.size) g l := by
  have q := h.le x
  refine ⟨q.ex, q.fs, q.ft, ?_, q.fg, q.fl, h.nst, ?_, h.nsg, h.nsl, ?_, h.ntg, h.ntl, ?_, ?_, h.ngl⟩
  · intro b e; cases e; exact ⟨k, h.ex.size, k.lt⟩
  · intro b e e2; cases e2; have := (h.fs _ e).2.2; omega
  · intro b e e2; cases e2; have := (h.ft _ e).2.2; omega
  · intro b e e2; cases e; have := (h.fg _ e2).2.2; omega
  · intro b e e2; cases e; have := (h.fl _ e2).2.2; omega
theorem NS.globs (h : NS w Y gn s t a none l) (x : Ex Y Y') (k : Box Y' Y.heap.size (S12.ints (List.replicate gn 0)).toArray 3) : NS w Y' gn s t a (some Y.heap.size) l := by
  have q := h.le x
  refine ⟨q.ex, q.fs, q.ft, q.fa, ?_, q.fl, h.nst, h.nsa, ?_, h.nsl, h.nta, ?_, h.ntl, ?_, h.nal, ?_⟩
  · intro b e; cases e; exact ⟨k, h.ex.size, k.lt⟩
  · intro b e e2; cases e2; have := (h.fs _ e).2.2; omega
  · intro b e e2; cases e2; have := (h.ft _ e).2.2; omega
  · intro b e e2; cases e2; have := (h.fa _ e).2.2; omega
  · intro b e e2; cases e; have := (h.fl _ e2).2.2; omega
theorem NS.slots (h : NS w Y gn s t a g none) (x : Ex Y Y') (k : Box Y' Y.heap.size #[.slice none 0 0] 37) : NS w Y' gn s t a g (some Y.heap.size) := by
  have q := h.le x
  refine ⟨q.ex, q.fs, q.ft, q.fa, q.fg, ?_, h.nst, h.nsa, h.nsg, ?_, h.nta, h.ntg, ?_, h.nag, ?_, ?_⟩
  · intro b e; cases e; exact ⟨k, h.ex.size, k.lt⟩
  · intro b e e2; cases e2; have := (h.fs _ e).2.2; omega
  · intro b e e2; cases e2; have := (h.ft _ e).2.2; omega
  · intro b e e2; cases e2; have := (h.fa _ e).2.2; omega
  · intro b e e2; cases e2; have := (h.fg _ e).2.2; omega
end

/-- A model with nobody. -/
def m00 (gn : Nat) : MS := ⟨[], [], List.replicate gn 0, [[]], [], 0, List.replicate 32 [], 0⟩
/-- A model at its beginning. -/
def m0 (gn : Nat) : MS := spawnM (m00 gn) 0 0
/-- A model that is new: nothing that was is its. -/
def NewM (pb : Nat) (w : World) (mb gn : Nat) (F : Fns) (w' : World) : Prop :=
  ∃ A t, Md w' A t mb F (m0 gn) ∧ New w' t ∧ A.pb = pb ∧ (∀ i, i < w.heap.size → t i = (0, 0)) ∧ Ex w w'
def ncells (gn : Nat) (fv : Value) (sb gb lb tb wb : Nat) : Array Value := #[.int .i64 (gn : Nat), fv, .pointer (some ⟨sb, 0, none⟩), .slice none 0 0, .slice (some ⟨gb, 0, none⟩) gn gn, .slice (some ⟨lb, 0, none⟩) 1 1, .pointer (some ⟨tb, 0, none⟩), .pointer (some ⟨wb, 0, none⟩), .int .i64 0]

def ntag (mb sb gb lb tb wb : Nat) (i : Nat) : Tg := if i = mb then (1, 0) else if i = sb then (2, 0) else if i = gb then (5, 0) else if i = lb then (6, 0) else if i = tb then (7, 0) else if i = wb then (9, 0) else (0, 0)
theorem new_md {w Y : World} {gn sb tb wb gb lb : Nat} {fv : Value} {F : Fns} {w0 : World} (hF : C15.RdP w0 fv F) (x0 : Ex w0 w) (hg : gn ≤ 32) (h : NS w Y gn (some sb) (some tb) (some wb) (some gb) (some lb)) :
    ∃ A t, Md (Y.alloc (.cells (ncells gn fv sb gb lb tb wb) 70)) A t Y.heap.size F (m00 gn) ∧ New (Y.alloc (.cells (ncells gn fv sb gb lb tb wb) 70)) t ∧ A.pb = w0.heap.size ∧ (∀ i, i < w.heap.size → t i = (0, 0)) := by
  obtain ⟨hs, s1, s2⟩ := h.fs _ rfl
  obtain ⟨ht, t1, t2⟩ := h.ft _ rfl
  obtain ⟨ha, a1, a2⟩ := h.fa _ rfl
  obtain ⟨hgl, g1, g2⟩ := h.fg _ rfl
  obtain ⟨hl, l1, l2⟩ := h.fl _ rfl
  have x := Ex.made Y (.cells (ncells gn fv sb gb lb tb wb) 70)
  have nst : sb ≠ tb := fun e => h.nst _ rfl (e ▸ rfl)
  have nsa : sb ≠ wb := fun e => h.nsa _ rfl (e ▸ rfl)
  have nsg : sb ≠ gb := fun e => h.nsg _ rfl (e ▸ rfl)
  have nsl : sb ≠ lb := fun e => h.nsl _ rfl (e ▸ rfl)
  have nta : tb ≠ wb := fun e => h.nta _ rfl (e ▸ rfl)
  have ntg : tb ≠ gb := fun e => h.ntg _ rfl (e ▸ rfl)
  have ntl : tb ≠ lb := fun e => h.ntl _ rfl (e ▸ rfl)
  have nag : wb ≠ gb := fun e => h.nag _ rfl (e ▸ rfl)
  have nal : wb ≠ lb := fun e => h.nal _ rfl (e ▸ rfl)
  have ngl : gb ≠ lb := fun e => h.ngl _ rfl (e ▸ rfl)
  have hw := h.ex.size
  have bm := Box.fresh Y (ncells gn fv sb gb lb tb wb) 70
  have hsz : (Y.alloc (.cells (ncells gn fv sb gb lb tb wb) 70)).heap.size = Y.heap.size + 1 := by simp
  have bs := hs.ex x
  have bt := ht.ex x
  have ba := ha.ex x
  have bg := hgl.ex x
  have bl := hl.ex x
  have xw := h.ex.trans x
  generalize (Y.alloc (.cells (ncells gn fv sb gb lb tb wb) 70)) = Z at *
  have T1 : ntag Y.heap.size sb gb lb tb wb Y.heap.size = (1, 0) := by simp [ntag]
  have T2 : ntag Y.heap.size sb gb lb tb wb sb = (2, 0) := by simp [ntag, show sb ≠ Y.heap.size by omega]
  have T5 : ntag Y.heap.size sb gb lb tb wb gb = (5, 0) := by simp [ntag, show gb ≠ Y.heap.size by omega, nsg.symm]
  have T6 : ntag Y.heap.size sb gb lb tb wb lb = (6, 0) := by simp [ntag, show lb ≠ Y.heap.size by omega, nsl.symm, ngl.symm]
  have T7 : ntag Y.heap.size sb gb lb tb wb tb = (7, 0) := by simp [ntag, show tb ≠ Y.heap.size by omega, nst.symm, ntg, ntl]
  have T9 : ntag Y.heap.size sb gb lb tb wb wb = (9, 0) := by simp [ntag, show wb ≠ Y.heap.size by omega, nsa.symm, nag, nal, nta.symm]
  have T0 : ∀ i, i < w.heap.size ∨ Y.heap.size < i → ntag Y.heap.size sb gb lb tb wb i = (0, 0) := fun i hi => by
    simp [ntag, show i ≠ Y.heap.size by omega, show i ≠ sb by omega, show i ≠ gb by omega, show i ≠ lb by omega, show i ≠ tb by omega, show i ≠ wb by omega]
  generalize ntag Y.heap.size sb gb lb tb wb = T at *
  refine ⟨⟨sb, .slice none 0 0, .slice none 0 0, .slice (some ⟨gb, 0, none⟩) gn gn, .slice (some ⟨lb, 0, none⟩) 1 1, tb + 1, tb, none, wb, fun _ => 0, fun _ => .slice none 0 0, fun _ => .slice none 0 0, (gn : Nat), fv, w0.heap.size⟩, T, ?_, ?_, rfl, fun i hi => T0 i (.inl hi)⟩
  · have er : (List.replicate gn 0).length = gn := by simp
    refine ⟨⟨bm, T1⟩, bs, ⟨T2, fun b e => by cases e⟩, ⟨World.ownsRow_nil _ _ _ _, fun b e => by cases e⟩, fun i hi => absurd hi (Nat.not_lt_zero _), ⟨?_, fun b e => by cases e; exact T5⟩, ⟨?_, fun b e => by cases e; exact T6⟩, ?_, bt, ⟨T7, fun b e => by cases e⟩, ⟨ba, T9⟩, ?_, by simp [m00], ?_⟩
    · rw [show (m00 gn).globals.length = gn from er]
      exact row_box bg (by show (S12.ints (List.replicate gn 0)).length = gn; simp [S12.ints]) (by omega)
    · exact row_box (xs := [.slice none 0 0]) bl rfl (by omega)
    · intro i hi
      have : i = 0 := by simp [m00] at hi; omega
      subst this
      exact ⟨World.ownsRow_nil _ _ _ _, fun b e => by cases e⟩
    · intro i hi
      have e : (m00 gn).wat i = [] := by show (List.replicate 32 ([] : List Nat)).getD i [] = []; rw [List.getD_eq_getElem?_getD, List.getElem?_replicate, if_pos hi]; rfl
      rw [e]
      exact ⟨World.ownsRow_nil _ _ _ _, fun b e => by cases e⟩
    · intro W hW
      refine hF.ex ?_
      have c1 := ((x0.trans xw).chg (fun _ => False)).trans hW (fun i hi hf => ?_)
      · exact c1.below (Nat.le_refl _) (fun i hi => hi.elim)
      · have h0 := x0.size
        rcases hf with hf | hf
        · rw [T0 i (.inl (by omega))] at hf; exact hf rfl
        · exact absurd hf (Nat.not_le.2 hi)
  · intro i hi
    have := T0 i (.inr (by omega))
    rw [this]

set_option maxHeartbeats 1600000 in
theorem new_spawn {w Y : World} {gn sb tb wb gb lb : Nat} {fv : Value} {F : Fns} {w0 : World} (hF : C15.RdP w0 fv F) (x0 : Ex w0 w) (hg : gn ≤ 32) (h : NS w Y gn (some sb) (some tb) (some wb) (some gb) (some lb)) :
    Calls Tryz.prog 23 #[.pointer (some ⟨Y.heap.size, 0, none⟩), .int .i64 0, .int .i64 0] (Y.alloc (.cells (ncells gn fv sb gb lb tb wb) 70)) fun e w' => e = .returned (.int .i64 0) ∧ NewM w0.heap.size w Y.heap.size gn F w' := by
  obtain ⟨A, t, h1, h2, h3, h4⟩ := new_md hF x0 hg h
  have K := spawn_md h1 h2 rfl 0 0
  refine K.mono fun e w' hr => ?_
  unfold SpawnR at hr
  rw [if_pos (by show 0 < 1024; omega)] at hr
  obtain ⟨r1, ⟨A', t', k1, k2, k3, k4, k5⟩, -⟩ := hr
  have hsz : (Y.alloc (.cells (ncells gn fv sb gb lb tb wb) 70)).heap.size = Y.heap.size + 1 := by simp
  have hw := h.ex.size
  refine ⟨r1, A', t', k1, k2, k4.trans h3, fun i hi => (k3 i (by omega)).trans (h4 i hi), ?_⟩
  have c1 := ((h.ex.trans (Ex.made _ _)).chg (fun _ => False)).trans k5 (fun i hi hf => (hf (by rw [h4 i hi])).elim)
  exact c1.below (Nat.le_refl _) (fun i hi => hi.elim)


set_option maxHeartbeats 25600000 in
theorem new_model {w w0 : World} {gn : Nat} {fv : Value} {F : Fns} (hF : C15.RdP w0 fv F) (x0 : Ex w0 w) (hm : C15.mayI gn F = 0) :
    Calls Tryz.prog 7 #[.agg #[.int .i64 (gn : Nat), fv]] w fun e w' => ∃ mb, e = .returned (.tuple #[.pointer (some ⟨mb, 0, none⟩), .int .i64 0]) ∧ NewM w0.heap.size w mb gn F w' := by
  have hg : gn ≤ 32 := by
    rcases Nat.lt_or_ge 32 gn with h | h
    · rw [C15.may_head (.inr (.inr (.inr (by omega))))] at hm; exact absurd hm (by decide)
    · exact h
  have KM := Lib.hid (fun (W : World) (x : Ex w W) => C15.may_any (g := (gn : Nat)) ((hF.ex x0).ex x))
  rw [hm] at KM
  have KS : Hid (∀ (U : World), Ex w U → ∀ (Y : World) (sb tb wb gb lb : Nat), NS U Y gn (some sb) (some tb) (some wb) (some gb) (some lb) → Calls Tryz.prog 23 #[.pointer (some ⟨Y.heap.size, 0, none⟩), .int .i64 0, .int .i64 0] (Y.alloc (.cells #[.int .i64 (gn : Nat), fv, .pointer (some ⟨sb, 0, none⟩), .slice none 0 0, .slice (some ⟨gb, 0, none⟩) gn gn, .slice (some ⟨lb, 0, none⟩) 1 1, .pointer (some ⟨tb, 0, none⟩), .pointer (some ⟨wb, 0, none⟩), .int .i64 0] 70)) fun e w' => e = .returned (.int .i64 0) ∧ NewM w0.heap.size w Y.heap.size gn F w') :=
    Lib.hid (fun U xu Y sb tb wb gb lb n => (new_spawn hF (x0.trans xu) hg n).mono fun e w' ⟨k1, A, t, k2, k3, k4, k5, k6⟩ => ⟨k1, A, t, k2, k3, k4, fun i hi => k5 i (Nat.lt_of_lt_of_le hi xu.size), xu.trans k6⟩)
  obtain ⟨fa, cap, hv⟩ := hF.val
  obtain ⟨fl, hfl⟩ : ∃ k, F.length = k := ⟨_, rfl⟩
  rw [hfl] at hv
  subst hv
  clear hF x0 hm hfl
  go_enter Tryz.func7, Tryz.ntmps7
  go_wp2_with fail
  have b0 := Box.fresh w #[.int .i64 (gn : Nat), .slice fa fl cap] 24
  have hx0 := Ex.made w (.cells #[.int .i64 (gn : Nat), .slice fa fl cap] 24)
  obtain ⟨pb, hpb⟩ : ∃ b, w.heap.size = b := ⟨_, rfl⟩
  obtain ⟨U0, hU0⟩ : ∃ Y, Y = w.alloc (.cells #[.int .i64 (gn : Nat), .slice fa fl cap] 24) := ⟨_, rfl⟩
  rw [hpb] at b0 ⊢
  rw [← hU0] at b0 hx0 ⊢
  clear hpb hU0
  refine (KM.out _ hx0).mono ?_
  rintro e U ⟨rfl, hx⟩
  have B0 := Lib.hid (b0.ex hx)
  have XU := Lib.hid (hx0.trans hx)
  clear b0 hx hx0 KM U0
  go_upto_region 3 with fail
  refine wp_region_held_drew (S := fun w' => Ex U w') (by kernel_rfl) (ex_drw U) (fun hHeld => ?_)
  have N0 := Lib.hid ((NS.start U gn (ex_drw U)))
  generalize U.drew = Y0 at *
  have B1 := Lib.hid (B0.out.ex N0.out.ex)
  refine wpAnyH_now hHeld (fun hHeld1 => ?_)
  clear hHeld B0
  refine wpAnyH_take (i := 0) (v := ?_) rfl (by kernel_rfl) (by kernel_rfl) (by kernel_rfl) (fun _ _ _ h => h) (Or.inl ⟨by rfl, ?_⟩) (by assumption) ?_
  rotate_left
  · intro w hSw; (try dsimp only at hSw); have b0 := B1.out.ex hSw; have d0 := b0.cell 0; have d1 := b0.cell 1; go_simp; try with_reducible rfl
  try simp only [Act.put, List.setIfInBounds_toArray, List.set_cons_zero, List.set_cons_succ]
  refine wpAnyH_take (i := 2) (v := ?_) rfl (by kernel_rfl) (by kernel_rfl) (by kernel_rfl) (fun _ _ _ h => h) (Or.inl ⟨by rfl, ?_⟩) (by assumption) ?_
  rotate_left
  · intro w hSw; (try dsimp only at hSw); have b0 := B1.out.ex hSw; have d0 := b0.cell 0; have d1 := b0.cell 1; go_simp; try with_reducible rfl
  try simp only [Act.put, List.setIfInBounds_toArray, List.set_cons_zero, List.set_cons_succ]
  refine wpAnyH_take (i := 3) (v := ?_) rfl (by kernel_rfl) (by kernel_rfl) (by kernel_rfl) (fun _ _ _ h => h) (Or.inl ⟨by rfl, ?_⟩) (by assumption) ?_
  rotate_left
  · intro w hSw; (try dsimp only at hSw); have b0 := B1.out.ex hSw; have d0 := b0.cell 0; have d1 := b0.cell 1; go_simp; try with_reducible rfl
  try simp only [Act.put, List.setIfInBounds_toArray, List.set_cons_zero, List.set_cons_succ]
  clear B1
  refine wpAnyH_ready (rs := [1, 4, 5]) (by kernel_rfl) (by simp) ?_
  refine AllReadyH.cons rfl (fun K hK => ?_) (AllReadyH.cons rfl (fun K hK => ?_) (AllReadyH.cons rfl (fun K hK => ?_) AllReadyH.nil))
  go_simp
  go_at_call 20
  refine (S12.new_any _).mono ?_
  rintro e Y1 ⟨rfl, hs, hx, -⟩
  refine hK.out _ _ hx (fun hHeld => ?_)
  clear hK K
  try simp only [Act.put, List.setIfInBounds_toArray, List.set_cons_zero, List.set_cons_succ]
  have hn := N0.out.state hx hs
  clear hs hx
  obtain ⟨sb, hb⟩ : ∃ b, Y0.heap.size = b := ⟨_, rfl⟩
  rw [hb] at hn ⊢
  clear hb
  have N1 := Lib.hid hn
  refine wpAnyH_now hHeld (fun hHeld2 => ?_)
  clear hHeld hn
  refine wpAnyH_ready (rs := [4, 5, 6]) (by kernel_rfl) (by simp) ?_
  refine AllReadyH.cons rfl (fun K hK => ?_) (AllReadyH.cons rfl (fun K hK => ?_) (AllReadyH.cons rfl (fun K hK => ?_) AllReadyH.nil))
  have hms := make_ints Y1 gn (by omega)
  go_simp
  refine hK.out _ _ (Ex.made _ _) (fun hHeld => ?_)
  clear hK K hms
  try simp only [Act.put, List.setIfInBounds_toArray, List.set_cons_zero, List.set_cons_succ]
  have hn := N1.out.globs (Ex.made _ _) (Box.fresh _ _ _)
  obtain ⟨Y2, hY⟩ : ∃ Y, Y = Y1.alloc (.cells (S12.ints (List.replicate gn 0)).toArray 3) := ⟨_, rfl⟩
  rw [← hY] at hn hHeld ⊢
  clear hY
  obtain ⟨gb, hb⟩ : ∃ b, Y1.heap.size = b := ⟨_, rfl⟩
  rw [hb] at hn ⊢
  clear hb
  have N2 := Lib.hid hn
  refine wpAnyH_now hHeld (fun hHeld2 => ?_)
  clear hHeld hn
  refine wpAnyH_ready (rs := [5, 6]) (by kernel_rfl) (by simp) ?_
  refine AllReadyH.cons rfl (fun K hK => ?_) (AllReadyH.cons rfl (fun K hK => ?_) AllReadyH.nil)
  go_simp
  refine hK.out _ _ (Ex.made _ _) (fun hHeld => ?_)
  clear hK K
  try simp only [Act.put, List.setIfInBounds_toArray, List.set_cons_zero, List.set_cons_succ]
  have hn := N2.out.slots (Ex.made _ _) (Box.fresh _ _ _)
  obtain ⟨Y3, hY⟩ : ∃ Y, Y = Y2.alloc (.cells #[.slice none 0 0] 37) := ⟨_, rfl⟩
  rw [← hY] at hn hHeld ⊢
  clear hY
  obtain ⟨lb, hb⟩ : ∃ b, Y2.heap.size = b := ⟨_, rfl⟩
  rw [hb] at hn ⊢
  clear hb
  have N3 := Lib.hid hn
  refine wpAnyH_now hHeld (fun hHeld2 => ?_)
  clear hHeld hn
  refine wpAnyH_ready (rs := [6]) (by kernel_rfl) (by simp) ?_
  refine AllReadyH.cons rfl (fun K hK => ?_) AllReadyH.nil
  go_simp
  go_at_call 21
  refine (T13.ts_new _).mono ?_
  rintro e Y4 ⟨rfl, hs, hx⟩
  refine hK.out _ _ hx (fun hHeld => ?_)
  clear hK K
  try simp only [Act.put, List.setIfInBounds_toArray, List.set_cons_zero, List.set_cons_succ]
  have hn := N3.out.timer hx hs
  clear hs hx
  obtain ⟨tb, hb⟩ : ∃ b, Y3.heap.size = b := ⟨_, rfl⟩
  rw [hb] at hn ⊢
  clear hb
  have N4 := Lib.hid hn
  refine wpAnyH_now hHeld (fun hHeld2 => ?_)
  clear hHeld hn
  refine wpAnyH_ready (rs := [7]) (by kernel_rfl) (by simp) ?_
  refine AllReadyH.cons rfl (fun K hK => ?_) AllReadyH.nil
  go_simp
  go_at_call 22
  refine (wnew_box _).mono ?_
  rintro e Y5 ⟨rfl, hs, hx⟩
  refine hK.out _ _ hx (fun hHeld => ?_)
  clear hK K
  try simp only [Act.put, List.setIfInBounds_toArray, List.set_cons_zero, List.set_cons_succ]
  have hn := N4.out.wait hx hs
  clear hs hx
  obtain ⟨wb, hb⟩ : ∃ b, Y4.heap.size = b := ⟨_, rfl⟩
  rw [hb] at hn ⊢
  clear hb
  have N5 := Lib.hid hn
  refine wpAnyH_now hHeld (fun hHeld2 => ?_)
  clear hHeld hn
  refine wpAnyH_take (i := 8) (v := ?_) rfl (by kernel_rfl) (by kernel_rfl) (by kernel_rfl) (fun _ _ _ h => h) (Or.inl ⟨by rfl, ?_⟩) (by assumption) ?_
  rotate_left
  · intro w hSw; (try dsimp only at hSw); go_simp; try with_reducible rfl
  try simp only [Act.put, List.setIfInBounds_toArray, List.set_cons_zero, List.set_cons_succ]
  refine wpAnyH_ready (rs := [9]) (by kernel_rfl) (by simp) ?_
  refine AllReadyH.cons rfl (fun K hK => ?_) AllReadyH.nil
  go_simp
  refine hK.out _ _ (Ex.made _ _) (fun hHeld => ?_)
  clear hK K
  try simp only [Act.put, List.setIfInBounds_toArray, List.set_cons_zero, List.set_cons_succ]
  refine wpAnyH_ready (rs := [10]) (by kernel_rfl) (by simp) ?_
  refine AllReadyH.cons rfl (fun K hK => ?_) AllReadyH.nil
  go_simp
  refine hK.out _ _ ?_ (fun hHeld => ?_)
  · exact Ex.made _ _
  clear hK K
  try simp only [Act.put, List.setIfInBounds_toArray, List.set_cons_zero, List.set_cons_succ]
  refine wpAnyH_done (by kernel_rfl) ?_ _
  clear hHeld hHeld2
  rotate_left
  go_simp
  go_at_call 21
  refine (T13.ts_new _).mono ?_
  rintro e Y3 ⟨rfl, hs, hx⟩
  refine hK.out _ _ hx (fun hHeld => ?_)
  clear hK K
  try simp only [Act.put, List.setIfInBounds_toArray, List.set_cons_zero, List.set_cons_succ]
  have hn := N2.out.timer hx hs
  clear hs hx
  obtain ⟨tb, hb⟩ : ∃ b, Y2.heap.size = b := ⟨_, rfl⟩
  rw [hb] at hn ⊢
  clear hb
  have N3 := Lib.hid hn
  refine wpAnyH_now hHeld (fun hHeld2 => ?_)
  clear hHeld hn
  refine wpAnyH_ready (rs := [5, 7]) (by kernel_rfl) (by simp) ?_
  refine AllReadyH.cons rfl (fun K hK => ?_) (AllReadyH.cons rfl (fun K hK => ?_) AllReadyH.nil)
  go_simp
  refine hK.out _ _ (Ex.made _ _) (fun hHeld => ?_)
  clear hK K
  try simp only [Act.put, List.setIfInBounds_toArray, List.set_cons_zero, List.set_cons_succ]
  have hn := N3.out.slots (Ex.made _ _) (Box.fresh _ _ _)
  obtain ⟨Y4, hY⟩ : ∃ Y, Y = Y3.alloc (.cells #[.slice none 0 0] 37) := ⟨_, rfl⟩
  rw [← hY] at hn hHeld ⊢
  clear hY
  obtain ⟨lb, hb⟩ : ∃ b, Y3.heap.size = b := ⟨_, rfl⟩
  rw [hb] at hn ⊢
  clear hb
  have N4 := Lib.hid hn
  refine wpAnyH_now hHeld (fun hHeld2 => ?_)
  clear hHeld hn
  refine wpAnyH_ready (rs := [7]) (by kernel_rfl) (by simp) ?_
  refine AllReadyH.cons rfl (fun K hK => ?_) AllReadyH.nil
  go_simp
  go_at_call 22
  refine (wnew_box _).mono ?_
  rintro e Y5 ⟨rfl, hs, hx⟩
  refine hK.out _ _ hx (fun hHeld => ?_)
  clear hK K
  try simp only [Act.put, List.setIfInBounds_toArray, List.set_cons_zero, List.set_cons_succ]
  have hn := N4.out.wait hx hs
  clear hs hx
  obtain ⟨wb, hb⟩ : ∃ b, Y4.heap.size = b := ⟨_, rfl⟩
  rw [hb] at hn ⊢
  clear hb
  have N5 := Lib.hid hn
  refine wpAnyH_now hHeld (fun hHeld2 => ?_)
  clear hHeld hn
  refine wpAnyH_take (i := 8) (v := ?_) rfl (by kernel_rfl) (by kernel_rfl) (by kernel_rfl) (fun _ _ _ h => h) (Or.inl ⟨by rfl, ?_⟩) (by assumption) ?_
  rotate_left
  · intro w hSw; (try dsimp only at hSw); go_simp; try with_reducible rfl
  try simp only [Act.put, List.setIfInBounds_toArray, List.set_cons_zero, List.set_cons_succ]
  refine wpAnyH_ready (rs := [9]) (by kernel_rfl) (by simp) ?_
  refine AllReadyH.cons rfl (fun K hK => ?_) AllReadyH.nil
  go_simp
  refine hK.out _ _ (Ex.made _ _) (fun hHeld => ?_)
  clear hK K
  try simp only [Act.put, List.setIfInBounds_toArray, List.set_cons_zero, List.set_cons_succ]
  refine wpAnyH_ready (rs := [10]) (by kernel_rfl) (by simp) ?_
  refine AllReadyH.cons rfl (fun K hK => ?_) AllReadyH.nil
  go_simp
  refine hK.out _ _ ?_ (fun hHeld => ?_)
  · exact Ex.made _ _
  clear hK K
  try simp only [Act.put, List.setIfInBounds_toArray, List.set_cons_zero, List.set_cons_succ]
  refine wpAnyH_done (by kernel_rfl) ?_ _
  clear hHeld hHeld2
  rotate_left
  go_simp
  go_at_call 22
  refine (wnew_box _).mono ?_
  rintro e Y4 ⟨rfl, hs, hx⟩
  refine hK.out _ _ hx (fun hHeld => ?_)
  clear hK K
  try simp only [Act.put, List.setIfInBounds_toArray, List.set_cons_zero, List.set_cons_succ]
  have hn := N3.out.wait hx hs
  clear hs hx
  obtain ⟨wb, hb⟩ : ∃ b, Y3.heap.size = b := ⟨_, rfl⟩
  rw [hb] at hn ⊢
  clear hb
  have N4 := Lib.hid hn
  refine wpAnyH_now hHeld (fun hHeld2 => ?_)
  clear hHeld hn
  refine wpAnyH_ready (rs := [5]) (by kernel_rfl) (by simp) ?_
  refine AllReadyH.cons rfl (fun K hK => ?_) AllReadyH.nil
  go_simp
  refine hK.out _ _ (Ex.made _ _) (fun hHeld => ?_)
  clear hK K
  try simp only [Act.put, List.setIfInBounds_toArray, List.set_cons_zero, List.set_cons_succ]
  have hn := N4.out.slots (Ex.made _ _) (Box.fresh _ _ _)
  obtain ⟨Y5, hY⟩ : ∃ Y, Y = Y4.alloc (.cells #[.slice none 0 0] 37) := ⟨_, rfl⟩
  rw [← hY] at hn hHeld ⊢
  clear hY
  obtain ⟨lb, hb⟩ : ∃ b, Y4.heap.size = b := ⟨_, rfl⟩
  rw [hb] at hn ⊢
  clear hb
  have N5 := Lib.hid hn
  refine wpAnyH_now hHeld (fun hHeld2 => ?_)
  clear hHeld hn
  refine wpAnyH_take (i := 8) (v := ?_) rfl (by kernel_rfl) (by kernel_rfl) (by kernel_rfl) (fun _ _ _ h => h) (Or.inl ⟨by rfl, ?_⟩) (by assumption) ?_
  rotate_left
  · intro w hSw; (try dsimp only at hSw); go_simp; try with_reducible rfl
  try simp only [Act.put, List.setIfInBounds_toArray, List.set_cons_zero, List.set_cons_succ]
  refine wpAnyH_ready (rs := [9]) (by kernel_rfl) (by simp) ?_
  refine AllReadyH.cons rfl (fun K hK => ?_) AllReadyH.nil
  go_simp
  refine hK.out _ _ (Ex.made _ _) (fun hHeld => ?_)
  clear hK K
  try simp only [Act.put, List.setIfInBounds_toArray, List.set_cons_zero, List.set_cons_succ]
  refine wpAnyH_ready (rs := [10]) (by kernel_rfl) (by simp) ?_
  refine AllReadyH.cons rfl (fun K hK => ?_) AllReadyH.nil
  go_simp
  refine hK.out _ _ ?_ (fun hHeld => ?_)
  · exact Ex.made _ _
  clear hK K
  try simp only [Act.put, List.setIfInBounds_toArray, List.set_cons_zero, List.set_cons_succ]
  refine wpAnyH_done (by kernel_rfl) ?_ _
  clear hHeld hHeld2
  rotate_left
  go_simp
  refine hK.out _ _ (Ex.made _ _) (fun hHeld => ?_)
  clear hK K
  try simp only [Act.put, List.setIfInBounds_toArray, List.set_cons_zero, List.set_cons_succ]
  have hn := N1.out.slots (Ex.made _ _) (Box.fresh _ _ _)
  obtain ⟨Y2, hY⟩ : ∃ Y, Y = Y1.alloc (.cells #[.slice none 0 0] 37) := ⟨_, rfl⟩
  rw [← hY] at hn hHeld ⊢
  clear hY
  obtain ⟨lb, hb⟩ : ∃ b, Y1.heap.size = b := ⟨_, rfl⟩
  rw [hb] at hn ⊢
  clear hb
  have N2 := Lib.hid hn
  refine wpAnyH_now hHeld (fun hHeld2 => ?_)
  clear hHeld hn
  refine wpAnyH_ready (rs := [4, 6]) (by kernel_rfl) (by simp) ?_
  refine AllReadyH.cons rfl (fun K hK => ?_) (AllReadyH.cons rfl (fun K hK => ?_) AllReadyH.nil)
  have hms := make_ints Y2 gn (by omega)
  go_simp
  refine hK.out _ _ (Ex.made _ _) (fun hHeld => ?_)
  clear hK K hms
  try simp only [Act.put, List.setIfInBounds_toArray, List.set_cons_zero, List.set_cons_succ]
  have hn := N2.out.globs (Ex.made _ _) (Box.fresh _ _ _)
  obtain ⟨Y3, hY⟩ : ∃ Y, Y = Y2.alloc (.cells (S12.ints (List.replicate gn 0)).toArray 3) := ⟨_, rfl⟩
  rw [← hY] at hn hHeld ⊢
  clear hY
  obtain ⟨gb, hb⟩ : ∃ b, Y2.heap.size = b := ⟨_, rfl⟩
  rw [hb] at hn ⊢
  clear hb
  have N3 := Lib.hid hn
  refine wpAnyH_now hHeld (fun hHeld2 => ?_)
  clear hHeld hn
  refine wpAnyH_ready (rs := [6]) (by kernel_rfl) (by simp) ?_
  refine AllReadyH.cons rfl (fun K hK => ?_) AllReadyH.nil
  go_simp
  go_at_call 21
  refine (T13.ts_new _).mono ?_
  rintro e Y4 ⟨rfl, hs, hx⟩
  refine hK.out _ _ hx (fun hHeld => ?_)
  clear hK K
  try simp only [Act.put, List.setIfInBounds_toArray, List.set_cons_zero, List.set_cons_succ]
  have hn := N3.out.timer hx hs
  clear hs hx
  obtain ⟨tb, hb⟩ : ∃ b, Y3.heap.size = b := ⟨_, rfl⟩
  rw [hb] at hn ⊢
  clear hb
  have N4 := Lib.hid hn
  refine wpAnyH_now hHeld (fun hHeld2 => ?_)
  clear hHeld hn
  refine wpAnyH_ready (rs := [7]) (by kernel_rfl) (by simp) ?_
  refine AllReadyH.cons rfl (fun K hK => ?_) AllReadyH.nil
  go_simp
  go_at_call 22
  refine (wnew_box _).mono ?_
  rintro e Y5 ⟨rfl, hs, hx⟩
  refine hK.out _ _ hx (fun hHeld => ?_)
  clear hK K
  try simp only [Act.put, List.setIfInBounds_toArray, List.set_cons_zero, List.set_cons_succ]
  have hn := N4.out.wait hx hs
  clear hs hx
  obtain ⟨wb, hb⟩ : ∃ b, Y4.heap.size = b := ⟨_, rfl⟩
  rw [hb] at hn ⊢
  clear hb
  have N5 := Lib.hid hn
  refine wpAnyH_now hHeld (fun hHeld2 => ?_)
  clear hHeld hn
  refine wpAnyH_take (i := 8) (v := ?_) rfl (by kernel_rfl) (by kernel_rfl) (by kernel_rfl) (fun _ _ _ h => h) (Or.inl ⟨by rfl, ?_⟩) (by assumption) ?_
  rotate_left
  · intro w hSw; (try dsimp only at hSw); go_simp; try with_reducible rfl
  try simp only [Act.put, List.setIfInBounds_toArray, List.set_cons_zero, List.set_cons_succ]
  refine wpAnyH_ready (rs := [9]) (by kernel_rfl) (by simp) ?_
  refine AllReadyH.cons rfl (fun K hK => ?_) AllReadyH.nil
  go_simp
  refine hK.out _ _ (Ex.made _ _) (fun hHeld => ?_)
  clear hK K
  try simp only [Act.put, List.setIfInBounds_toArray, List.set_cons_zero, List.set_cons_succ]
  refine wpAnyH_ready (rs := [10]) (by kernel_rfl) (by simp) ?_
  refine AllReadyH.cons rfl (fun K hK => ?_) AllReadyH.nil
  go_simp
  refine hK.out _ _ ?_ (fun hHeld => ?_)
  · exact Ex.made _ _
  clear hK K
  try simp only [Act.put, List.setIfInBounds_toArray, List.set_cons_zero, List.set_cons_succ]
  refine wpAnyH_done (by kernel_rfl) ?_ _
  clear hHeld hHeld2
  rotate_left
  go_simp
  go_at_call 21
  refine (T13.ts_new _).mono ?_
  rintro e Y3 ⟨rfl, hs, hx⟩
  refine hK.out _ _ hx (fun hHeld => ?_)
  clear hK K
  try simp only [Act.put, List.setIfInBounds_toArray, List.set_cons_zero, List.set_cons_succ]
  have hn := N2.out.timer hx hs
  clear hs hx
  obtain ⟨tb, hb⟩ : ∃ b, Y2.heap.size = b := ⟨_, rfl⟩
  rw [hb] at hn ⊢
  clear hb
  have N3 := Lib.hid hn
  refine wpAnyH_now hHeld (fun hHeld2 => ?_)
  clear hHeld hn
  refine wpAnyH_ready (rs := [4, 7]) (by kernel_rfl) (by simp) ?_
  refine AllReadyH.cons rfl (fun K hK => ?_) (AllReadyH.cons rfl (fun K hK => ?_) AllReadyH.nil)
  have hms := make_ints Y3 gn (by omega)
  go_simp
  refine hK.out _ _ (Ex.made _ _) (fun hHeld => ?_)
  clear hK K hms
  try simp only [Act.put, List.setIfInBounds_toArray, List.set_cons_zero, List.set_cons_succ]
  have hn := N3.out.globs (Ex.made _ _) (Box.fresh _ _ _)
  obtain ⟨Y4, hY⟩ : ∃ Y, Y = Y3.alloc (.cells (S12.ints (List.replicate gn 0)).toArray 3) := ⟨_, rfl⟩
  rw [← hY] at hn hHeld ⊢
  clear hY
  obtain ⟨gb, hb⟩ : ∃ b, Y3.heap.size = b := ⟨_, rfl⟩
  rw [hb] at hn ⊢
  clear hb
  have N4 := Lib.hid hn
  refine wpAnyH_now hHeld (fun hHeld2 => ?_)
  clear hHeld hn
  refine wpAnyH_ready (rs := [7]) (by kernel_rfl) (by simp) ?_
  refine AllReadyH.cons rfl (fun K hK => ?_) AllReadyH.nil
  go_simp
  go_at_call 22
  refine (wnew_box _).mono ?_
  rintro e Y5 ⟨rfl, hs, hx⟩
  refine hK.out _ _ hx (fun hHeld => ?_)
  clear hK K
  try simp only [Act.put, List.setIfInBounds_toArray, List.set_cons_zero, List.set_cons_succ]
  have hn := N4.out.wait hx hs
  clear hs hx
  obtain ⟨wb, hb⟩ : ∃ b, Y4.heap.size = b := ⟨_, rfl⟩
  rw [hb] at hn ⊢
  clear hb
  have N5 := Lib.hid hn
  refine wpAnyH_now hHeld (fun hHeld2 => ?_)
  clear hHeld hn
  refine wpAnyH_take (i := 8) (v := ?_) rfl (by kernel_rfl) (by kernel_rfl) (by kernel_rfl) (fun _ _ _ h => h) (Or.inl ⟨by rfl, ?_⟩) (by assumption) ?_
  rotate_left
  · intro w hSw; (try dsimp only at hSw); go_simp; try with_reducible rfl
  try simp only [Act.put, List.setIfInBounds_toArray, List.set_cons_zero, List.set_cons_succ]
  refine wpAnyH_ready (rs := [9]) (by kernel_rfl) (by simp) ?_
  refine AllReadyH.cons rfl (fun K hK => ?_) AllReadyH.nil
  go_simp
  refine hK.out _ _ (Ex.made _ _) (fun hHeld => ?_)
  clear hK K
  try simp only [Act.put, List.setIfInBounds_toArray, List.set_cons_zero, List.set_cons_succ]
  refine wpAnyH_ready (rs := [10]) (by kernel_rfl) (by simp) ?_
  refine AllReadyH.cons rfl (fun K hK => ?_) AllReadyH.nil
  go_simp
  refine hK.out _ _ ?_ (fun hHeld => ?_)
  · exact Ex.made _ _
  clear hK K
  try simp only [Act.put, List.setIfInBounds_toArray, List.set_cons_zero, List.set_cons_succ]
  refine wpAnyH_done (by kernel_rfl) ?_ _
  clear hHeld hHeld2
  rotate_left
  go_simp
  go_at_call 22
  refine (wnew_box _).mono ?_
  rintro e Y4 ⟨rfl, hs, hx⟩
  refine hK.out _ _ hx (fun hHeld => ?_)
  clear hK K
  try simp only [Act.put, List.setIfInBounds_toArray, List.set_cons_zero, List.set_cons_succ]
  have hn := N3.out.wait hx hs
  clear hs hx
  obtain ⟨wb, hb⟩ : ∃ b, Y3.heap.size = b := ⟨_, rfl⟩
  rw [hb] at hn ⊢
  clear hb
  have N4 := Lib.hid hn
  refine wpAnyH_now hHeld (fun hHeld2 => ?_)
  clear hHeld hn
  refine wpAnyH_ready (rs := [4]) (by kernel_rfl) (by simp) ?_
  refine AllReadyH.cons rfl (fun K hK => ?_) AllReadyH.nil
  have hms := make_ints Y4 gn (by omega)
  go_simp
  refine hK.out _ _ (Ex.made _ _) (fun hHeld => ?_)
  clear hK K hms
  try simp only [Act.put, List.setIfInBounds_toArray, List.set_cons_zero, List.set_cons_succ]
  have hn := N4.out.globs (Ex.made _ _) (Box.fresh _ _ _)
  obtain ⟨Y5, hY⟩ : ∃ Y, Y = Y4.alloc (.cells (S12.ints (List.replicate gn 0)).toArray 3) := ⟨_, rfl⟩
  rw [← hY] at hn hHeld ⊢
  clear hY
  obtain ⟨gb, hb⟩ : ∃ b, Y4.heap.size = b := ⟨_, rfl⟩
  rw [hb] at hn ⊢
  clear hb
  have N5 := Lib.hid hn
  refine wpAnyH_now hHeld (fun hHeld2 => ?_)
  clear hHeld hn
  refine wpAnyH_take (i := 8) (v := ?_) rfl (by kernel_rfl) (by kernel_rfl) (by kernel_rfl) (fun _ _ _ h => h) (Or.inl ⟨by rfl, ?_⟩) (by assumption) ?_
  rotate_left
  · intro w hSw; (try dsimp only at hSw); go_simp; try with_reducible rfl
  try simp only [Act.put, List.setIfInBounds_toArray, List.set_cons_zero, List.set_cons_succ]
  refine wpAnyH_ready (rs := [9]) (by kernel_rfl) (by simp) ?_
  refine AllReadyH.cons rfl (fun K hK => ?_) AllReadyH.nil
  go_simp
  refine hK.out _ _ (Ex.made _ _) (fun hHeld => ?_)
  clear hK K
  try simp only [Act.put, List.setIfInBounds_toArray, List.set_cons_zero, List.set_cons_succ]
  refine wpAnyH_ready (rs := [10]) (by kernel_rfl) (by simp) ?_
  refine AllReadyH.cons rfl (fun K hK => ?_) AllReadyH.nil
  go_simp
  refine hK.out _ _ ?_ (fun hHeld => ?_)
  · exact Ex.made _ _
  clear hK K
  try simp only [Act.put, List.setIfInBounds_toArray, List.set_cons_zero, List.set_cons_succ]
  refine wpAnyH_done (by kernel_rfl) ?_ _
  clear hHeld hHeld2
  rotate_left
  go_simp
  go_at_call 21
  refine (T13.ts_new _).mono ?_
  rintro e Y2 ⟨rfl, hs, hx⟩
  refine hK.out _ _ hx (fun hHeld => ?_)
  clear hK K
  try simp only [Act.put, List.setIfInBounds_toArray, List.set_cons_zero, List.set_cons_succ]
  have hn := N1.out.timer hx hs
  clear hs hx
  obtain ⟨tb, hb⟩ : ∃ b, Y1.heap.size = b := ⟨_, rfl⟩
  rw [hb] at hn ⊢
  clear hb
  have N2 := Lib.hid hn
  refine wpAnyH_now hHeld (fun hHeld2 => ?_)
  clear hHeld hn
  refine wpAnyH_ready (rs := [4, 5, 7]) (by kernel_rfl) (by simp) ?_
  refine AllReadyH.cons rfl (fun K hK => ?_) (AllReadyH.cons rfl (fun K hK => ?_) (AllReadyH.cons rfl (fun K hK => ?_) AllReadyH.nil))
  have hms := make_ints Y2 gn (by omega)
  go_simp
  refine hK.out _ _ (Ex.made _ _) (fun hHeld => ?_)
  clear hK K hms
  try simp only [Act.put, List.setIfInBounds_toArray, List.set_cons_zero, List.set_cons_succ]
  have hn := N2.out.globs (Ex.made _ _) (Box.fresh _ _ _)
  obtain ⟨Y3, hY⟩ : ∃ Y, Y = Y2.alloc (.cells (S12.ints (List.replicate gn 0)).toArray 3) := ⟨_, rfl⟩
  rw [← hY] at hn hHeld ⊢
  clear hY
  obtain ⟨gb, hb⟩ : ∃ b, Y2.heap.size = b := ⟨_, rfl⟩
  rw [hb] at hn ⊢
  clear hb
  have N3 := Lib.hid hn
  refine wpAnyH_now hHeld (fun hHeld2 => ?_)
  clear hHeld hn
  refine wpAnyH_ready (rs := [5, 7]) (by kernel_rfl) (by simp) ?_
  refine AllReadyH.cons rfl (fun K hK => ?_) (AllReadyH.cons rfl (fun K hK => ?_) AllReadyH.nil)
  go_simp
  refine hK.out _ _ (Ex.made _ _) (fun hHeld => ?_)
  clear hK K
  try simp only [Act.put, List.setIfInBounds_toArray, List.set_cons_zero, List.set_cons_succ]
  have hn := N3.out.slots (Ex.made _ _) (Box.fresh _ _ _)
  obtain ⟨Y4, hY⟩ : ∃ Y, Y = Y3.alloc (.cells #[.slice none 0 0] 37) := ⟨_, rfl⟩
  rw [← hY] at hn hHeld ⊢
  clear hY
  obtain ⟨lb, hb⟩ : ∃ b, Y3.heap.size = b := ⟨_, rfl⟩
  rw [hb] at hn ⊢
  clear hb
  have N4 := Lib.hid hn
  refine wpAnyH_now hHeld (fun hHeld2 => ?_)
  clear hHeld hn
  refine wpAnyH_ready (rs := [7]) (by kernel_rfl) (by simp) ?_
  refine AllReadyH.cons rfl (fun K hK => ?_) AllReadyH.nil
  go_simp
  go_at_call 22
  refine (wnew_box _).mono ?_
  rintro e Y5 ⟨rfl, hs, hx⟩
  refine hK.out _ _ hx (fun hHeld => ?_)
  clear hK K
  try simp only [Act.put, List.setIfInBounds_toArray, List.set_cons_zero, List.set_cons_succ]
  have hn := N4.out.wait hx hs
  clear hs hx
  obtain ⟨wb, hb⟩ : ∃ b, Y4.heap.size = b := ⟨_, rfl⟩
  rw [hb] at hn ⊢
  clear hb
  have N5 := Lib.hid hn
  refine wpAnyH_now hHeld (fun hHeld2 => ?_)
  clear hHeld hn
  refine wpAnyH_take (i := 8) (v := ?_) rfl (by kernel_rfl) (by kernel_rfl) (by kernel_rfl) (fun _ _ _ h => h) (Or.inl ⟨by rfl, ?_⟩) (by assumption) ?_
  rotate_left
  · intro w hSw; (try dsimp only at hSw); go_simp; try with_reducible rfl
  try simp only [Act.put, List.setIfInBounds_toArray, List.set_cons_zero, List.set_cons_succ]
  refine wpAnyH_ready (rs := [9]) (by kernel_rfl) (by simp) ?_
  refine AllReadyH.cons rfl (fun K hK => ?_) AllReadyH.nil
  go_simp
  refine hK.out _ _ (Ex.made _ _) (fun hHeld => ?_)
  clear hK K
  try simp only [Act.put, List.setIfInBounds_toArray, List.set_cons_zero, List.set_cons_succ]
  refine wpAnyH_ready (rs := [10]) (by kernel_rfl) (by simp) ?_
  refine AllReadyH.cons rfl (fun K hK => ?_) AllReadyH.nil
  go_simp
  refine hK.out _ _ ?_ (fun hHeld => ?_)
  · exact Ex.made _ _
  clear hK K
  try simp only [Act.put, List.setIfInBounds_toArray, List.set_cons_zero, List.set_cons_succ]
  refine wpAnyH_done (by kernel_rfl) ?_ _
  clear hHeld hHeld2
  rotate_left
  go_simp
  go_at_call 22
  refine (wnew_box _).mono ?_
  rintro e Y4 ⟨rfl, hs, hx⟩
  refine hK.out _ _ hx (fun hHeld => ?_)
  clear hK K
  try simp only [Act.put, List.setIfInBounds_toArray, List.set_cons_zero, List.set_cons_succ]
  have hn := N3.out.wait hx hs
  clear hs hx
  obtain ⟨wb, hb⟩ : ∃ b, Y3.heap.size = b := ⟨_, rfl⟩
  rw [hb] at hn ⊢
  clear hb
  have N4 := Lib.hid hn
  refine wpAnyH_now hHeld (fun hHeld2 => ?_)
  clear hHeld hn
  refine wpAnyH_ready (rs := [5]) (by kernel_rfl) (by simp) ?_
  refine AllReadyH.cons rfl (fun K hK => ?_) AllReadyH.nil
  go_simp
  refine hK.out _ _ (Ex.made _ _) (fun hHeld => ?_)
  clear hK K
  try simp only [Act.put, List.setIfInBounds_toArray, List.set_cons_zero, List.set_cons_succ]
  have hn := N4.out.slots (Ex.made _ _) (Box.fresh _ _ _)
  obtain ⟨Y5, hY⟩ : ∃ Y, Y = Y4.alloc (.cells #[.slice none 0 0] 37) := ⟨_, rfl⟩
  rw [← hY] at hn hHeld ⊢
  clear hY
  obtain ⟨lb, hb⟩ : ∃ b, Y4.heap.size = b := ⟨_, rfl⟩
  rw [hb] at hn ⊢
  clear hb
  have N5 := Lib.hid hn
  refine wpAnyH_now hHeld (fun hHeld2 => ?_)
  clear hHeld hn
  refine wpAnyH_take (i := 8) (v := ?_) rfl (by kernel_rfl) (by kernel_rfl) (by kernel_rfl) (fun _ _ _ h => h) (Or.inl ⟨by rfl, ?_⟩) (by assumption) ?_
  rotate_left
  · intro w hSw; (try dsimp only at hSw); go_simp; try with_reducible rfl
  try simp only [Act.put, List.setIfInBounds_toArray, List.set_cons_zero, List.set_cons_succ]
  refine wpAnyH_ready (rs := [9]) (by kernel_rfl) (by simp) ?_
  refine AllReadyH.cons rfl (fun K hK => ?_) AllReadyH.nil
  go_simp
  refine hK.out _ _ (Ex.made _ _) (fun hHeld => ?_)
  clear hK K
  try simp only [Act.put, List.setIfInBounds_toArray, List.set_cons_zero, List.set_cons_succ]
  refine wpAnyH_ready (rs := [10]) (by kernel_rfl) (by simp) ?_
  refine AllReadyH.cons rfl (fun K hK => ?_) AllReadyH.nil
  go_simp
  refine hK.out _ _ ?_ (fun hHeld => ?_)
  · exact Ex.made _ _
  clear hK K
  try simp only [Act.put, List.setIfInBounds_toArray, List.set_cons_zero, List.set_cons_succ]
  refine wpAnyH_done (by kernel_rfl) ?_ _
  clear hHeld hHeld2
  rotate_left
  go_simp
  refine hK.out _ _ (Ex.made _ _) (fun hHeld => ?_)
  clear hK K
  try simp only [Act.put, List.setIfInBounds_toArray, List.set_cons_zero, List.set_cons_succ]
  have hn := N2.out.slots (Ex.made _ _) (Box.fresh _ _ _)
  obtain ⟨Y3, hY⟩ : ∃ Y, Y = Y2.alloc (.cells #[.slice none 0 0] 37) := ⟨_, rfl⟩
  rw [← hY] at hn hHeld ⊢
  clear hY
  obtain ⟨lb, hb⟩ : ∃ b, Y2.heap.size = b := ⟨_, rfl⟩
  rw [hb] at hn ⊢
  clear hb
  have N3 := Lib.hid hn
  refine wpAnyH_now hHeld (fun hHeld2 => ?_)
  clear hHeld hn
  refine wpAnyH_ready (rs := [4, 7]) (by kernel_rfl) (by simp) ?_
  refine AllReadyH.cons rfl (fun K hK => ?_) (AllReadyH.cons rfl (fun K hK => ?_) AllReadyH.nil)
  have hms := make_ints Y3 gn (by omega)
  go_simp
  refine hK.out _ _ (Ex.made _ _) (fun hHeld => ?_)
  clear hK K hms
  try simp only [Act.put, List.setIfInBounds_toArray, List.set_cons_zero, List.set_cons_succ]
  have hn := N3.out.globs (Ex.made _ _) (Box.fresh _ _ _)
  obtain ⟨Y4, hY⟩ : ∃ Y, Y = Y3.alloc (.cells (S12.ints (List.replicate gn 0)).toArray 3) := ⟨_, rfl⟩
  rw [← hY] at hn hHeld ⊢
  clear hY
  obtain ⟨gb, hb⟩ : ∃ b, Y3.heap.size = b := ⟨_, rfl⟩
  rw [hb] at hn ⊢
  clear hb
  have N4 := Lib.hid hn
  refine wpAnyH_now hHeld (fun hHeld2 => ?_)
  clear hHeld hn
  refine wpAnyH_ready (rs := [7]) (by kernel_rfl) (by simp) ?_
  refine AllReadyH.cons rfl (fun K hK => ?_) AllReadyH.nil
  go_simp
  go_at_call 22
  refine (wnew_box _).mono ?_
  rintro e Y5 ⟨rfl, hs, hx⟩
  refine hK.out _ _ hx (fun hHeld => ?_)
  clear hK K
  try simp only [Act.put, List.setIfInBounds_toArray, List.set_cons_zero, List.set_cons_succ]
  have hn := N4.out.wait hx hs
  clear hs hx
  obtain ⟨wb, hb⟩ : ∃ b, Y4.heap.size = b := ⟨_, rfl⟩
  rw [hb] at hn ⊢
  clear hb
  have N5 := Lib.hid hn
  refine wpAnyH_now hHeld (fun hHeld2 => ?_)
  clear hHeld hn
  refine wpAnyH_take (i := 8) (v := ?_) rfl (by kernel_rfl) (by kernel_rfl) (by kernel_rfl) (fun _ _ _ h => h) (Or.inl ⟨by rfl, ?_⟩) (by assumption) ?_
  rotate_left
  · intro w hSw; (try dsimp only at hSw); go_simp; try with_reducible rfl
  try simp only [Act.put, List.setIfInBounds_toArray, List.set_cons_zero, List.set_cons_succ]
  refine wpAnyH_ready (rs := [9]) (by kernel_rfl) (by simp) ?_
  refine AllReadyH.cons rfl (fun K hK => ?_) AllReadyH.nil
  go_simp
  refine hK.out _ _ (Ex.made _ _) (fun hHeld => ?_)
  clear hK K
  try simp only [Act.put, List.setIfInBounds_toArray, List.set_cons_zero, List.set_cons_succ]
  refine wpAnyH_ready (rs := [10]) (by kernel_rfl) (by simp) ?_
  refine AllReadyH.cons rfl (fun K hK => ?_) AllReadyH.nil
  go_simp
  refine hK.out _ _ ?_ (fun hHeld => ?_)
  · exact Ex.made _ _
  clear hK K
  try simp only [Act.put, List.setIfInBounds_toArray, List.set_cons_zero, List.set_cons_succ]
  refine wpAnyH_done (by kernel_rfl) ?_ _
  clear hHeld hHeld2
  rotate_left
  go_simp
  go_at_call 22
  refine (wnew_box _).mono ?_
  rintro e Y4 ⟨rfl, hs, hx⟩
  refine hK.out _ _ hx (fun hHeld => ?_)
  clear hK K
  try simp only [Act.put, List.setIfInBounds_toArray, List.set_cons_zero, List.set_cons_succ]
  have hn := N3.out.wait hx hs
  clear hs hx
  obtain ⟨wb, hb⟩ : ∃ b, Y3.heap.size = b := ⟨_, rfl⟩
  rw [hb] at hn ⊢
  clear hb
  have N4 := Lib.hid hn
  refine wpAnyH_now hHeld (fun hHeld2 => ?_)
  clear hHeld hn
  refine wpAnyH_ready (rs := [4]) (by kernel_rfl) (by simp) ?_
  refine AllReadyH.cons rfl (fun K hK => ?_) AllReadyH.nil
  have hms := make_ints Y4 gn (by omega)
  go_simp
  refine hK.out _ _ (Ex.made _ _) (fun hHeld => ?_)
  clear hK K hms
  try simp only [Act.put, List.setIfInBounds_toArray, List.set_cons_zero, List.set_cons_succ]
  have hn := N4.out.globs (Ex.made _ _) (Box.fresh _ _ _)
  obtain ⟨Y5, hY⟩ : ∃ Y, Y = Y4.alloc (.cells (S12.ints (List.replicate gn 0)).toArray 3) := ⟨_, rfl⟩
  rw [← hY] at hn hHeld ⊢
  clear hY
  obtain ⟨gb, hb⟩ : ∃ b, Y4.heap.size = b := ⟨_, rfl⟩
  rw [hb] at hn ⊢
  clear hb
  have N5 := Lib.hid hn
  refine wpAnyH_now hHeld (fun hHeld2 => ?_)
  clear hHeld hn
  refine wpAnyH_take (i := 8) (v := ?_) rfl (by kernel_rfl) (by kernel_rfl) (by kernel_rfl) (fun _ _ _ h => h) (Or.inl ⟨by rfl, ?_⟩) (by assumption) ?_
  rotate_left
  · intro w hSw; (try dsimp only at hSw); go_simp; try with_reducible rfl
  try simp only [Act.put, List.setIfInBounds_toArray, List.set_cons_zero, List.set_cons_succ]
  refine wpAnyH_ready (rs := [9]) (by kernel_rfl) (by simp) ?_
  refine AllReadyH.cons rfl (fun K hK => ?_) AllReadyH.nil
  go_simp
  refine hK.out _ _ (Ex.made _ _) (fun hHeld => ?_)
  clear hK K
  try simp only [Act.put, List.setIfInBounds_toArray, List.set_cons_zero, List.set_cons_succ]
  refine wpAnyH_ready (rs := [10]) (by kernel_rfl) (by simp) ?_
  refine AllReadyH.cons rfl (fun K hK => ?_) AllReadyH.nil
  go_simp
  refine hK.out _ _ ?_ (fun hHeld => ?_)
  · exact Ex.made _ _
  clear hK K
  try simp only [Act.put, List.setIfInBounds_toArray, List.set_cons_zero, List.set_cons_succ]
  refine wpAnyH_done (by kernel_rfl) ?_ _
  clear hHeld hHeld2
  rotate_left
  go_simp
  go_at_call 22
  refine (wnew_box _).mono ?_
  rintro e Y3 ⟨rfl, hs, hx⟩
  refine hK.out _ _ hx (fun hHeld => ?_)
  clear hK K
  try simp only [Act.put, List.setIfInBounds_toArray, List.set_cons_zero, List.set_cons_succ]
  have hn := N2.out.wait hx hs
  clear hs hx
  obtain ⟨wb, hb⟩ : ∃ b, Y2.heap.size = b := ⟨_, rfl⟩
  rw [hb] at hn ⊢
  clear hb
  have N3 := Lib.hid hn
  refine wpAnyH_now hHeld (fun hHeld2 => ?_)
  clear hHeld hn
  refine wpAnyH_ready (rs := [4, 5]) (by kernel_rfl) (by simp) ?_
  refine AllReadyH.cons rfl (fun K hK => ?_) (AllReadyH.cons rfl (fun K hK => ?_) AllReadyH.nil)
  have hms := make_ints Y3 gn (by omega)
  go_simp
  refine hK.out _ _ (Ex.made _ _) (fun hHeld => ?_)
  clear hK K hms
  try simp only [Act.put, List.setIfInBounds_toArray, List.set_cons_zero, List.set_cons_succ]
  have hn := N3.out.globs (Ex.made _ _) (Box.fresh _ _ _)
  obtain ⟨Y4, hY⟩ : ∃ Y, Y = Y3.alloc (.cells (S12.ints (List.replicate gn 0)).toArray 3) := ⟨_, rfl⟩
  rw [← hY] at hn hHeld ⊢
  clear hY
  obtain ⟨gb, hb⟩ : ∃ b, Y3.heap.size = b := ⟨_, rfl⟩
  rw [hb] at hn ⊢
  clear hb
  have N4 := Lib.hid hn
  refine wpAnyH_now hHeld (fun hHeld2 => ?_)
  clear hHeld hn
  refine wpAnyH_ready (rs := [5]) (by kernel_rfl) (by simp) ?_
  refine AllReadyH.cons rfl (fun K hK => ?_) AllReadyH.nil
  go_simp
  refine hK.out _ _ (Ex.made _ _) (fun hHeld => ?_)
  clear hK K
  try simp only [Act.put, List.setIfInBounds_toArray, List.set_cons_zero, List.set_cons_succ]
  have hn := N4.out.slots (Ex.made _ _) (Box.fresh _ _ _)
  obtain ⟨Y5, hY⟩ : ∃ Y, Y = Y4.alloc (.cells #[.slice none 0 0] 37) := ⟨_, rfl⟩
  rw [← hY] at hn hHeld ⊢
  clear hY
  obtain ⟨lb, hb⟩ : ∃ b, Y4.heap.size = b := ⟨_, rfl⟩
  rw [hb] at hn ⊢
  clear hb
  have N5 := Lib.hid hn
  refine wpAnyH_now hHeld (fun hHeld2 => ?_)
  clear hHeld hn
  refine wpAnyH_take (i := 8) (v := ?_) rfl (by kernel_rfl) (by kernel_rfl) (by kernel_rfl) (fun _ _ _ h => h) (Or.inl ⟨by rfl, ?_⟩) (by assumption) ?_
  rotate_left
  · intro w hSw; (try dsimp only at hSw); go_simp; try with_reducible rfl
  try simp only [Act.put, List.setIfInBounds_toArray, List.set_cons_zero, List.set_cons_succ]
  refine wpAnyH_ready (rs := [9]) (by kernel_rfl) (by simp) ?_
  refine AllReadyH.cons rfl (fun K hK => ?_) AllReadyH.nil
  go_simp
  refine hK.out _ _ (Ex.made _ _) (fun hHeld => ?_)
  clear hK K
  try simp only [Act.put, List.setIfInBounds_toArray, List.set_cons_zero, List.set_cons_succ]
  refine wpAnyH_ready (rs := [10]) (by kernel_rfl) (by simp) ?_
  refine AllReadyH.cons rfl (fun K hK => ?_) AllReadyH.nil
  go_simp
  refine hK.out _ _ ?_ (fun hHeld => ?_)
  · exact Ex.made _ _
  clear hK K
  try simp only [Act.put, List.setIfInBounds_toArray, List.set_cons_zero, List.set_cons_succ]
  refine wpAnyH_done (by kernel_rfl) ?_ _
  clear hHeld hHeld2
  rotate_left
  go_simp
  refine hK.out _ _ (Ex.made _ _) (fun hHeld => ?_)
  clear hK K
  try simp only [Act.put, List.setIfInBounds_toArray, List.set_cons_zero, List.set_cons_succ]
  have hn := N3.out.slots (Ex.made _ _) (Box.fresh _ _ _)
  obtain ⟨Y4, hY⟩ : ∃ Y, Y = Y3.alloc (.cells #[.slice none 0 0] 37) := ⟨_, rfl⟩
  rw [← hY] at hn hHeld ⊢
  clear hY
  obtain ⟨lb, hb⟩ : ∃ b, Y3.heap.size = b := ⟨_, rfl⟩
  rw [hb] at hn ⊢
  clear hb
  have N4 := Lib.hid hn
  refine wpAnyH_now hHeld (fun hHeld2 => ?_)
  clear hHeld hn
  refine wpAnyH_ready (rs := [4]) (by kernel_rfl) (by simp) ?_
  refine AllReadyH.cons rfl (fun K hK => ?_) AllReadyH.nil
  have hms := make_ints Y4 gn (by omega)
  go_simp
  refine hK.out _ _ (Ex.made _ _) (fun hHeld => ?_)
  clear hK K hms
  try simp only [Act.put, List.setIfInBounds_toArray, List.set_cons_zero, List.set_cons_succ]
  have hn := N4.out.globs (Ex.made _ _) (Box.fresh _ _ _)
  obtain ⟨Y5, hY⟩ : ∃ Y, Y = Y4.alloc (.cells (S12.ints (List.replicate gn 0)).toArray 3) := ⟨_, rfl⟩
  rw [← hY] at hn hHeld ⊢
  clear hY
  obtain ⟨gb, hb⟩ : ∃ b, Y4.heap.size = b := ⟨_, rfl⟩
  rw [hb] at hn ⊢
  clear hb
  have N5 := Lib.hid hn
  refine wpAnyH_now hHeld (fun hHeld2 => ?_)
  clear hHeld hn
  refine wpAnyH_take (i := 8) (v := ?_) rfl (by kernel_rfl) (by kernel_rfl) (by kernel_rfl) (fun _ _ _ h => h) (Or.inl ⟨by rfl, ?_⟩) (by assumption) ?_
  rotate_left
  · intro w hSw; (try dsimp only at hSw); go_simp; try with_reducible rfl
  try simp only [Act.put, List.setIfInBounds_toArray, List.set_cons_zero, List.set_cons_succ]
  refine wpAnyH_ready (rs := [9]) (by kernel_rfl) (by simp) ?_
  refine AllReadyH.cons rfl (fun K hK => ?_) AllReadyH.nil
  go_simp
  refine hK.out _ _ (Ex.made _ _) (fun hHeld => ?_)
  clear hK K
  try simp only [Act.put, List.setIfInBounds_toArray, List.set_cons_zero, List.set_cons_succ]
  refine wpAnyH_ready (rs := [10]) (by kernel_rfl) (by simp) ?_
  refine AllReadyH.cons rfl (fun K hK => ?_) AllReadyH.nil
  go_simp
  refine hK.out _ _ ?_ (fun hHeld => ?_)
  · exact Ex.made _ _
  clear hK K
  try simp only [Act.put, List.setIfInBounds_toArray, List.set_cons_zero, List.set_cons_succ]
  refine wpAnyH_done (by kernel_rfl) ?_ _
  clear hHeld hHeld2
  rotate_left
  have hms := make_ints Y0 gn (by omega)
  go_simp
  refine hK.out _ _ (Ex.made _ _) (fun hHeld => ?_)
  clear hK K hms
  try simp only [Act.put, List.setIfInBounds_toArray, List.set_cons_zero, List.set_cons_succ]
  have hn := N0.out.globs (Ex.made _ _) (Box.fresh _ _ _)
  obtain ⟨Y1, hY⟩ : ∃ Y, Y = Y0.alloc (.cells (S12.ints (List.replicate gn 0)).toArray 3) := ⟨_, rfl⟩
  rw [← hY] at hn hHeld ⊢
  clear hY
  obtain ⟨gb, hb⟩ : ∃ b, Y0.heap.size = b := ⟨_, rfl⟩
  rw [hb] at hn ⊢
  clear hb
  have N1 := Lib.hid hn
  refine wpAnyH_now hHeld (fun hHeld2 => ?_)
  clear hHeld hn
  refine wpAnyH_ready (rs := [1, 5]) (by kernel_rfl) (by simp) ?_
  refine AllReadyH.cons rfl (fun K hK => ?_) (AllReadyH.cons rfl (fun K hK => ?_) AllReadyH.nil)
  go_simp
  go_at_call 20
  refine (S12.new_any _).mono ?_
  rintro e Y2 ⟨rfl, hs, hx, -⟩
  refine hK.out _ _ hx (fun hHeld => ?_)
  clear hK K
  try simp only [Act.put, List.setIfInBounds_toArray, List.set_cons_zero, List.set_cons_succ]
  have hn := N1.out.state hx hs
  clear hs hx
  obtain ⟨sb, hb⟩ : ∃ b, Y1.heap.size = b := ⟨_, rfl⟩
  rw [hb] at hn ⊢
  clear hb
  have N2 := Lib.hid hn
  refine wpAnyH_now hHeld (fun hHeld2 => ?_)
  clear hHeld hn
  refine wpAnyH_ready (rs := [5, 6]) (by kernel_rfl) (by simp) ?_
  refine AllReadyH.cons rfl (fun K hK => ?_) (AllReadyH.cons rfl (fun K hK => ?_) AllReadyH.nil)
  go_simp
  refine hK.out _ _ (Ex.made _ _) (fun hHeld => ?_)
  clear hK K
  try simp only [Act.put, List.setIfInBounds_toArray, List.set_cons_zero, List.set_cons_succ]
  have hn := N2.out.slots (Ex.made _ _) (Box.fresh _ _ _)
  obtain ⟨Y3, hY⟩ : ∃ Y, Y = Y2.alloc (.cells #[.slice none 0 0] 37) := ⟨_, rfl⟩
  rw [← hY] at hn hHeld ⊢
  clear hY
  obtain ⟨lb, hb⟩ : ∃ b, Y2.heap.size = b := ⟨_, rfl⟩
  rw [hb] at hn ⊢
  clear hb
  have N3 := Lib.hid hn
  refine wpAnyH_now hHeld (fun hHeld2 => ?_)
  clear hHeld hn
  refine wpAnyH_ready (rs := [6]) (by kernel_rfl) (by simp) ?_
  refine AllReadyH.cons rfl (fun K hK => ?_) AllReadyH.nil
  go_simp
  go_at_call 21
  refine (T13.ts_new _).mono ?_
  rintro e Y4 ⟨rfl, hs, hx⟩
  refine hK.out _ _ hx (fun hHeld => ?_)
  clear hK K
  try simp only [Act.put, List.setIfInBounds_toArray, List.set_cons_zero, List.set_cons_succ]
  have hn := N3.out.timer hx hs
  clear hs hx
  obtain ⟨tb, hb⟩ : ∃ b, Y3.heap.size = b := ⟨_, rfl⟩
  rw [hb] at hn ⊢
  clear hb
  have N4 := Lib.hid hn
  refine wpAnyH_now hHeld (fun hHeld2 => ?_)
  clear hHeld hn
  refine wpAnyH_ready (rs := [7]) (by kernel_rfl) (by simp) ?_
  refine AllReadyH.cons rfl (fun K hK => ?_) AllReadyH.nil
  go_simp
  go_at_call 22
  refine (wnew_box _).mono ?_
  rintro e Y5 ⟨rfl, hs, hx⟩
  refine hK.out _ _ hx (fun hHeld => ?_)
  clear hK K
  try simp only [Act.put, List.setIfInBounds_toArray, List.set_cons_zero, List.set_cons_succ]
  have hn := N4.out.wait hx hs
  clear hs hx
  obtain ⟨wb, hb⟩ : ∃ b, Y4.heap.size = b := ⟨_, rfl⟩
  rw [hb] at hn ⊢
  clear hb
  have N5 := Lib.hid hn
  refine wpAnyH_now hHeld (fun hHeld2 => ?_)
  clear hHeld hn
  refine wpAnyH_take (i := 8) (v := ?_) rfl (by kernel_rfl) (by kernel_rfl) (by kernel_rfl) (fun _ _ _ h => h) (Or.inl ⟨by rfl, ?_⟩) (by assumption) ?_
  rotate_left
  · intro w hSw; (try dsimp only at hSw); go_simp; try with_reducible rfl
  try simp only [Act.put, List.setIfInBounds_toArray, List.set_cons_zero, List.set_cons_succ]
  refine wpAnyH_ready (rs := [9]) (by kernel_rfl) (by simp) ?_
  refine AllReadyH.cons rfl (fun K hK => ?_) AllReadyH.nil
  go_simp
  refine hK.out _ _ (Ex.made _ _) (fun hHeld => ?_)
  clear hK K
  try simp only [Act.put, List.setIfInBounds_toArray, List.set_cons_zero, List.set_cons_succ]
  refine wpAnyH_ready (rs := [10]) (by kernel_rfl) (by simp) ?_
  refine AllReadyH.cons rfl (fun K hK => ?_) AllReadyH.nil
  go_simp
  refine hK.out _ _ ?_ (fun hHeld => ?_)
  · exact Ex.made _ _
  clear hK K
  try simp only [Act.put, List.setIfInBounds_toArray, List.set_cons_zero, List.set_cons_succ]
  refine wpAnyH_done (by kernel_rfl) ?_ _
  clear hHeld hHeld2
  rotate_left
  go_simp
  go_at_call 21
  refine (T13.ts_new _).mono ?_
  rintro e Y3 ⟨rfl, hs, hx⟩
  refine hK.out _ _ hx (fun hHeld => ?_)
  clear hK K
  try simp only [Act.put, List.setIfInBounds_toArray, List.set_cons_zero, List.set_cons_succ]
  have hn := N2.out.timer hx hs
  clear hs hx
  obtain ⟨tb, hb⟩ : ∃ b, Y2.heap.size = b := ⟨_, rfl⟩
  rw [hb] at hn ⊢
  clear hb
  have N3 := Lib.hid hn
  refine wpAnyH_now hHeld (fun hHeld2 => ?_)
  clear hHeld hn
  refine wpAnyH_ready (rs := [5, 7]) (by kernel_rfl) (by simp) ?_
  refine AllReadyH.cons rfl (fun K hK => ?_) (AllReadyH.cons rfl (fun K hK => ?_) AllReadyH.nil)
  go_simp
  refine hK.out _ _ (Ex.made _ _) (fun hHeld => ?_)
  clear hK K
  try simp only [Act.put, List.setIfInBounds_toArray, List.set_cons_zero, List.set_cons_succ]
  have hn := N3.out.slots (Ex.made _ _) (Box.fresh _ _ _)
  obtain ⟨Y4, hY⟩ : ∃ Y, Y = Y3.alloc (.cells #[.slice none 0 0] 37) := ⟨_, rfl⟩
  rw [← hY] at hn hHeld ⊢
  clear hY
  obtain ⟨lb, hb⟩ : ∃ b, Y3.heap.size = b := ⟨_, rfl⟩
  rw [hb] at hn ⊢
  clear hb
  have N4 := Lib.hid hn
  refine wpAnyH_now hHeld (fun hHeld2 => ?_)
  clear hHeld hn
  refine wpAnyH_ready (rs := [7]) (by kernel_rfl) (by simp) ?_
  refine AllReadyH.cons rfl (fun K hK => ?_) AllReadyH.nil
  go_simp
  go_at_call 22
  refine (wnew_box _).mono ?_
  rintro e Y5 ⟨rfl, hs, hx⟩
  refine hK.out _ _ hx (fun hHeld => ?_)
  clear hK K
  try simp only [Act.put, List.setIfInBounds_toArray, List.set_cons_zero, List.set_cons_succ]
  have hn := N4.out.wait hx hs
  clear hs hx
  obtain ⟨wb, hb⟩ : ∃ b, Y4.heap.size = b := ⟨_, rfl⟩
  rw [hb] at hn ⊢
  clear hb
  have N5 := Lib.hid hn
  refine wpAnyH_now hHeld (fun hHeld2 => ?_)
  clear hHeld hn
  refine wpAnyH_take (i := 8) (v := ?_) rfl (by kernel_rfl) (by kernel_rfl) (by kernel_rfl) (fun _ _ _ h => h) (Or.inl ⟨by rfl, ?_⟩) (by assumption) ?_
  rotate_left
  · intro w hSw; (try dsimp only at hSw); go_simp; try with_reducible rfl
  try simp only [Act.put, List.setIfInBounds_toArray, List.set_cons_zero, List.set_cons_succ]
  refine wpAnyH_ready (rs := [9]) (by kernel_rfl) (by simp) ?_
  refine AllReadyH.cons rfl (fun K hK => ?_) AllReadyH.nil
  go_simp
  refine hK.out _ _ (Ex.made _ _) (fun hHeld => ?_)
  clear hK K
  try simp only [Act.put, List.setIfInBounds_toArray, List.set_cons_zero, List.set_cons_succ]
  refine wpAnyH_ready (rs := [10]) (by kernel_rfl) (by simp) ?_
  refine AllReadyH.cons rfl (fun K hK => ?_) AllReadyH.nil
  go_simp
  refine hK.out _ _ ?_ (fun hHeld => ?_)
  · exact Ex.made _ _
  clear hK K
  try simp only [Act.put, List.setIfInBounds_toArray, List.set_cons_zero, List.set_cons_succ]
  refine wpAnyH_done (by kernel_rfl) ?_ _
  clear hHeld hHeld2
  rotate_left
  go_simp
  go_at_call 22
  refine (wnew_box _).mono ?_
  rintro e Y4 ⟨rfl, hs, hx⟩
  refine hK.out _ _ hx (fun hHeld => ?_)
  clear hK K
  try simp only [Act.put, List.setIfInBounds_toArray, List.set_cons_zero, List.set_cons_succ]
  have hn := N3.out.wait hx hs
  clear hs hx
  obtain ⟨wb, hb⟩ : ∃ b, Y3.heap.size = b := ⟨_, rfl⟩
  rw [hb] at hn ⊢
  clear hb
  have N4 := Lib.hid hn
  refine wpAnyH_now hHeld (fun hHeld2 => ?_)
  clear hHeld hn
  refine wpAnyH_ready (rs := [5]) (by kernel_rfl) (by simp) ?_
  refine AllReadyH.cons rfl (fun K hK => ?_) AllReadyH.nil
  go_simp
  refine hK.out _ _ (Ex.made _ _) (fun hHeld => ?_)
  clear hK K
  try simp only [Act.put, List.setIfInBounds_toArray, List.set_cons_zero, List.set_cons_succ]
  have hn := N4.out.slots (Ex.made _ _) (Box.fresh _ _ _)
  obtain ⟨Y5, hY⟩ : ∃ Y, Y = Y4.alloc (.cells #[.slice none 0 0] 37) := ⟨_, rfl⟩
  rw [← hY] at hn hHeld ⊢
  clear hY
  obtain ⟨lb, hb⟩ : ∃ b, Y4.heap.size = b := ⟨_, rfl⟩
  rw [hb] at hn ⊢
  clear hb
  have N5 := Lib.hid hn
  refine wpAnyH_now hHeld (fun hHeld2 => ?_)
  clear hHeld hn
  refine wpAnyH_take (i := 8) (v := ?_) rfl (by kernel_rfl) (by kernel_rfl) (by kernel_rfl) (fun _ _ _ h => h) (Or.inl ⟨by rfl, ?_⟩) (by assumption) ?_
  rotate_left
  · intro w hSw; (try dsimp only at hSw); go_simp; try with_reducible rfl
  try simp only [Act.put, List.setIfInBounds_toArray, List.set_cons_zero, List.set_cons_succ]
  refine wpAnyH_ready (rs := [9]) (by kernel_rfl) (by simp) ?_
  refine AllReadyH.cons rfl (fun K hK => ?_) AllReadyH.nil
  go_simp
  refine hK.out _ _ (Ex.made _ _) (fun hHeld => ?_)
  clear hK K
  try simp only [Act.put, List.setIfInBounds_toArray, List.set_cons_zero, List.set_cons_succ]
  refine wpAnyH_ready (rs := [10]) (by kernel_rfl) (by simp) ?_
  refine AllReadyH.cons rfl (fun K hK => ?_) AllReadyH.nil
  go_simp
  refine hK.out _ _ ?_ (fun hHeld => ?_)
  · exact Ex.made _ _
  clear hK K
  try simp only [Act.put, List.setIfInBounds_toArray, List.set_cons_zero, List.set_cons_succ]
  refine wpAnyH_done (by kernel_rfl) ?_ _
  clear hHeld hHeld2
  rotate_left
  go_simp
  refine hK.out _ _ (Ex.made _ _) (fun hHeld => ?_)
  clear hK K
  try simp only [Act.put, List.setIfInBounds_toArray, List.set_cons_zero, List.set_cons_succ]
  have hn := N1.out.slots (Ex.made _ _) (Box.fresh _ _ _)
  obtain ⟨Y2, hY⟩ : ∃ Y, Y = Y1.alloc (.cells #[.slice none 0 0] 37) := ⟨_, rfl⟩
  rw [← hY] at hn hHeld ⊢
  clear hY
  obtain ⟨lb, hb⟩ : ∃ b, Y1.heap.size = b := ⟨_, rfl⟩
  rw [hb] at hn ⊢
  clear hb
  have N2 := Lib.hid hn
  refine wpAnyH_now hHeld (fun hHeld2 => ?_)
  clear hHeld hn
  refine wpAnyH_ready (rs := [1]) (by kernel_rfl) (by simp) ?_
  refine AllReadyH.cons rfl (fun K hK => ?_) AllReadyH.nil
  go_simp
  go_at_call 20
  refine (S12.new_any _).mono ?_
  rintro e Y3 ⟨rfl, hs, hx, -⟩
  refine hK.out _ _ hx (fun hHeld => ?_)
  clear hK K
  try simp only [Act.put, List.setIfInBounds_toArray, List.set_cons_zero, List.set_cons_succ]
  have hn := N2.out.state hx hs
  clear hs hx
  obtain ⟨sb, hb⟩ : ∃ b, Y2.heap.size = b := ⟨_, rfl⟩
  rw [hb] at hn ⊢
  clear hb
  have N3 := Lib.hid hn
  refine wpAnyH_now hHeld (fun hHeld2 => ?_)
  clear hHeld hn
  refine wpAnyH_ready (rs := [6]) (by kernel_rfl) (by simp) ?_
  refine AllReadyH.cons rfl (fun K hK => ?_) AllReadyH.nil
  go_simp
  go_at_call 21
  refine (T13.ts_new _).mono ?_
  rintro e Y4 ⟨rfl, hs, hx⟩
  refine hK.out _ _ hx (fun hHeld => ?_)
  clear hK K
  try simp only [Act.put, List.setIfInBounds_toArray, List.set_cons_zero, List.set_cons_succ]
  have hn := N3.out.timer hx hs
  clear hs hx
  obtain ⟨tb, hb⟩ : ∃ b, Y3.heap.size = b := ⟨_, rfl⟩
  rw [hb] at hn ⊢
  clear hb
  have N4 := Lib.hid hn
  refine wpAnyH_now hHeld (fun hHeld2 => ?_)
  clear hHeld hn
  refine wpAnyH_ready (rs := [7]) (by kernel_rfl) (by simp) ?_
  refine AllReadyH.cons rfl (fun K hK => ?_) AllReadyH.nil
  go_simp
  go_at_call 22
  refine (wnew_box _).mono ?_
  rintro e Y5 ⟨rfl, hs, hx⟩
  refine hK.out _ _ hx (fun hHeld => ?_)
  clear hK K
  try simp only [Act.put, List.setIfInBounds_toArray, List.set_cons_zero, List.set_cons_succ]
  have hn := N4.out.wait hx hs
  clear hs hx
  obtain ⟨wb, hb⟩ : ∃ b, Y4.heap.size = b := ⟨_, rfl⟩
  rw [hb] at hn ⊢
  clear hb
  have N5 := Lib.hid hn
  refine wpAnyH_now hHeld (fun hHeld2 => ?_)
  clear hHeld hn
  refine wpAnyH_take (i := 8) (v := ?_) rfl (by kernel_rfl) (by kernel_rfl) (by kernel_rfl) (fun _ _ _ h => h) (Or.inl ⟨by rfl, ?_⟩) (by assumption) ?_
  rotate_left
  · intro w hSw; (try dsimp only at hSw); go_simp; try with_reducible rfl
  try simp only [Act.put, List.setIfInBounds_toArray, List.set_cons_zero, List.set_cons_succ]
  refine wpAnyH_ready (rs := [9]) (by kernel_rfl) (by simp) ?_
  refine AllReadyH.cons rfl (fun K hK => ?_) AllReadyH.nil
  go_simp
  refine hK.out _ _ (Ex.made _ _) (fun hHeld => ?_)
  clear hK K
  try simp only [Act.put, List.setIfInBounds_toArray, List.set_cons_zero, List.set_cons_succ]
  refine wpAnyH_ready (rs := [10]) (by kernel_rfl) (by simp) ?_
  refine AllReadyH.cons rfl (fun K hK => ?_) AllReadyH.nil
  go_simp
  refine hK.out _ _ ?_ (fun hHeld => ?_)
  · exact Ex.made _ _
  clear hK K
  try simp only [Act.put, List.setIfInBounds_toArray, List.set_cons_zero, List.set_cons_succ]
  refine wpAnyH_done (by kernel_rfl) ?_ _
  clear hHeld hHeld2
  rotate_left
  go_simp
  refine hK.out _ _ (Ex.made _ _) (fun hHeld => ?_)
  clear hK K
  try simp only [Act.put, List.setIfInBounds_toArray, List.set_cons_zero, List.set_cons_succ]
  have hn := N0.out.slots (Ex.made _ _) (Box.fresh _ _ _)
  obtain ⟨Y1, hY⟩ : ∃ Y, Y = Y0.alloc (.cells #[.slice none 0 0] 37) := ⟨_, rfl⟩
  rw [← hY] at hn hHeld ⊢
  clear hY
  obtain ⟨lb, hb⟩ : ∃ b, Y0.heap.size = b := ⟨_, rfl⟩
  rw [hb] at hn ⊢
  clear hb
  have N1 := Lib.hid hn
  refine wpAnyH_now hHeld (fun hHeld2 => ?_)
  clear hHeld hn
  refine wpAnyH_ready (rs := [1, 4]) (by kernel_rfl) (by simp) ?_
  refine AllReadyH.cons rfl (fun K hK => ?_) (AllReadyH.cons rfl (fun K hK => ?_) AllReadyH.nil)
  go_simp
  go_at_call 20
  refine (S12.new_any _).mono ?_
  rintro e Y2 ⟨rfl, hs, hx, -⟩
  refine hK.out _ _ hx (fun hHeld => ?_)
  clear hK K
  try simp only [Act.put, List.setIfInBounds_toArray, List.set_cons_zero, List.set_cons_succ]
  have hn := N1.out.state hx hs
  clear hs hx
  obtain ⟨sb, hb⟩ : ∃ b, Y1.heap.size = b := ⟨_, rfl⟩
  rw [hb] at hn ⊢
  clear hb
  have N2 := Lib.hid hn
  refine wpAnyH_now hHeld (fun hHeld2 => ?_)
  clear hHeld hn
  refine wpAnyH_ready (rs := [4, 6]) (by kernel_rfl) (by simp) ?_
  refine AllReadyH.cons rfl (fun K hK => ?_) (AllReadyH.cons rfl (fun K hK => ?_) AllReadyH.nil)
  have hms := make_ints Y2 gn (by omega)
  go_simp
  refine hK.out _ _ (Ex.made _ _) (fun hHeld => ?_)
  clear hK K hms
  try simp only [Act.put, List.setIfInBounds_toArray, List.set_cons_zero, List.set_cons_succ]
  have hn := N2.out.globs (Ex.made _ _) (Box.fresh _ _ _)
  obtain ⟨Y3, hY⟩ : ∃ Y, Y = Y2.alloc (.cells (S12.ints (List.replicate gn 0)).toArray 3) := ⟨_, rfl⟩
  rw [← hY] at hn hHeld ⊢
  clear hY
  obtain ⟨gb, hb⟩ : ∃ b, Y2.heap.size = b := ⟨_, rfl⟩
  rw [hb] at hn ⊢
  clear hb
  have N3 := Lib.hid hn
  refine wpAnyH_now hHeld (fun hHeld2 => ?_)
  clear hHeld hn
  refine wpAnyH_ready (rs := [6]) (by kernel_rfl) (by simp) ?_
  refine AllReadyH.cons rfl (fun K hK => ?_) AllReadyH.nil
  go_simp
  go_at_call 21
  refine (T13.ts_new _).mono ?_
  rintro e Y4 ⟨rfl, hs, hx⟩
  refine hK.out _ _ hx (fun hHeld => ?_)
  clear hK K
  try simp only [Act.put, List.setIfInBounds_toArray, List.set_cons_zero, List.set_cons_succ]
  have hn := N3.out.timer hx hs
  clear hs hx
  obtain ⟨tb, hb⟩ : ∃ b, Y3.heap.size = b := ⟨_, rfl⟩
  rw [hb] at hn ⊢
  clear hb
  have N4 := Lib.hid hn
  refine wpAnyH_now hHeld (fun hHeld2 => ?_)
  clear hHeld hn
  refine wpAnyH_ready (rs := [7]) (by kernel_rfl) (by simp) ?_
  refine AllReadyH.cons rfl (fun K hK => ?_) AllReadyH.nil
  go_simp
  go_at_call 22
  refine (wnew_box _).mono ?_
  rintro e Y5 ⟨rfl, hs, hx⟩
  refine hK.out _ _ hx (fun hHeld => ?_)
  clear hK K
  try simp only [Act.put, List.setIfInBounds_toArray, List.set_cons_zero, List.set_cons_succ]
  have hn := N4.out.wait hx hs
  clear hs hx
  obtain ⟨wb, hb⟩ : ∃ b, Y4.heap.size = b := ⟨_, rfl⟩
  rw [hb] at hn ⊢
  clear hb
  have N5 := Lib.hid hn
  refine wpAnyH_now hHeld (fun hHeld2 => ?_)
  clear hHeld hn
  refine wpAnyH_take (i := 8) (v := ?_) rfl (by kernel_rfl) (by kernel_rfl) (by kernel_rfl) (fun _ _ _ h => h) (Or.inl ⟨by rfl, ?_⟩) (by assumption) ?_
  rotate_left
  · intro w hSw; (try dsimp only at hSw); go_simp; try with_reducible rfl
  try simp only [Act.put, List.setIfInBounds_toArray, List.set_cons_zero, List.set_cons_succ]
  refine wpAnyH_ready (rs := [9]) (by kernel_rfl) (by simp) ?_
  refine AllReadyH.cons rfl (fun K hK => ?_) AllReadyH.nil
  go_simp
  refine hK.out _ _ (Ex.made _ _) (fun hHeld => ?_)
  clear hK K
  try simp only [Act.put, List.setIfInBounds_toArray, List.set_cons_zero, List.set_cons_succ]
  refine wpAnyH_ready (rs := [10]) (by kernel_rfl) (by simp) ?_
  refine AllReadyH.cons rfl (fun K hK => ?_) AllReadyH.nil
  go_simp
  refine hK.out _ _ ?_ (fun hHeld => ?_)
  · exact Ex.made _ _
  clear hK K
  try simp only [Act.put, List.setIfInBounds_toArray, List.set_cons_zero, List.set_cons_succ]
  refine wpAnyH_done (by kernel_rfl) ?_ _
  clear hHeld hHeld2
  rotate_left
  go_simp
  go_at_call 21
  refine (T13.ts_new _).mono ?_
  rintro e Y3 ⟨rfl, hs, hx⟩
  refine hK.out _ _ hx (fun hHeld => ?_)
  clear hK K
  try simp only [Act.put, List.setIfInBounds_toArray, List.set_cons_zero, List.set_cons_succ]
  have hn := N2.out.timer hx hs
  clear hs hx
  obtain ⟨tb, hb⟩ : ∃ b, Y2.heap.size = b := ⟨_, rfl⟩
  rw [hb] at hn ⊢
  clear hb
  have N3 := Lib.hid hn
  refine wpAnyH_now hHeld (fun hHeld2 => ?_)
  clear hHeld hn
  refine wpAnyH_ready (rs := [4, 7]) (by kernel_rfl) (by simp) ?_
  refine AllReadyH.cons rfl (fun K hK => ?_) (AllReadyH.cons rfl (fun K hK => ?_) AllReadyH.nil)
  have hms := make_ints Y3 gn (by omega)
  go_simp
  refine hK.out _ _ (Ex.made _ _) (fun hHeld => ?_)
  clear hK K hms
  try simp only [Act.put, List.setIfInBounds_toArray, List.set_cons_zero, List.set_cons_succ]
  have hn := N3.out.globs (Ex.made _ _) (Box.fresh _ _ _)
  obtain ⟨Y4, hY⟩ : ∃ Y, Y = Y3.alloc (.cells (S12.ints (List.replicate gn 0)).toArray 3) := ⟨_, rfl⟩
  rw [← hY] at hn hHeld ⊢
  clear hY
  obtain ⟨gb, hb⟩ : ∃ b, Y3.heap.size = b := ⟨_, rfl⟩
  rw [hb] at hn ⊢
  clear hb
  have N4 := Lib.hid hn
  refine wpAnyH_now hHeld (fun hHeld2 => ?_)
  clear hHeld hn
  refine wpAnyH_ready (rs := [7]) (by kernel_rfl) (by simp) ?_
  refine AllReadyH.cons rfl (fun K hK => ?_) AllReadyH.nil
  go_simp
  go_at_call 22
  refine (wnew_box _).mono ?_
  rintro e Y5 ⟨rfl, hs, hx⟩
  refine hK.out _ _ hx (fun hHeld => ?_)
  clear hK K
  try simp only [Act.put, List.setIfInBounds_toArray, List.set_cons_zero, List.set_cons_succ]
  have hn := N4.out.wait hx hs
  clear hs hx
  obtain ⟨wb, hb⟩ : ∃ b, Y4.heap.size = b := ⟨_, rfl⟩
  rw [hb] at hn ⊢
  clear hb
  have N5 := Lib.hid hn
  refine wpAnyH_now hHeld (fun hHeld2 => ?_)
  clear hHeld hn
  refine wpAnyH_take (i := 8) (v := ?_) rfl (by kernel_rfl) (by kernel_rfl) (by kernel_rfl) (fun _ _ _ h => h) (Or.inl ⟨by rfl, ?_⟩) (by assumption) ?_
  rotate_left
  · intro w hSw; (try dsimp only at hSw); go_simp; try with_reducible rfl
  try simp only [Act.put, List.setIfInBounds_toArray, List.set_cons_zero, List.set_cons_succ]
  refine wpAnyH_ready (rs := [9]) (by kernel_rfl) (by simp) ?_
  refine AllReadyH.cons rfl (fun K hK => ?_) AllReadyH.nil
  go_simp
  refine hK.out _ _ (Ex.made _ _) (fun hHeld => ?_)
  clear hK K
  try simp only [Act.put, List.setIfInBounds_toArray, List.set_cons_zero, List.set_cons_succ]
  refine wpAnyH_ready (rs := [10]) (by kernel_rfl) (by simp) ?_
  refine AllReadyH.cons rfl (fun K hK => ?_) AllReadyH.nil
  go_simp
  refine hK.out _ _ ?_ (fun hHeld => ?_)
  · exact Ex.made _ _
  clear hK K
  try simp only [Act.put, List.setIfInBounds_toArray, List.set_cons_zero, List.set_cons_succ]
  refine wpAnyH_done (by kernel_rfl) ?_ _
  clear hHeld hHeld2
  rotate_left
  go_simp
  go_at_call 22
  refine (wnew_box _).mono ?_
  rintro e Y4 ⟨rfl, hs, hx⟩
  refine hK.out _ _ hx (fun hHeld => ?_)
  clear hK K
  try simp only [Act.put, List.setIfInBounds_toArray, List.set_cons_zero, List.set_cons_succ]
  have hn := N3.out.wait hx hs
  clear hs hx
  obtain ⟨wb, hb⟩ : ∃ b, Y3.heap.size = b := ⟨_, rfl⟩
  rw [hb] at hn ⊢
  clear hb
  have N4 := Lib.hid hn
  refine wpAnyH_now hHeld (fun hHeld2 => ?_)
  clear hHeld hn
  refine wpAnyH_ready (rs := [4]) (by kernel_rfl) (by simp) ?_
  refine AllReadyH.cons rfl (fun K hK => ?_) AllReadyH.nil
  have hms := make_ints Y4 gn (by omega)
  go_simp
  refine hK.out _ _ (Ex.made _ _) (fun hHeld => ?_)
  clear hK K hms
  try simp only [Act.put, List.setIfInBounds_toArray, List.set_cons_zero, List.set_cons_succ]
  have hn := N4.out.globs (Ex.made _ _) (Box.fresh _ _ _)
  obtain ⟨Y5, hY⟩ : ∃ Y, Y = Y4.alloc (.cells (S12.ints (List.replicate gn 0)).toArray 3) := ⟨_, rfl⟩
  rw [← hY] at hn hHeld ⊢
  clear hY
  obtain ⟨gb, hb⟩ : ∃ b, Y4.heap.size = b := ⟨_, rfl⟩
  rw [hb] at hn ⊢
  clear hb
  have N5 := Lib.hid hn
  refine wpAnyH_now hHeld (fun hHeld2 => ?_)
  clear hHeld hn
  refine wpAnyH_take (i := 8) (v := ?_) rfl (by kernel_rfl) (by kernel_rfl) (by kernel_rfl) (fun _ _ _ h => h) (Or.inl ⟨by rfl, ?_⟩) (by assumption) ?_
  rotate_left
  · intro w hSw; (try dsimp only at hSw); go_simp; try with_reducible rfl
  try simp only [Act.put, List.setIfInBounds_toArray, List.set_cons_zero, List.set_cons_succ]
  refine wpAnyH_ready (rs := [9]) (by kernel_rfl) (by simp) ?_
  refine AllReadyH.cons rfl (fun K hK => ?_) AllReadyH.nil
  go_simp
  refine hK.out _ _ (Ex.made _ _) (fun hHeld => ?_)
  clear hK K
  try simp only [Act.put, List.setIfInBounds_toArray, List.set_cons_zero, List.set_cons_succ]
  refine wpAnyH_ready (rs := [10]) (by kernel_rfl) (by simp) ?_
  refine AllReadyH.cons rfl (fun K hK => ?_) AllReadyH.nil
  go_simp
  refine hK.out _ _ ?_ (fun hHeld => ?_)
  · exact Ex.made _ _
  clear hK K
  try simp only [Act.put, List.setIfInBounds_toArray, List.set_cons_zero, List.set_cons_succ]
  refine wpAnyH_done (by kernel_rfl) ?_ _
  clear hHeld hHeld2
  rotate_left
  have hms := make_ints Y1 gn (by omega)
  go_simp
  refine hK.out _ _ (Ex.made _ _) (fun hHeld => ?_)
  clear hK K hms
  try simp only [Act.put, List.setIfInBounds_toArray, List.set_cons_zero, List.set_cons_succ]
  have hn := N1.out.globs (Ex.made _ _) (Box.fresh _ _ _)
  obtain ⟨Y2, hY⟩ : ∃ Y, Y = Y1.alloc (.cells (S12.ints (List.replicate gn 0)).toArray 3) := ⟨_, rfl⟩
  rw [← hY] at hn hHeld ⊢
  clear hY
  obtain ⟨gb, hb⟩ : ∃ b, Y1.heap.size = b := ⟨_, rfl⟩
  rw [hb] at hn ⊢
  clear hb
  have N2 := Lib.hid hn
  refine wpAnyH_now hHeld (fun hHeld2 => ?_)
  clear hHeld hn
  refine wpAnyH_ready (rs := [1]) (by kernel_rfl) (by simp) ?_
  refine AllReadyH.cons rfl (fun K hK => ?_) AllReadyH.nil
  go_simp
  go_at_call 20
  refine (S12.new_any _).mono ?_
  rintro e Y3 ⟨rfl, hs, hx, -⟩
  refine hK.out _ _ hx (fun hHeld => ?_)
  clear hK K
  try simp only [Act.put, List.setIfInBounds_toArray, List.set_cons_zero, List.set_cons_succ]
  have hn := N2.out.state hx hs
  clear hs hx
  obtain ⟨sb, hb⟩ : ∃ b, Y2.heap.size = b := ⟨_, rfl⟩
  rw [hb] at hn ⊢
  clear hb
  have N3 := Lib.hid hn
  refine wpAnyH_now hHeld (fun hHeld2 => ?_)
  clear hHeld hn
  refine wpAnyH_ready (rs := [6]) (by kernel_rfl) (by simp) ?_
  refine AllReadyH.cons rfl (fun K hK => ?_) AllReadyH.nil
  go_simp
  go_at_call 21
  refine (T13.ts_new _).mono ?_
  rintro e Y4 ⟨rfl, hs, hx⟩
  refine hK.out _ _ hx (fun hHeld => ?_)
  clear hK K
  try simp only [Act.put, List.setIfInBounds_toArray, List.set_cons_zero, List.set_cons_succ]
  have hn := N3.out.timer hx hs
  clear hs hx
  obtain ⟨tb, hb⟩ : ∃ b, Y3.heap.size = b := ⟨_, rfl⟩
  rw [hb] at hn ⊢
  clear hb
  have N4 := Lib.hid hn
  refine wpAnyH_now hHeld (fun hHeld2 => ?_)
  clear hHeld hn
  refine wpAnyH_ready (rs := [7]) (by kernel_rfl) (by simp) ?_
  refine AllReadyH.cons rfl (fun K hK => ?_) AllReadyH.nil
  go_simp
  go_at_call 22
  refine (wnew_box _).mono ?_
  rintro e Y5 ⟨rfl, hs, hx⟩
  refine hK.out _ _ hx (fun hHeld => ?_)
  clear hK K
  try simp only [Act.put, List.setIfInBounds_toArray, List.set_cons_zero, List.set_cons_succ]
  have hn := N4.out.wait hx hs
  clear hs hx
  obtain ⟨wb, hb⟩ : ∃ b, Y4.heap.size = b := ⟨_, rfl⟩
  rw [hb] at hn ⊢
  clear hb
  have N5 := Lib.hid hn
  refine wpAnyH_now hHeld (fun hHeld2 => ?_)
  clear hHeld hn
  refine wpAnyH_take (i := 8) (v := ?_) rfl (by kernel_rfl) (by kernel_rfl) (by kernel_rfl) (fun _ _ _ h => h) (Or.inl ⟨by rfl, ?_⟩) (by assumption) ?_
  rotate_left
  · intro w hSw; (try dsimp only at hSw); go_simp; try with_reducible rfl
  try simp only [Act.put, List.setIfInBounds_toArray, List.set_cons_zero, List.set_cons_succ]
  refine wpAnyH_ready (rs := [9]) (by kernel_rfl) (by simp) ?_
  refine AllReadyH.cons rfl (fun K hK => ?_) AllReadyH.nil
  go_simp
  refine hK.out _ _ (Ex.made _ _) (fun hHeld => ?_)
  clear hK K
  try simp only [Act.put, List.setIfInBounds_toArray, List.set_cons_zero, List.set_cons_succ]
  refine wpAnyH_ready (rs := [10]) (by kernel_rfl) (by simp) ?_
  refine AllReadyH.cons rfl (fun K hK => ?_) AllReadyH.nil
  go_simp
  refine hK.out _ _ ?_ (fun hHeld => ?_)
  · exact Ex.made _ _
  clear hK K
  try simp only [Act.put, List.setIfInBounds_toArray, List.set_cons_zero, List.set_cons_succ]
  refine wpAnyH_done (by kernel_rfl) ?_ _
  clear hHeld hHeld2
  rotate_left
  all_goals
    go_wp2_with fail
    refine (KS.out U XU.out _ _ _ _ _ _ N5.out).mono ?_
    rintro e w' ⟨rfl, hn⟩
    have HN := Lib.hid hn
    clear hn
    go_wp2_with fail
    go_ret2
    exact ⟨_, rfl, HN.out⟩

set_option maxHeartbeats 3200000 in
theorem new_bad {w : World} {g : Int} {fv : Value} {F : Fns} (hF : C15.RdP w fv F) (hm : C15.mayI g F ≠ 0) :
    Calls Tryz.prog 7 #[.agg #[.int .i64 g, fv]] w fun e w' => e = .returned (.tuple #[.pointer none, .int .i64 1]) ∧ Ex w w' := by
  have KM := Lib.hid (fun (W : World) (x : Ex w W) => C15.may_any (g := g) (hF.ex x))
  obtain ⟨fa, cap, hv⟩ := hF.val
  obtain ⟨r, hr⟩ : ∃ r, C15.mayI g F = r := ⟨_, rfl⟩
  rw [hr] at KM hm
  have d : (r != 0) = true := by simp [hm]
  obtain ⟨fl, hfl⟩ : ∃ k, F.length = k := ⟨_, rfl⟩
  rw [hfl] at hv
  subst hv
  clear hF hm hr hfl
  go_enter Tryz.func7, Tryz.ntmps7
  go_wp2_with fail
  have hx0 := Ex.made w (.cells #[.int .i64 g, .slice fa fl cap] 24)
  refine (KM.out _ hx0).mono ?_
  rintro e U ⟨rfl, hx⟩
  have XU := Lib.hid (hx0.trans hx)
  clear hx hx0 KM
  go_wp2_with fail
  go_ret2
  exact ⟨rfl, XU.out⟩

end Go.Proofs.YtmlobpapjfkbmaaGreat

