/- What this text proves: contracts of package table's New, Open, Seal, Release, Rows, Next. Conditions: each theorem's own. -/
import Derived.Test.YtbffcogpicaloaaOwn
import Derived.Test.YtbffcogpicaloaaChecked
import Derived.RegionTactic
import Derived.ChangeAlike
import Derived.StillTailTactics
import Derived.Outline
import Derived.Lib.Hide
import Derived.Deep.LoopGhost
import Derived.Lib.BufferMore
import Derived.Test.YtbffcogpicaloaaHeld
import Derived.Deep.QuietTactic
import Derived.BigQuiet
import Derived.BigRegion
namespace Go.Proofs.Ytbffcogpicaloaa
open Go Go.RowKit
open Go.Proofs

/-! ### the plain table -/
structure Seg where
  kind : Int
  seq : Int
  wear : Int
structure Tab where
  rows : List Seg
  next : Int
  opn : Int
def Seg.cells (s : Seg) : List Value := [.int .u8 s.kind, .int .u64 s.seq, .int .u32 s.wear]
theorem Seg.len (s : Seg) : s.cells.length = 3 := rfl
def Seg.zero : Seg := ⟨0, 0, 0⟩
/-- the free one that was erased least, of the first k. -/
def pickN (rows : List Seg) : Nat → Int
  | 0 => -1
  | k + 1 => if (rows.getD k .zero).kind = 0 ∧ (pickN rows k < 0 ∨ (rows.getD k .zero).wear < (rows.getD (pickN rows k).toNat .zero).wear) then (k : Int) else pickN rows k
def opened (t : Tab) (s : Seg) : Seg := ⟨1, t.next, if s.wear < 4294967295 then s.wear + 1 else s.wear⟩
def openT (t : Tab) : (Int × Int × Int) × Tab :=
  if 0 ≤ t.opn then ((0, 0, 3), t)
  else if pickN t.rows t.rows.length < 0 then ((0, 0, 5), t)
  else ((pickN t.rows t.rows.length, t.next, 0), ⟨t.rows.set (pickN t.rows t.rows.length).toNat (opened t (t.rows.getD (pickN t.rows t.rows.length).toNat .zero)), t.next + 1, pickN t.rows t.rows.length⟩)
def sealT (t : Tab) : Int × Tab :=
  if t.opn < 0 then (2, t) else (0, ⟨t.rows.set t.opn.toNat { t.rows.getD t.opn.toNat .zero with kind := 2 }, t.next, -1⟩)
def releaseT (t : Tab) (seg : Int) : Int × Tab :=
  if seg < 0 ∨ (t.rows.length : Int) ≤ seg then (1, t)
  else if (t.rows.getD seg.toNat .zero).kind ≠ 2 then (2, t)
  else (0, ⟨t.rows.set seg.toNat { t.rows.getD seg.toNat .zero with kind := 0, seq := 0 }, t.next, t.opn⟩)
def newT (n : Nat) : Tab := ⟨List.replicate n .zero, 1, -1⟩

theorem pickN_at (rows : List Seg) : ∀ k, pickN rows k = -1 ∨ (0 ≤ pickN rows k ∧ pickN rows k < k ∧ (rows.getD (pickN rows k).toNat .zero).kind = 0)
  | 0 => .inl rfl
  | k + 1 => by
    have ih := pickN_at rows k
    unfold pickN
    split
    · rename_i h
      refine .inr ⟨by omega, by omega, by simpa using h.1⟩
    · rcases ih with ih | ih
      · exact .inl ih
      · exact .inr ⟨ih.1, by omega, ih.2.2⟩
/-- numbers within their types, and an open one that is there. -/
structure Tab.Good (t : Tab) : Prop where
  opn : t.opn = -1 ∨ (0 ≤ t.opn ∧ t.opn < t.rows.length)
  next : 0 ≤ t.next ∧ t.next < 9223372036854775808
  seg : ∀ s ∈ t.rows, (0 ≤ s.kind ∧ s.kind < 256) ∧ (0 ≤ s.seq ∧ s.seq < 18446744073709551616) ∧ (0 ≤ s.wear ∧ s.wear < 4294967296)
  len : t.rows.length ≤ 100000
theorem getD_mem {rows : List Seg} {k : Nat} (h : k < rows.length) : rows.getD k .zero ∈ rows := by
  rw [List.getD_eq_getElem?_getD, List.getElem?_eq_getElem h]
  exact List.getElem_mem _
theorem getD_at {rows : List Seg} {k : Nat} (h : k < rows.length) : rows.getD k .zero = rows[k] := by
  rw [List.getD_eq_getElem?_getD, List.getElem?_eq_getElem h]
  rfl
theorem mem_set_cases {rows : List Seg} {k : Nat} {s x : Seg} (h : x ∈ rows.set k s) : x = s ∨ x ∈ rows := by
  rcases List.mem_or_eq_of_mem_set h with h | h
  · exact .inr h
  · exact .inl h

/-! ### where it lies -/
/-- Block b is the table t, its rows behind v; it lies in the blocks of F. -/
structure TabV (w : World) (b : Nat) (v : Value) (t : Tab) (F : Nat → Prop) : Prop where
  here : w.heap[b]? = some (.cells #[v, .int .u64 t.next, .int .i64 t.opn] 61 (0, 0))
  row : w.ownsRow 0 36 3 v t.rows.length (t.rows.flatMap Seg.cells)
  own : ∀ k, v.ownBlock = some k → F k ∧ k ≠ b
  self : F b
  lt : ∀ k, F k → k < w.heap.size
theorem TabV.upd {S : Nat → Prop} {w w' : World} {b : Nat} {v : Value} {t : Tab} {F : Nat → Prop} (h : TabV w b v t F) (hu : Upd S w w') (hs : ∀ k, F k → ¬ S k) : TabV w' b v t F :=
  ⟨hu.at h.here (hs b h.self), ownsRow_upd h.row hu (fun k hk => hs k (h.own k hk).1), h.own, h.self, fun k hk => Nat.lt_of_lt_of_le (h.lt k hk) hu.size⟩
theorem TabV.grow {w : World} {b : Nat} {v : Value} {t : Tab} {F G : Nat → Prop} (h : TabV w b v t F) (hg : ∀ k, F k → G k) (hl : ∀ k, G k → k < w.heap.size) : TabV w b v t G :=
  ⟨h.here, h.row, fun k hk => ⟨hg k (h.own k hk).1, (h.own k hk).2⟩, hg b h.self, hl⟩
/-- a field of a segment is written. -/
theorem TabV.setSeg {w : World} {b g n c : Nat} {t : Tab} {F : Nat → Prop} (h : TabV w b (.slice (some ⟨g, 0, none⟩) n c) t F) {k j : Nat} (hk : k < t.rows.length) (hj : j < 3) (u : Value) (s : Seg) (hs : s.cells = (t.rows[k]).cells.set j u) :
    TabV (w.setCell ⟨g, k * 3 + j, none⟩ u) b (.slice (some ⟨g, 0, none⟩) n c) { t with rows := t.rows.set k s } F := by
  have hgb := (h.own g rfl).2
  have hn : n = t.rows.length := by
    rcases h.row.2 with ⟨h0, _⟩ | ⟨g', cap, cur, hv, _⟩
    · cases h0
    · cases hv; rfl
  subst hn
  refine ⟨(at_setCell_other _ _ (Ne.symm hgb)).trans h.here, ?_, h.own, h.self, fun i hi => by simpa using h.lt i hi⟩
  have := ownsRow_set h.row (k * 3 + j) u
  rw [flatMap_set Seg.cells 3 Seg.len t.rows k j hk hj u s hs] at this
  simpa using this
theorem TabV.setNext {w : World} {b : Nat} {v : Value} {t : Tab} {F : Nat → Prop} (h : TabV w b v t F) (x : Int) : TabV (w.setCell ⟨b, 1, none⟩ (.int .u64 x)) b v { t with next := x } F :=
  ⟨at_setCell_same h.here 1 _, ownsRow_upd h.row ((Upd.refl (fun k => k = b) w).setCell (fun _ => rfl) _) (fun k hk e => (h.own k hk).2 e), h.own, h.self, fun i hi => by simpa using h.lt i hi⟩
theorem TabV.setOpn {w : World} {b : Nat} {v : Value} {t : Tab} {F : Nat → Prop} (h : TabV w b v t F) (x : Int) : TabV (w.setCell ⟨b, 2, none⟩ (.int .i64 x)) b v { t with opn := x } F :=
  ⟨at_setCell_same h.here 2 _, ownsRow_upd h.row ((Upd.refl (fun k => k = b) w).setCell (fun _ => rfl) _) (fun k hk e => (h.own k hk).2 e), h.own, h.self, fun i hi => by simpa using h.lt i hi⟩
theorem TabV.drew {w : World} {b : Nat} {v : Value} {t : Tab} {F : Nat → Prop} (h : TabV w b v t F) : TabV w.drew b v t F := ⟨h.here, h.row, h.own, h.self, h.lt⟩
theorem sizeSeg (w : World) : (sizeOf 36).run Try.prog w = .ok 3 w := by kernel_rfl
theorem Seg.at_ {rows : List Seg} {k j : Nat} (h : k < rows.length) (hj : j < 3) : (rows.flatMap Seg.cells)[k * 3 + j]? = ((rows.getD k .zero).cells)[j]? := by
  rw [flatMap_get Seg.cells 3 Seg.len rows k j h hj, getD_at h]

/-! ### Seal -/
set_option maxHeartbeats 1000000 in
theorem seal_calls (w : World) (b : Nat) (v : Value) (t : Tab) (F : Nat → Prop) (h : TabV w b v t F) (hg : t.Good) :
    Calls Try.prog 12 #[.pointer (some ⟨b, 0, none⟩)] w fun e w' => e = .returned (.int .i64 (sealT t).1) ∧ TabV w' b v (sealT t).2 F ∧ Upd F w w' := by
  obtain ⟨rows, next, opn⟩ := t
  have c2 : w.cell? ⟨b, 2, none⟩ = some (.int .i64 opn) := cell_at h.here 2
  have c0 : w.cell? ⟨b, 0, none⟩ = some v := cell_at h.here 0
  by_cases ho : opn < 0
  · have HH := Lib.hid h; clear h
    go_enter Try.func12, Try.ntmps12
    go_wp2_with fail
    go_ret
    have e : sealT ⟨rows, next, opn⟩ = (2, ⟨rows, next, opn⟩) := by simp [sealT, ho]
    rw [e]
    exact ⟨rfl, HH.out, Upd.refl _ _⟩
  · obtain ⟨k, rfl⟩ : ∃ k : Nat, opn = k := ⟨opn.toNat, by omega⟩
    have hk : k < rows.length := by have := hg.opn; simp at this; omega
    obtain ⟨g, c, hv, _⟩ := owns_pos h.row (by simpa using Nat.lt_of_le_of_lt (Nat.zero_le k) hk)
    subst hv
    have HH := Lib.hid h; clear h
    have HX := Lib.hid hk
    have f0 := owns_free HH.out.row (k * 3 + 0)
    have f2 := free_at HH.out.here 2
    have hcell : ∃ u, w.cell? ⟨g, k * 3 + 0, none⟩ = some u := ⟨_, owns_cell HH.out.row (Seg.at_ HX.out (by omega))⟩
    obtain ⟨u0, hu0⟩ := hcell
    simp only [Nat.add_zero] at hu0 f0
    have hgb : g ≠ b := (HH.out.own g rfl).2
    have hi := fun w => run_index_own (P := Try.prog) (c := c) (g := g) Try.underlying33 sizeSeg HX.out w
    go_enter Try.func12, Try.ntmps12
    go_wp2_with fail
    go_region
    go_wp2_with fail
    go_ret
    have e : sealT ⟨rows, next, (k : Int)⟩ = (0, ⟨rows.set k { rows.getD k .zero with kind := 2 }, next, -1⟩) := by simp [sealT]
    rw [e]
    have h1 := HH.out.drew.setSeg (k := k) (j := 0) HX.out (by omega) (.int .u8 2) { rows.getD k .zero with kind := 2 } (by rw [← getD_at HX.out]; rfl)
    refine ⟨rfl, h1.setOpn (-1), ((Upd.refl F w).drew.setCell (fun _ => (HH.out.own g rfl).1) _).setCell (fun _ => HH.out.self) _⟩

/-! ### Release -/
set_option maxHeartbeats 1000000 in
theorem release_calls (w : World) (b : Nat) (v : Value) (t : Tab) (F : Nat → Prop) (h : TabV w b v t F) (seg : Int) :
    Calls Try.prog 13 #[.pointer (some ⟨b, 0, none⟩), .int .i64 seg] w fun e w' => e = .returned (.int .i64 (releaseT t seg).1) ∧ TabV w' b v (releaseT t seg).2 F ∧ Upd F w w' := by
  obtain ⟨rows, next, opn⟩ := t
  obtain ⟨va, vc, hv⟩ := (owns_reads h.row).len
  simp only at hv
  subst hv
  have c0 : w.cell? ⟨b, 0, none⟩ = some (.slice va rows.length vc) := cell_at h.here 0
  by_cases h0 : seg < 0
  · have HH := Lib.hid h; clear h
    go_enter Try.func13, Try.ntmps13
    go_wp2_with fail
    go_ret
    have e : releaseT ⟨rows, next, opn⟩ seg = (1, ⟨rows, next, opn⟩) := by simp [releaseT, h0]
    rw [e]
    exact ⟨rfl, HH.out, Upd.refl _ _⟩
  · by_cases h1 : (rows.length : Int) ≤ seg
    · have HH := Lib.hid h; clear h
      go_enter Try.func13, Try.ntmps13
      go_wp2_with fail
      go_ret
      have e : releaseT ⟨rows, next, opn⟩ seg = (1, ⟨rows, next, opn⟩) := by simp [releaseT, h1]
      rw [e]
      exact ⟨rfl, HH.out, Upd.refl _ _⟩
    · obtain ⟨k, rfl⟩ : ∃ k : Nat, seg = k := ⟨seg.toNat, by omega⟩
      have hk : k < rows.length := by omega
      obtain ⟨g, c, hv, _⟩ := owns_pos h.row (by simpa using Nat.lt_of_le_of_lt (Nat.zero_le k) hk)
      cases hv
      have HH := Lib.hid h; clear h
      have HX := Lib.hid hk
      have f0 := owns_free HH.out.row (k * 3 + 0)
      have f1 := owns_free HH.out.row (k * 3 + 1)
      obtain ⟨kd, hkd⟩ : ∃ kd, kd = (rows.getD k .zero).kind := ⟨_, rfl⟩
      have hu0 : w.cell? ⟨g, k * 3 + 0, none⟩ = some (.int .u8 kd) := by rw [hkd]; exact owns_cell HH.out.row (Seg.at_ HX.out (by omega))
      have hu1 : w.cell? ⟨g, k * 3 + 1, none⟩ = some (.int .u64 (rows.getD k .zero).seq) := owns_cell HH.out.row (Seg.at_ HX.out (by omega))
      have HKD := Lib.hid hkd; clear hkd
      simp only [Nat.add_zero] at hu0 f0
      have hgb : g ≠ b := (HH.out.own g rfl).2
      have hi := fun w => run_index_own (P := Try.prog) (c := vc) (g := g) Try.underlying33 sizeSeg HX.out w
      have hd0 : decide ((k : Int) < 0) = false := by simp
      have hd1 : decide ((rows.length : Int) ≤ (k : Int)) = false := by simpa using hk
      by_cases hk2 : kd = 2
      · go_enter Try.func13, Try.ntmps13
        go_wp2_with fail
        go_region
        go_wp2_with fail
        go_ret
        have e : releaseT ⟨rows, next, opn⟩ (k : Int) = (0, ⟨rows.set k { rows.getD k .zero with kind := 0, seq := 0 }, next, opn⟩) := by
          have : ¬ ((k : Int) < 0 ∨ (rows.length : Int) ≤ (k : Int)) := by omega
          simp only [releaseT, if_neg this, Int.toNat_natCast]
          rw [if_neg (by rw [← HKD.out, hk2]; decide)]
        rw [e]
        have g1 := HH.out.drew.setSeg (k := k) (j := 0) HX.out (by omega) (.int .u8 0) { rows.getD k .zero with kind := 0 } (by rw [← getD_at HX.out]; rfl)
        have g2 := g1.setSeg (k := k) (j := 1) (by simpa using HX.out) (by omega) (.int .u64 0) { rows.getD k .zero with kind := 0, seq := 0 } (by simp [Seg.cells])
        rw [List.set_set] at g2
        exact ⟨rfl, g2, (((Upd.refl F w).drew.setCell (fun _ => (HH.out.own g rfl).1) _).setCell (fun _ => (HH.out.own g rfl).1) _)⟩
      · go_enter Try.func13, Try.ntmps13
        go_wp2_with fail
        go_ret
        have e : releaseT ⟨rows, next, opn⟩ (k : Int) = (2, ⟨rows, next, opn⟩) := by
          have : ¬ ((k : Int) < 0 ∨ (rows.length : Int) ≤ (k : Int)) := by omega
          simp only [releaseT, if_neg this, Int.toNat_natCast]
          rw [if_pos (by rw [← HKD.out]; exact hk2)]
        rw [e]
        exact ⟨rfl, HH.out, Upd.refl _ _⟩

/-! ### Open -/
def OpenRel (w : World) (rows : List Seg) (n : Nat) (best i : Value) (wr : World) : Prop := ∃ k : Nat, k + n = rows.length ∧ i = .int .i64 k ∧ best = .int .i64 (pickN rows k) ∧ Upd (fun _ => False) w wr

set_option maxHeartbeats 2000000 in
theorem open_calls (w : World) (b : Nat) (v : Value) (t : Tab) (F : Nat → Prop) (h : TabV w b v t F) (hg : t.Good) :
    Calls Try.prog 11 #[.pointer (some ⟨b, 0, none⟩)] w fun e w' => e = .returned (.tuple #[.int .i64 (openT t).1.1, .int .u64 (openT t).1.2.1, .int .i64 (openT t).1.2.2]) ∧ TabV w' b v (openT t).2 F ∧ Upd F w w' := by
  obtain ⟨rows, next, opn⟩ := t
  obtain ⟨va, vc, hv⟩ := (owns_reads h.row).len
  simp only at hv
  subst hv
  have c0 : w.cell? ⟨b, 0, none⟩ = some (.slice va rows.length vc) := cell_at h.here 0
  have c1 : w.cell? ⟨b, 1, none⟩ = some (.int .u64 next) := cell_at h.here 1
  have c2 : w.cell? ⟨b, 2, none⟩ = some (.int .i64 opn) := cell_at h.here 2
  by_cases ho : 0 ≤ opn
  · have HH := Lib.hid h; clear h
    go_enter Try.func11, Try.ntmps11
    go_wp2_with fail
    go_ret3
    have e : openT ⟨rows, next, opn⟩ = ((0, 0, 3), ⟨rows, next, opn⟩) := by simp [openT, ho]
    rw [e]
    exact ⟨rfl, HH.out, Upd.refl _ _⟩
  · have HH := Lib.hid h; clear h
    have HG := Lib.hid hg; clear hg
    have hlen : rows.length ≤ 100000 := HG.out.len
    go_enter Try.func11, Try.ntmps11
    go_wp2_with fail
    go_loopg [5, 23] rows.length (fun n best i wr => OpenRel w rows n best i wr)
    case atStart => exact ⟨0, by simp, rfl, rfl, Upd.refl _ _⟩
    case round =>
      obtain ⟨k, hk, rfl, rfl, hu⟩ := hrel
      obtain ⟨bs, hbs⟩ : ∃ bs, bs = pickN rows k := ⟨_, rfl⟩
      rw [← hbs]
      have HBS := Lib.hid hbs; clear hbs
      by_cases hlt : k < rows.length
      · obtain ⟨g, c, hv, _⟩ := owns_pos HH.out.row (by simpa using Nat.lt_of_le_of_lt (Nat.zero_le k) hlt)
        cases hv
        have HX := Lib.hid hlt
        have HU := Lib.hid hu; clear hu
        have hrow := ownsRow_upd HH.out.row HU.out (fun _ _ f => f)
        obtain ⟨kd, hkd⟩ : ∃ x, x = (rows.getD k .zero).kind := ⟨_, rfl⟩
        obtain ⟨wk, hwk⟩ : ∃ x, x = (rows.getD k .zero).wear := ⟨_, rfl⟩
        have d0 : wr.cell? ⟨g, k * 3 + 0, none⟩ = some (.int .u8 kd) := by rw [hkd]; exact owns_cell hrow (Seg.at_ HX.out (by omega))
        have d1 : wr.cell? ⟨g, k * 3 + 1, none⟩ = some (.int .u64 (rows.getD k .zero).seq) := owns_cell hrow (Seg.at_ HX.out (by omega))
        have d2 : wr.cell? ⟨g, k * 3 + 2, none⟩ = some (.int .u32 wk) := by rw [hwk]; exact owns_cell hrow (Seg.at_ HX.out (by omega))
        simp only [Nat.add_zero] at d0
        have HKD := Lib.hid hkd; clear hkd
        have HWK := Lib.hid hwk; clear hwk
        have HR := Lib.hid hrow; clear hrow
        have e0 : wr.cell? ⟨b, 0, none⟩ = some (.slice (some ⟨g, 0, none⟩) rows.length vc) := HU.out.cell c0 (fun f => f)
        go_wp2_with (first
          | ((with_reducible change wpList _ _ _ (⟨_, Op.indexAddr _ _ _, _, _, _, _⟩ :: _) _ _); refine wpl_index_own rfl _ _ _ rfl 36 3 Try.underlying33 sizeSeg _ _ _ rfl k rfl HX.out ?_))
        refine wp_world fun W hW => ?_
        obtain ⟨cc, hcc⟩ : ∃ cc, cc = wr.heap.size := ⟨_, rfl⟩
        have m0 : W.cell? ⟨cc, 0, none⟩ = some (.int .u8 kd) := by rw [hW, hcc]; simp
        have m2 : W.cell? ⟨cc, 2, none⟩ = some (.int .u32 wk) := by rw [hW, hcc]; simp
        have n0 : W.cell? ⟨b, 0, none⟩ = some (.slice (some ⟨g, 0, none⟩) rows.length vc) := by rw [hW]; exact (World.cell?_alloc_lt _ _ _ (World.block_lt_of_cell? _ _ e0)).trans e0
        have hup : Upd (fun _ => False) w W := by rw [hW]; exact HU.out.alloc _
        have HUP := Lib.hid hup; clear hup
        rw [← hcc]
        by_cases hk0 : kd = 0
        · by_cases hb0 : bs < 0
          · clear hW hcc
            go_quiet (fail)
            go_wp2_with fail
            go_roundg (rows.length - (k + 1))
            case measure => have := HX.out; omega
            case rel => exact ⟨k + 1, by have := HX.out; omega, by go_num, by rw [pickN, if_pos ⟨by rw [← HKD.out, hk0], .inl (by rw [← HBS.out]; exact hb0)⟩], HUP.out.drewN _⟩
          · obtain ⟨j, rfl⟩ : ∃ j : Nat, bs = j := ⟨bs.toNat, by omega⟩
            have hjk : j < rows.length := by have := pickN_at rows k; rw [← HBS.out] at this; omega
            have hb1 : decide ((j : Int) < 0) = false := by simp
            have hi := fun w => run_index_own (P := Try.prog) (c := vc) (g := g) Try.underlying33 sizeSeg hjk w
            obtain ⟨wj, hwj⟩ : ∃ x, x = (rows.getD j .zero).wear := ⟨_, rfl⟩
            have nj : W.cell? ⟨g, j * 3 + 2, none⟩ = some (.int .u32 wj) := by
              have hd : wr.cell? ⟨g, j * 3 + 2, none⟩ = some (.int .u32 wj) := by rw [hwj]; exact owns_cell HR.out (Seg.at_ hjk (by omega))
              rw [hW]; exact (World.cell?_alloc_lt _ _ _ (World.block_lt_of_cell? _ _ hd)).trans hd
            clear hW hcc
            have HWJ := Lib.hid hwj; clear hwj
            by_cases hww : wk < wj
            · go_quiet (fail)
              go_wp2_with fail
              go_roundg (rows.length - (k + 1))
              case measure => have := HX.out; omega
              case rel => exact ⟨k + 1, by have := HX.out; omega, by go_num, by rw [pickN, if_pos ⟨by rw [← HKD.out, hk0], .inr (by rw [← HBS.out, Int.toNat_natCast, ← HWK.out, ← HWJ.out]; exact hww)⟩], HUP.out.drewN _⟩
            · have hww' : decide (wk < wj) = false := by simpa using hww
              go_quiet (fail)
              go_wp2_with fail
              go_roundg (rows.length - (k + 1))
              case measure => have := HX.out; omega
              case rel => exact ⟨k + 1, by have := HX.out; omega, by go_num, by rw [pickN, if_neg (by rw [← HBS.out, Int.toNat_natCast, ← HWK.out, ← HWJ.out]; omega), ← HBS.out], HUP.out.drewN _⟩
        · have hk0' : (kd == 0) = false := by simpa using hk0
          clear hW hcc
          go_quiet (fail)
          go_wp2_with fail
          go_roundg (rows.length - (k + 1))
          case measure => have := HX.out; omega
          case rel => exact ⟨k + 1, by have := HX.out; omega, by go_num, by rw [pickN, if_neg (by rw [← HKD.out]; omega), ← HBS.out], HUP.out.drewN _⟩
      · by_cases hb0 : bs < 0
        · go_wp2_with fail
          go_ret3
          have hkk : k = rows.length := by omega
          subst hkk
          have e : openT ⟨rows, next, opn⟩ = ((0, 0, 5), ⟨rows, next, opn⟩) := by simp only [openT, ← HBS.out]; rw [if_neg (by omega), if_pos hb0]
          rw [e]
          exact ⟨rfl, HH.out.upd hu (fun _ _ f => f), hu.mono (fun _ _ f => f.elim)⟩
        · obtain ⟨j, rfl⟩ : ∃ j : Nat, bs = j := ⟨bs.toNat, by omega⟩
          have hkk : k = rows.length := by omega
          subst hkk
          have hjk : j < rows.length := by have := pickN_at rows rows.length; rw [← HBS.out] at this; omega
          have hb1 : decide ((j : Int) < 0) = false := by simp
          obtain ⟨g, c, hv, _⟩ := owns_pos HH.out.row (by simpa using Nat.lt_of_le_of_lt (Nat.zero_le j) hjk)
          cases hv
          have HX := Lib.hid hjk
          have HU := Lib.hid hu; clear hu
          have htab := HH.out.upd HU.out (fun _ _ f => f)
          obtain ⟨wj, hwj⟩ : ∃ x, x = (rows.getD j .zero).wear := ⟨_, rfl⟩
          have e0 : wr.cell? ⟨b, 0, none⟩ = some (.slice (some ⟨g, 0, none⟩) rows.length vc) := HU.out.cell c0 (fun f => f)
          have e1 : wr.cell? ⟨b, 1, none⟩ = some (.int .u64 next) := HU.out.cell c1 (fun f => f)
          have e2 : wr.cell? ⟨b, 2, none⟩ = some (.int .i64 opn) := HU.out.cell c2 (fun f => f)
          have d0 : ∃ u, wr.cell? ⟨g, j * 3 + 0, none⟩ = some u := ⟨_, owns_cell htab.row (Seg.at_ HX.out (by omega))⟩
          obtain ⟨u0, d0⟩ := d0
          have d1 : wr.cell? ⟨g, j * 3 + 1, none⟩ = some (.int .u64 (rows.getD j .zero).seq) := owns_cell htab.row (Seg.at_ HX.out (by omega))
          have d2 : wr.cell? ⟨g, j * 3 + 2, none⟩ = some (.int .u32 wj) := by rw [hwj]; exact owns_cell htab.row (Seg.at_ HX.out (by omega))
          have f0 := owns_free htab.row (j * 3 + 0)
          have f1 := owns_free htab.row (j * 3 + 1)
          have f2 := owns_free htab.row (j * 3 + 2)
          have f4 := free_at htab.here 1
          have f5 := free_at htab.here 2
          simp only [Nat.add_zero] at d0 f0
          have hgb : g ≠ b := (HH.out.own g rfl).2
          have HT := Lib.hid htab; clear htab
          have hnx := HG.out.next
          simp only at hnx
          have hwj2 : 0 ≤ wj ∧ wj < 4294967296 := by rw [hwj]; exact (HG.out.seg _ (getD_mem HX.out)).2.2
          have HWJ := Lib.hid hwj; clear hwj
          by_cases hw4 : wj < 4294967295
          · go_wp2_with (first
              | ((with_reducible change wpList _ _ _ (⟨_, Op.indexAddr _ _ _, _, _, _, _⟩ :: _) _ _); refine wpl_index_own rfl _ _ _ rfl 36 3 Try.underlying33 sizeSeg _ _ _ rfl j rfl HX.out ?_))
            go_region
            go_wp2_with fail
            go_ret3
            have e : openT ⟨rows, next, opn⟩ = (((j : Int), next, 0), ⟨rows.set j (opened ⟨rows, next, opn⟩ (rows.getD j .zero)), next + 1, j⟩) := by
              simp only [openT, ← HBS.out]
              rw [if_neg (by omega), if_neg (by omega), Int.toNat_natCast]
            rw [e]
            have ew : (opened ⟨rows, next, opn⟩ (rows.getD j .zero)).wear = wj + 1 := by simp only [opened, ← HWJ.out]; rw [if_pos hw4]
            have g1 := HT.out.setSeg (k := j) (j := 0) HX.out (by omega) (.int .u8 1) { rows.getD j .zero with kind := 1 } (by rw [← getD_at HX.out]; rfl)
            have g2 := g1.setSeg (k := j) (j := 1) (by simpa using HX.out) (by omega) (.int .u64 next) { rows.getD j .zero with kind := 1, seq := next } (by simp [Seg.cells])
            rw [List.set_set] at g2
            have g3 := g2.setSeg (k := j) (j := 2) (by simpa using HX.out) (by omega) (.int .u32 (wj + 1)) (opened ⟨rows, next, opn⟩ (rows.getD j .zero)) (by rw [Seg.cells, ew]; simp [Seg.cells, opened])
            rw [List.set_set] at g3
            have g4 := (g3.setNext (next + 1)).setOpn j
            refine ⟨rfl, ?_, ?_⟩
            · exact g4.drew
            · have hS : ∀ k, k < w.heap.size → (fun _ => False) k → F k := fun _ _ f => f.elim
              have hgF := (HH.out.own g rfl).1
              have hbF := HH.out.self
              refine Upd.drew ?_
              repeat' refine Upd.setCell ?_ (fun _ => by first | exact hgF | exact hbF) _
              exact HU.out.mono hS
          · go_wp2_with (first
              | ((with_reducible change wpList _ _ _ (⟨_, Op.indexAddr _ _ _, _, _, _, _⟩ :: _) _ _); refine wpl_index_own rfl _ _ _ rfl 36 3 Try.underlying33 sizeSeg _ _ _ rfl j rfl HX.out ?_))
            go_region
            go_wp2_with fail
            go_ret3
            have e : openT ⟨rows, next, opn⟩ = (((j : Int), next, 0), ⟨rows.set j (opened ⟨rows, next, opn⟩ (rows.getD j .zero)), next + 1, j⟩) := by
              simp only [openT, ← HBS.out]
              rw [if_neg (by omega), if_neg (by omega), Int.toNat_natCast]
            rw [e]
            have ew : (opened ⟨rows, next, opn⟩ (rows.getD j .zero)).wear = wj := by simp only [opened, ← HWJ.out]; exact if_neg (by omega)
            have g1 := HT.out.setSeg (k := j) (j := 0) HX.out (by omega) (.int .u8 1) { rows.getD j .zero with kind := 1 } (by rw [← getD_at HX.out]; rfl)
            have g2 := g1.setSeg (k := j) (j := 1) (by simpa using HX.out) (by omega) (.int .u64 next) { rows.getD j .zero with kind := 1, seq := next } (by simp [Seg.cells])
            rw [List.set_set] at g2
            have hs : ({ rows.getD j .zero with kind := 1, seq := next } : Seg) = opened ⟨rows, next, opn⟩ (rows.getD j .zero) := by
              simp only [opened]; rw [if_neg (show ¬ (rows.getD j .zero).wear < 4294967295 by rw [← HWJ.out]; omega)]
            have g3 := g2
            simp only [hs] at g3
            have g4 := (g3.setNext (next + 1)).setOpn j
            refine ⟨rfl, ?_, ?_⟩
            · exact g4.drew
            · have hS : ∀ k, k < w.heap.size → (fun _ => False) k → F k := fun _ _ f => f.elim
              have hgF := (HH.out.own g rfl).1
              have hbF := HH.out.self
              refine Upd.drew ?_
              repeat' refine Upd.setCell ?_ (fun _ => by first | exact hgF | exact hbF) _
              exact HU.out.mono hS

/-! ### New, Next, Rows -/
theorem infoSeg : (Try.prog.info? 36).map (fun i => (i.zero, i.size, i.bytes)) = some (some (.agg #[.int .u8 0, .int .u64 0, .int .u32 0]), 3, 24) := by kernel_rfl
theorem madeSeg (n : Nat) : (madeCells #[.int .u8 0, .int .u64 0, .int .u32 0] (n * 3)).toList = (List.replicate n Seg.zero).flatMap Seg.cells := by
  apply List.ext_getElem?
  intro i
  have hl : ((List.replicate n Seg.zero).flatMap Seg.cells).length = n * 3 := by rw [flatMap_len Seg.cells 3 Seg.len]; simp
  by_cases hi : i < n * 3
  · have hk : i / 3 < (List.replicate n Seg.zero).length := by simp; omega
    have e := flatMap_get Seg.cells 3 Seg.len (List.replicate n Seg.zero) (i / 3) (i % 3) hk (by omega)
    rw [show i / 3 * 3 + i % 3 = i by omega] at e
    rw [e]
    have h3 : i % 3 < 3 := by omega
    simp only [madeCells, Array.toList_map, Array.toList_range, List.getElem?_map, List.getElem?_range hi, Option.map_some, List.getElem_replicate]
    generalize i % 3 = r at h3
    match r, h3 with
    | 0, _ => rfl
    | 1, _ => rfl
    | 2, _ => rfl
  · rw [List.getElem?_eq_none (by simp [madeCells]; omega), List.getElem?_eq_none (by omega)]
theorem new_calls (w : World) (n : Nat) (hn : n ≤ 256) :
    Calls Try.prog 10 #[.int .i64 n] w fun e w' => ∃ b v, e = .returned (.tuple #[.pointer (some ⟨b, 0, none⟩), .int .i64 0]) ∧ TabV w' b v (newT n) (fresh w w') ∧ Upd (fun _ => False) w w' := by
  obtain ⟨i0, hi, hz0, hz1, hz2⟩ := info_parts infoSeg
  have hn2 : ¬ (256 : Int) < n := by omega
  go_enter Try.func10, Try.ntmps10
  go_wp2_with (first
    | (refine wpList_make_full w rfl _ _ _ rfl w.heap.size 36 i0 _ 3 Try.underlying33 hi hz0 hz1 .i64 .i64 n n n rfl rfl rfl rfl (by rw [hz2]; omega) (by unfold maxLen; omega) (Nat.le_refl _) ?_; intro w1 ho1 hg1; have HO := Lib.hid ho1; have HG := Lib.hid hg1; clear ho1 hg1))
  go_ret2
  have hu1 : Upd (fun _ => False) w w1 := (Upd.refl _ w).grown HG.out (fun _ e => by cases e)
  have hro := HO.out
  rw [show (Value.agg #[.int .u8 0, .int .u64 0, .int .u32 0]).cells = #[.int .u8 0, .int .u64 0, .int .u32 0] by kernel_rfl, madeSeg n] at hro
  have hg := owns_lt hro
  have hal : Upd (fun _ => False) w1 (w1.alloc (.cells #[.slice (some ⟨w.heap.size, 0, none⟩) n n, .int .u64 1, .int .i64 (-1)] 61)) := (Upd.refl _ _).alloc _
  refine ⟨w1.heap.size, rfl, ⟨_, at_alloc_new _ _, ?_, fun k hk => ?_, ⟨hu1.size, by simp⟩, fun k hk => hk.2⟩, hu1.alloc _⟩
  · have := ownsRow_upd (ownsRow_base hro (base' := 0) (fun _ _ => Nat.zero_le _)) hal (fun _ _ f => f)
    simpa [newT] using this
  · simp only [Value.ownBlock, Option.some.injEq] at hk
    subst hk
    exact ⟨⟨Nat.le_refl _, by simp; omega⟩, by omega⟩
theorem next_calls (w : World) (b : Nat) (v : Value) (t : Tab) (F : Nat → Prop) (h : TabV w b v t F) :
    Calls Try.prog 17 #[.pointer (some ⟨b, 0, none⟩)] w fun e w' => e = .returned (.int .u64 t.next) ∧ w = w' := by
  have c1 : w.cell? ⟨b, 1, none⟩ = some (.int .u64 t.next) := cell_at h.here 1
  clear h
  go_enter Try.func17, Try.ntmps17
  go_wp2_with fail
  go_ret
  exact ⟨rfl, rfl⟩
theorem clone_calls (w : World) (v : Value) (n : Nat) (xs : List Value) (h : Reads w 3 v n xs) (h1 : ∀ u ∈ xs, u.oneCell' = true) (hn : n ≤ 100000) :
    Calls Try.prog 26 #[v] w fun e w' => ∃ v', e = .returned v' ∧ w'.ownsRow w.heap.size 36 3 v' n xs ∧ Below w.heap.size w w' := by
  obtain ⟨i0, hi, hz0, hz1, hz2⟩ := info_parts infoSeg
  obtain ⟨a, c, rfl⟩ := h.len
  cases a with
  | none =>
    obtain rfl : n = 0 := by
      rcases h.2 with ⟨_, h0⟩ | ⟨a, c, hv, _⟩
      · exact h0
      · cases hv
    obtain rfl : c = 0 := by
      rcases h.2 with ⟨hv, _⟩ | ⟨a, c, hv, _⟩
      · cases hv; rfl
      · cases hv
    obtain rfl : xs = [] := List.eq_nil_of_length_eq_zero (by simpa using h.1)
    have hnil : ∀ W, (binOp .eql 33 (.slice none 0 0) (.slice none 0 0)).run Try.prog W = .ok (.bool true) W := fun W => Lib.run_eql_slice_nil_nil W 0 0 Try.underlying33
    go_enter Try.func26, Try.ntmps26
    go_wp2_with fail
    go_ret
    exact ⟨_, rfl, World.ownsRow_nil _ _ _ _, Below.refl _ _⟩
  | some a =>
    have HM := Lib.hid (World.ownsRow_made (e := 36) (size := 3) w #[] 0 (Nat.le_refl _) (Nat.zero_le _) rfl)
    have HH : Hid (Reads (w.alloc (.cells #[] 36)) 3 (.slice (some a) n c) n xs) := Lib.hid (h.upd ((Upd.refl (fun _ => False) w).alloc _) (fun _ _ f => f))
    have H1 := Lib.hid h1
    clear h h1
    have hnil : ∀ W, (binOp .eql 33 (.slice (some a) n c) (.slice none 0 0)).run Try.prog W = .ok (.bool false) W := fun W => Lib.run_eql_slice_some_nil W a n c Try.underlying33
    go_enter Try.func26, Try.ntmps26
    go_wp2_with (first
      | ((with_reducible change wpList _ _ _ (⟨_, Op.call { callee := Callee.builtin Builtin.append, args := _, argTypes := _ }, _, _, _, _⟩ :: _) _ _); refine wpl_append rfl _ _ 33 rfl w.heap.size 36 i0 _ 3 24 Try.underlying33 hi hz0 hz1 hz2 (by kernel_rfl) (by decide) _ _ _ HM.out rfl _ _ _ HH.out rfl H1.out (by unfold maxLen; omega) (by omega) (by simp) ?_; intro v2 w1 hown1 hg1 _; have HO1 := Lib.hid hown1; have HG1 := Lib.hid hg1; clear hown1 hg1))
    go_ret
    refine ⟨_, rfl, by simpa using HO1.out, ?_⟩
    exact (((Below.refl _ w).alloc (Nat.le_refl _) _).grown HG1.out (by simp) (fun k hk => by simp [Value.ownBlock] at hk; omega))
theorem segs_one (rows : List Seg) : ∀ u ∈ rows.flatMap Seg.cells, u.oneCell' = true := by
  intro u hu
  obtain ⟨s, _, hs⟩ := List.mem_flatMap.1 hu
  simp only [Seg.cells, List.mem_cons, List.not_mem_nil, or_false] at hs
  rcases hs with rfl | rfl | rfl <;> rfl
theorem rows_calls (w : World) (b : Nat) (v : Value) (t : Tab) (F : Nat → Prop) (h : TabV w b v t F) (hg : t.rows.length ≤ 100000) :
    Calls Try.prog 14 #[.pointer (some ⟨b, 0, none⟩)] w fun e w' => ∃ v', e = .returned v' ∧ w'.ownsRow w.heap.size 36 3 v' t.rows.length (t.rows.flatMap Seg.cells) ∧ Below w.heap.size w w' := by
  have c0 : w.cell? ⟨b, 0, none⟩ = some v := cell_at h.here 0
  have hr := owns_reads h.row
  obtain ⟨va, vc, hv⟩ := hr.len
  subst hv
  have hc := Lib.hid (clone_calls w _ _ _ hr (segs_one _) hg)
  clear h hr
  go_enter Try.func14, Try.ntmps14
  go_wp2_with fail
  refine hc.out.mono ?_
  rintro e w' ⟨v', rfl, ho, hb⟩
  have HO := Lib.hid ho
  have HB := Lib.hid hb
  clear ho hb
  obtain ⟨a', c', hv'⟩ := (owns_reads HO.out).len
  subst hv'
  go_wp2_with fail
  go_ret
  exact ⟨_, rfl, HO.out, HB.out⟩
end Go.Proofs.Ytbffcogpicaloaa
