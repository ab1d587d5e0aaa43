/- What this text proves: contracts of package store's Get, Add, Ref, Unref, Move, New. Conditions: each theorem's own. -/
import Derived.Test.YtpjdfnilhhknkaaStoreV
import Derived.Test.YtpjdfnilhhknkaaAgg
import Derived.RegionTactic
import Derived.ChangeAlike
import Derived.StillTailTactics
import Derived.Outline
import Derived.Lib.Hide
import Derived.Deep.LoopGhost
namespace Go.Proofs.Ytpjdfnilhhknkaa
open Go Go.RowKit
open Go.Proofs
set_option linter.unusedVariables false
set_option linter.unusedSimpArgs false

set_option maxHeartbeats 1000000 in
set_option maxRecDepth 20000 in
theorem get_calls (w : World) (b m : Nat) (l : List ChunkV) (F : Nat → Prop) (h : StoreV w b m l F) (k : KeyV) (hk : k.Good) :
    Calls Try.prog 14 #[.pointer (some ⟨b, 0, none⟩), k.val] w fun e w' => e = .returned (.tuple #[((getC l k).getD zeroChunk).val, .bool (getC l k).isSome]) ∧ Upd (fun _ => False) w w' := by
  have HH := Lib.hid h; clear h
  go_enter Try.func14, Try.ntmps14
  go_wp2_with fail
  refine wp_world fun W hW0 => ?_
  have HW := Lib.hid hW0; clear hW0
  have hu : Upd (fun _ => False) w W := by rw [HW.out]; exact ((Upd.refl _ w).alloc _).alloc _
  have hkb : W.rangeAt w.heap.size 0 k.cells := by
    intro j v hv
    rw [HW.out]
    simp [hv]
  refine wp_region_held_drew (S := fun w' => Upd (fun _ => False) W w') rfl (Upd.refl _ W).drew (fun hHeld => ?_)
  have h1 : ∀ w', Upd (fun _ => False) W w' → w'.cell? ⟨b, 0, none⟩ = some (.map (some m)) := fun w' hw => cell_at ((HH.out.upd (hu.trans hw (fun _ _ f => f)) (fun _ _ f => f)).here) 0
  have h2 : ∀ w', Upd (fun _ => False) W w' → (Instr.loadAt 32 (.pointer (some ⟨w.heap.size, 0, none⟩))).run Try.prog w' = .ok k.val w' := fun w' hw => run_loadAt_mid w' _ 0 32 k.cells _ (fun j v hv => hw.cell (hkb j v hv) (fun f => f)) Try.underlying32 rfl (by rw [KeyV.clen hk]; kernel_rfl)
  obtain ⟨r, hr⟩ : ∃ r, r = getC l k := ⟨_, rfl⟩
  have h3 : ∀ w', Upd (fun _ => False) W w' → (Instr.lookup 69 (.map (some m)) k.val true).run Try.prog w' = .ok (.tuple #[(r.getD zeroChunk).val, .bool r.isSome]) w' := fun w' hw => by
    obtain ⟨lit, hlit⟩ := key_lit hk
    have hs := HH.out.upd (hu.trans hw (fun _ _ f => f)) (fun _ _ f => f)
    have := hs.map.look (t := 69) (c := true) keyedKey Try.underlying69 (z := zeroChunk.val) (by kernel_rfl) hlit
    rw [look_store hs.good hk, ← hr] at this
    cases r <;> simpa using this
  have HR := Lib.hid hr; clear hr hkb
  first
    | (refine held_on 0 rfl (by kernel_rfl) (fun _ _ _ h => h) (by rfl) (by assumption) (v := ?_) ?_ ?_
       rotate_left
       · intro w hS; (try dsimp only at hS); first | (go_simp; done) | (go_simp; with_reducible rfl)
       try simp only [Act.put, List.setIfInBounds_toArray, List.set_cons_zero, List.set_cons_succ])
    | (refine held_off 0 rfl (by kernel_rfl) (fun _ _ _ h => h) (by rfl) (by assumption) ?_
       try simp only [Act.put, List.setIfInBounds_toArray, List.set_cons_zero, List.set_cons_succ])
    | (go_outline; fail "take 0")
  first
    | (refine held_on 1 rfl (by kernel_rfl) (fun _ _ _ h => h) (by rfl) (by assumption) (v := ?_) ?_ ?_
       rotate_left
       · intro w hS; (try dsimp only at hS); first | (go_simp; done) | (go_simp; with_reducible rfl)
       try simp only [Act.put, List.setIfInBounds_toArray, List.set_cons_zero, List.set_cons_succ])
    | (refine held_off 1 rfl (by kernel_rfl) (fun _ _ _ h => h) (by rfl) (by assumption) ?_
       try simp only [Act.put, List.setIfInBounds_toArray, List.set_cons_zero, List.set_cons_succ])
    | (go_outline; fail "take 1")
  first
    | (refine held_on 2 rfl (by kernel_rfl) (fun _ _ _ h => h) (by rfl) (by assumption) (v := ?_) ?_ ?_
       rotate_left
       · intro w hS; (try dsimp only at hS); first | (go_simp; done) | (go_simp; with_reducible rfl)
       try simp only [Act.put, List.setIfInBounds_toArray, List.set_cons_zero, List.set_cons_succ])
    | (refine held_off 2 rfl (by kernel_rfl) (fun _ _ _ h => h) (by rfl) (by assumption) ?_
       try simp only [Act.put, List.setIfInBounds_toArray, List.set_cons_zero, List.set_cons_succ])
    | (go_outline; fail "take 2")
  first
    | (refine held_on 3 rfl (by kernel_rfl) (fun _ _ _ h => h) (by rfl) (by assumption) (v := ?_) ?_ ?_
       rotate_left
       · intro w hS; (try dsimp only at hS); first | (go_simp; done) | (go_simp; with_reducible rfl)
       try simp only [Act.put, List.setIfInBounds_toArray, List.set_cons_zero, List.set_cons_succ])
    | (refine held_off 3 rfl (by kernel_rfl) (fun _ _ _ h => h) (by rfl) (by assumption) ?_
       try simp only [Act.put, List.setIfInBounds_toArray, List.set_cons_zero, List.set_cons_succ])
    | (go_outline; fail "take 3")
  refine held_load 4 rfl (by kernel_rfl) (fun _ _ _ h => h) (by rfl) (by assumption) rfl h2 ?_
  try simp only [Act.put, List.setIfInBounds_toArray, List.set_cons_zero, List.set_cons_succ]
  refine held_lookup 5 rfl (by kernel_rfl) (fun _ _ _ h => h) (by rfl) (by assumption) rfl rfl h3 ?_
  try simp only [Act.put, List.setIfInBounds_toArray, List.set_cons_zero, List.set_cons_succ]
  first
    | (refine held_on 6 rfl (by kernel_rfl) (fun _ _ _ h => h) (by rfl) (by assumption) (v := ?_) ?_ ?_
       rotate_left
       · intro w hS; (try dsimp only at hS); first | (go_simp; done) | (go_simp; with_reducible rfl)
       try simp only [Act.put, List.setIfInBounds_toArray, List.set_cons_zero, List.set_cons_succ])
    | (refine held_off 6 rfl (by kernel_rfl) (fun _ _ _ h => h) (by rfl) (by assumption) ?_
       try simp only [Act.put, List.setIfInBounds_toArray, List.set_cons_zero, List.set_cons_succ])
    | (go_outline; fail "take 6")
  first
    | (refine held_on 7 rfl (by kernel_rfl) (fun _ _ _ h => h) (by rfl) (by assumption) (v := ?_) ?_ ?_
       rotate_left
       · intro w hS; (try dsimp only at hS); first | (go_simp; done) | (go_simp; with_reducible rfl)
       try simp only [Act.put, List.setIfInBounds_toArray, List.set_cons_zero, List.set_cons_succ])
    | (refine held_off 7 rfl (by kernel_rfl) (fun _ _ _ h => h) (by rfl) (by assumption) ?_
       try simp only [Act.put, List.setIfInBounds_toArray, List.set_cons_zero, List.set_cons_succ])
    | (go_outline; fail "take 7")
  first
    | (refine held_on 8 rfl (by kernel_rfl) (fun _ _ _ h => h) (by rfl) (by assumption) (v := ?_) ?_ ?_
       rotate_left
       · intro w hS; (try dsimp only at hS); first | (go_simp; done) | (go_simp; with_reducible rfl)
       try simp only [Act.put, List.setIfInBounds_toArray, List.set_cons_zero, List.set_cons_succ])
    | (refine held_off 8 rfl (by kernel_rfl) (fun _ _ _ h => h) (by rfl) (by assumption) ?_
       try simp only [Act.put, List.setIfInBounds_toArray, List.set_cons_zero, List.set_cons_succ])
    | (go_outline; fail "take 8")
  refine wpAnyH_ready (rs := [9]) (by kernel_rfl) (by simp) (AllReadyH.cons rfl (fun K hK => ?_) AllReadyH.nil)
  go_simp
  refine hK.out _ _ (hHeld.alloc _) (fun hHeld => ?_)
  clear hK K
  obtain ⟨W2, hW2⟩ : ∃ x, x = (W.alloc (.cells (List.replicate 32 (Value.int .u8 0) ++ (Value.int .u32 0 :: List.replicate 4 (Value.int .i64 0))).toArray 41)).drew := ⟨_, rfl⟩
  have h4 : W2.heap[W.heap.size]? = some (.cells (List.replicate 32 (Value.int .u8 0) ++ (Value.int .u32 0 :: List.replicate 4 (Value.int .i64 0))).toArray 41 (0, 0)) := by rw [hW2]; exact heap_alloc_drew W _
  have hn : W.heap.size < W2.heap.size := by rw [hW2]; exact size_alloc_drew W _
  simp only [List.replicate, List.cons_append, List.nil_append] at hW2
  rw [← hW2] at hHeld ⊢
  clear hW2
  refine wpAnyH_ready (rs := [10]) (by kernel_rfl) (by simp) (AllReadyH.cons rfl (fun K hK => ?_) AllReadyH.nil)
  rw [if_pos (by rfl)]
  obtain ⟨v, hv⟩ : ∃ v, v = (r.getD zeroChunk) := ⟨_, rfl⟩
  have hvl : v.cells.length = 37 := by
    have hr := HR.out
    rw [hv]
    cases r with
    | none => exact ChunkV.clen zeroKey_good
    | some c => exact ChunkV.clen (HH.out.good c (getC_key hr.symm).2)
  have hv1 : ∀ x ∈ v.cells, x.oneCell' = true := by
    intro x hx
    simp only [ChunkV.cells, KeyV.cells, PlaceV.cells, List.mem_append, List.mem_map, List.mem_cons, List.not_mem_nil, or_false] at hx
    rcases hx with (⟨y, _, rfl⟩ | rfl) | (rfl | rfl | rfl) | rfl <;> rfl
  have hth : W2.there W.heap.size 0 v.cells.toArray.size := there_at h4 (by simp [hvl])
  refine wp_store_mid _ _ _ rfl W.heap.size 0 v.cells.toArray rfl (by rw [hv]; rfl) hth (by simp only [List.size_toArray]; rw [hvl]; kernel_rfl) (all_oneCell_toArray hv1) ?_
  refine hK.out _ _ (Upd.setCells (S := fun _ => False) (fun hg => ?_) _ _ hHeld) (fun hHeld => ?_)
  · omega
  clear hK K
  obtain ⟨W3, hW3⟩ : ∃ x, x = W2.setCells W.heap.size 0 v.cells := ⟨_, rfl⟩
  have h5 : W3.rangeAt W.heap.size 0 v.cells := by rw [hW3]; exact World.rangeAt_setCells_same _ _ _ _ (by simpa using hth)
  rw [← hW3] at hHeld ⊢
  first
    | (refine held_on 11 rfl (by kernel_rfl) (fun _ _ _ h => h) (by rfl) (by assumption) (v := ?_) ?_ ?_
       rotate_left
       · intro w hS; (try dsimp only at hS); first | (go_simp; done) | (go_simp; with_reducible rfl)
       try simp only [Act.put, List.setIfInBounds_toArray, List.set_cons_zero, List.set_cons_succ])
    | (refine held_off 11 rfl (by kernel_rfl) (fun _ _ _ h => h) (by rfl) (by assumption) ?_
       try simp only [Act.put, List.setIfInBounds_toArray, List.set_cons_zero, List.set_cons_succ])
    | (go_outline; fail "take 11")
  refine wpAnyH_done (by kernel_rfl) ?_ _
  have hz : W3.there (w.heap.size + 1) 0 37 := by
    refine hHeld.there ?_ (fun f => f) ?_
    · rw [HW.out]
      refine there_at (heap_alloc2 w _ _) ?_
      simp
    · exact (Array.getElem?_eq_some_iff.1 (by rw [HW.out]; exact heap_alloc2 w _ _)).1
  have HV := Lib.hid hv; clear hv hW3
  go_wp2_with (first
    | ((with_reducible change wpList _ _ _ (⟨_, Op.load _ _, _, _, _, _⟩ :: _) _ _); refine wpList_load_mid rfl _ _ rfl W.heap.size 0 ?_ v.cells _ h5 Try.underlying41 rfl (by rw [hvl]; kernel_rfl) ?_; rotate_left)
    | ((with_reducible change wpList _ _ _ (⟨_, Op.store _ _ _, _, _, _, _⟩ :: _) _ _); refine wpList_store_mid rfl _ _ _ rfl (w.heap.size + 1) 0 v.cells.toArray rfl rfl (by simp only [List.size_toArray]; rw [hvl]; exact hz) (by simp only [List.size_toArray]; rw [hvl]; kernel_rfl) (all_oneCell_toArray hv1) ?_))
  have h6 := World.rangeAt_setCells_same W3 (w.heap.size + 1) 0 v.cells (by rw [hvl]; exact hz)
  try simp only [Exit.inBlock, Exit.then]
  refine bodyPost_ret (results_cell_tmp rfl rfl v.cells _ h6 Try.underlying41 rfl (by rw [hvl]; kernel_rfl)) rfl ⟨?_, ?_⟩
  · have hr := HR.out
    have hv := HV.out
    subst hr hv
    rfl
  · refine Upd.setCells (S := fun _ => False) (fun hg => ?_) _ _ (hu.trans hHeld (fun _ _ f => f))
    omega
theorem get_at {w : World} {b m : Nat} {l : List ChunkV} {F : Nat → Prop} (h : StoreV w b m l F) {k : KeyV} (hk : k.Good) {r : Option ChunkV} (hr : getC l k = r) :
    Calls Try.prog 14 #[.pointer (some ⟨b, 0, none⟩), k.val] w fun e w' => e = .returned (.tuple #[(r.getD zeroChunk).val, .bool r.isSome]) ∧ Upd (fun _ => False) w w' := by
  subst hr
  exact get_calls w b m l F h k hk
-- GENERATED
set_option maxHeartbeats 1000000 in
set_option maxRecDepth 20000 in
theorem ref_none {w : World} {b m : Nat} {l : List ChunkV} {F : Nat → Prop} (h : StoreV w b m l F) {k : KeyV} (hk : k.Good) (hr : getC l k = none) :
    Calls Try.prog 26 #[.pointer (some ⟨b, 0, none⟩), k.val] w fun e w' => e = .returned (.int .i64 2) ∧ Upd (fun _ => False) w w' := by
  have hkb : (w.alloc (.cells k.cells.toArray 32)).rangeAt w.heap.size 0 k.cells := by intro j v hv; simp [hv]
  have hu0 : Upd (fun _ => False) w (w.alloc (.cells k.cells.toArray 32)) := (Upd.refl (fun _ => False) w).alloc _
  have hS0 : StoreV (w.alloc (.cells k.cells.toArray 32)) b m l F := h.upd hu0 (fun _ _ f => f)
  have hvl : zeroChunk.cells.length = 37 := ChunkV.clen zeroKey_good
  have HH := Lib.hid h; have HK := Lib.hid hkb; have HS0 := Lib.hid hS0; have HU0 := Lib.hid hu0; clear h hkb hS0 hu0
  go_enter Try.func26, Try.ntmps26
  go_wp2_with (first
    | ((with_reducible change wpList _ _ _ (⟨_, Op.load _ _, _, _, _, _⟩ :: _) _ _); refine wpList_load_mid rfl _ _ rfl w.heap.size 0 rfl k.cells _ HK.out Try.underlying32 rfl (by rw [KeyV.clen hk]; kernel_rfl) ?_))
  refine (get_at HS0.out hk hr).mono ?_
  rintro e w1 ⟨rfl, hu1⟩
  have HU1 := Lib.hid hu1; clear hu1
  go_wp2_with (first
    | ((with_reducible change wpList _ _ _ (⟨_, Op.store _ _ _, _, _, _, _⟩ :: _) _ _); refine wpList_store_mid rfl _ _ _ rfl w1.heap.size 0 zeroChunk.cells.toArray rfl rfl (there_new w1 _ _ (by rw [List.size_toArray, hvl]; exact Nat.le_refl _)) (by simp only [List.size_toArray]; rw [hvl]; kernel_rfl) (all_oneCell_toArray ChunkV.one) ?_
       refine wpList_world fun W2 hW2 => ?_
       have h4 : W2.heap[w1.heap.size]? = some (.cells zeroChunk.cells.toArray 41 (0, 0)) := by rw [hW2]; exact at_setAll (heap_alloc_last w1 _) (by rw [hvl]; rfl)
       have hu2 : Upd (fun _ => False) w1 W2 := by rw [hW2]; exact Upd.setCells (S := fun _ => False) (fun hg => absurd hg (Nat.lt_irrefl _)) _ _ ((Upd.refl _ w1).alloc _)
       have H4 := Lib.hid h4; have HU2 := Lib.hid hu2
       clear h4 hu2 hW2))
  go_ret
  exact ⟨rfl, (HU0.out.trans HU1.out (fun _ _ f => f)).trans HU2.out (fun _ _ f => f)⟩
set_option maxHeartbeats 1000000 in
set_option maxRecDepth 20000 in
theorem ref_some {w : World} {b m : Nat} {l : List ChunkV} {F : Nat → Prop} (h : StoreV w b m l F) {k : KeyV} (hk : k.Good) {c : ChunkV} (hr : getC l k = some c) (h0 : 0 < c.refs) (h1 : c.refs < 1000000) :
    Calls Try.prog 26 #[.pointer (some ⟨b, 0, none⟩), k.val] w fun e w' => e = .returned (.int .i64 0) ∧ StoreV w' b m (putC l { c with refs := c.refs + 1 }) F ∧ Upd (· = m) w w' := by
  have hkb : (w.alloc (.cells k.cells.toArray 32)).rangeAt w.heap.size 0 k.cells := by intro j v hv; simp [hv]
  have hu0 : Upd (fun _ => False) w (w.alloc (.cells k.cells.toArray 32)) := (Upd.refl (fun _ => False) w).alloc _
  have hS0 : StoreV (w.alloc (.cells k.cells.toArray 32)) b m l F := h.upd hu0 (fun _ _ f => f)
  have hg : c.key.Good := h.good c (getC_key hr).2
  have hvl : c.cells.length = 37 := ChunkV.clen hg
  have HH := Lib.hid h; have HK := Lib.hid hkb; have HS0 := Lib.hid hS0; have HU0 := Lib.hid hu0; clear h hkb hS0 hu0
  go_enter Try.func26, Try.ntmps26
  go_wp2_with (first
    | ((with_reducible change wpList _ _ _ (⟨_, Op.load _ _, _, _, _, _⟩ :: _) _ _); refine wpList_load_mid rfl _ _ rfl w.heap.size 0 rfl k.cells _ HK.out Try.underlying32 rfl (by rw [KeyV.clen hk]; kernel_rfl) ?_))
  refine (get_at HS0.out hk hr).mono ?_
  rintro e w1 ⟨rfl, hu1⟩
  have HU1 := Lib.hid hu1; clear hu1
  have hwm : m < w.heap.size ∧ b < w.heap.size := ⟨HH.out.lt m HH.out.self.2.1, HH.out.lt b HH.out.self.1⟩
  have hws : w.heap.size < w1.heap.size := Nat.lt_of_lt_of_le (by rw [size_alloc]; omega) HU1.out.size
  have HWM := Lib.hid hwm; have HWS := Lib.hid hws; clear hwm hws
  have c36 := ChunkV.at36 hg
  go_wp2_with (first
    | ((with_reducible change wpList _ _ _ (⟨_, Op.store _ _ _, _, _, _, _⟩ :: _) _ _); refine wpList_store_mid rfl _ _ _ rfl w1.heap.size 0 c.cells.toArray rfl rfl (there_new w1 _ _ (by rw [List.size_toArray, hvl]; exact Nat.le_refl _)) (by simp only [List.size_toArray]; rw [hvl]; kernel_rfl) (all_oneCell_toArray ChunkV.one) ?_
       refine wpList_world fun W2 hW2 => ?_
       have h4 : W2.heap[w1.heap.size]? = some (.cells c.cells.toArray 41 (0, 0)) := by rw [hW2]; exact at_setAll (heap_alloc_last w1 _) (by rw [hvl]; rfl)
       have hu2 : Upd (fun _ => False) w1 W2 := by rw [hW2]; exact Upd.setCells (S := fun _ => False) (fun hg => absurd hg (Nat.lt_irrefl _)) _ _ ((Upd.refl _ w1).alloc _)
       have e36 : W2.cell? ⟨w1.heap.size, 36, none⟩ = some (.int .i64 c.refs) := by rw [cell_at h4, c36]
       have f36 := free_at h4 36
       have H4 := Lib.hid h4; have HU2 := Lib.hid hu2
       clear h4 hu2 hW2))
  refine wp_world fun W3 hW3 => ?_
  have h5 : W3.heap[w1.heap.size]? = some (.cells ({ c with refs := c.refs + 1 } : ChunkV).cells.toArray 41 (0, 0)) := by
    rw [hW3, at_setCell_same H4.out 36, ChunkV.set36 hg]
  have hu3 : Upd (fun _ => False) w W3 := by
    have hh : Upd (fun _ => False) w w1 := HU0.out.trans HU1.out (fun _ _ f => f)
    have hh2 := hh.trans HU2.out (fun _ _ f => f)
    rw [hW3]
    exact hh2.setCell (fun f => by have := HWS.out; simp only [] at f; omega) _
  have hk3 : W3.rangeAt w.heap.size 0 k.cells := by
    have hh := HK.out
    have h1 := HU1.out.range hh (fun f => f)
    have h2 := HU2.out.range h1 (fun f => f)
    rw [hW3]
    intro j v hv
    have := h2 j v hv
    have hne : w.heap.size ≠ w1.heap.size := by have := HWS.out; omega
    rw [World.cell?_of_block (a := ⟨w.heap.size, 0 + j, none⟩) (at_setCell_other 36 _ hne)]
    exact this
  clear hW3
  have hS3 := HH.out.upd hu3 (fun _ _ f => f)
  have hmb : b ≠ m := HH.out.self.2.2
  refine wp_region_held_drew (S := fun w' => Upd (fun x => x = m) W3 w') rfl (Upd.refl _ W3).drew (fun hHeld => ?_)
  have h1 : ∀ w', Upd (fun x => x = m) W3 w' → w'.cell? ⟨b, 0, none⟩ = some (.map (some m)) := fun w' hw => hw.cell (cell_at hS3.here 0) hmb
  have h2 : ∀ w', Upd (fun x => x = m) W3 w' → (Instr.loadAt 32 (.pointer (some ⟨w.heap.size, 0, none⟩))).run Try.prog w' = .ok k.val w' := fun w' hw => run_loadAt_mid w' _ 0 32 k.cells _ (hw.range hk3 (fun f => by have := HWM.out.1; omega)) Try.underlying32 rfl (by rw [KeyV.clen hk]; kernel_rfl)
  have h3 : ∀ w', Upd (fun x => x = m) W3 w' → (Instr.loadAt 41 (.pointer (some ⟨w1.heap.size, 0, none⟩))).run Try.prog w' = .ok ({ c with refs := c.refs + 1 } : ChunkV).val w' := fun w' hw => run_loadAt_mid w' _ 0 41 ({ c with refs := c.refs + 1 } : ChunkV).cells _ (hw.range (range_at h5 (fun j v hv => by simpa using hv)) (fun f => by have := HWM.out.1; have := HWS.out; omega)) Try.underlying41 rfl (by rw [ChunkV.clen (c := ({ c with refs := c.refs + 1 } : ChunkV)) hg]; kernel_rfl)
  have HS3 := Lib.hid hS3; have HU3 := Lib.hid hu3
  clear hS3 hk3 h5 hu3
  first
    | (refine held_on 0 rfl (by kernel_rfl) (fun _ _ _ h => h) (by rfl) (by assumption) (v := ?_) ?_ ?_
       rotate_left
       · intro w hS; (try dsimp only at hS); first | (go_simp; done) | (go_simp; with_reducible rfl)
       try simp only [Act.put, List.setIfInBounds_toArray, List.set_cons_zero, List.set_cons_succ])
    | (refine held_off 0 rfl (by kernel_rfl) (fun _ _ _ h => h) (by rfl) (by assumption) ?_
       try simp only [Act.put, List.setIfInBounds_toArray, List.set_cons_zero, List.set_cons_succ])
    | (go_outline; fail "take 0")
  first
    | (refine held_on 1 rfl (by kernel_rfl) (fun _ _ _ h => h) (by rfl) (by assumption) (v := ?_) ?_ ?_
       rotate_left
       · intro w hS; (try dsimp only at hS); first | (go_simp; done) | (go_simp; with_reducible rfl)
       try simp only [Act.put, List.setIfInBounds_toArray, List.set_cons_zero, List.set_cons_succ])
    | (refine held_off 1 rfl (by kernel_rfl) (fun _ _ _ h => h) (by rfl) (by assumption) ?_
       try simp only [Act.put, List.setIfInBounds_toArray, List.set_cons_zero, List.set_cons_succ])
    | (go_outline; fail "take 1")
  first
    | (refine held_on 2 rfl (by kernel_rfl) (fun _ _ _ h => h) (by rfl) (by assumption) (v := ?_) ?_ ?_
       rotate_left
       · intro w hS; (try dsimp only at hS); first | (go_simp; done) | (go_simp; with_reducible rfl)
       try simp only [Act.put, List.setIfInBounds_toArray, List.set_cons_zero, List.set_cons_succ])
    | (refine held_off 2 rfl (by kernel_rfl) (fun _ _ _ h => h) (by rfl) (by assumption) ?_
       try simp only [Act.put, List.setIfInBounds_toArray, List.set_cons_zero, List.set_cons_succ])
    | (go_outline; fail "take 2")
  first
    | (refine held_on 3 rfl (by kernel_rfl) (fun _ _ _ h => h) (by rfl) (by assumption) (v := ?_) ?_ ?_
       rotate_left
       · intro w hS; (try dsimp only at hS); first | (go_simp; done) | (go_simp; with_reducible rfl)
       try simp only [Act.put, List.setIfInBounds_toArray, List.set_cons_zero, List.set_cons_succ])
    | (refine held_off 3 rfl (by kernel_rfl) (fun _ _ _ h => h) (by rfl) (by assumption) ?_
       try simp only [Act.put, List.setIfInBounds_toArray, List.set_cons_zero, List.set_cons_succ])
    | (go_outline; fail "take 3")
  refine held_load 4 rfl (by kernel_rfl) (fun _ _ _ h => h) (by rfl) (by assumption) rfl h2 ?_
  try simp only [Act.put, List.setIfInBounds_toArray, List.set_cons_zero, List.set_cons_succ]
  refine held_load 5 rfl (by kernel_rfl) (fun _ _ _ h => h) (by rfl) (by assumption) rfl h3 ?_
  try simp only [Act.put, List.setIfInBounds_toArray, List.set_cons_zero, List.set_cons_succ]
  refine wpAnyH_ready (rs := [6]) (by kernel_rfl) (by simp) (AllReadyH.cons rfl (fun K hK => ?_) AllReadyH.nil)
  rw [if_pos (by rfl)]
  obtain ⟨lit, hlit⟩ := key_lit hk
  refine wp_mapUpdate (k := 32) (e := 41) _ _ _ rfl keyedKey Try.underlying69 HS3.out.map.drew rfl k.val ({ c with refs := c.refs + 1 } : ChunkV).val lit hlit rfl rfl (fun w4 hm4 hu4 => ?_)
  have hu5 : Upd (fun x => x = m) W3 w4 := hu4.of_drew
  refine hK.out _ _ hu5 (fun hHeld => ?_)
  have HU5 := Lib.hid hu5; have HM4 := Lib.hid hm4
  clear hK K hHeld hu4 hu5 hm4
  refine wpAnyH_done (by kernel_rfl) ?_ _
  go_wp2_with fail
  go_ret
  obtain ⟨hck, hcm⟩ := getC_key hr
  have hm := HM4.out
  rw [← hck] at hm
  exact ⟨rfl, HS3.out.put (c := { c with refs := c.refs + 1 }) hg hm HU5.out, (HU3.out.mono (fun _ _ f => f.elim)).trans HU5.out (fun _ _ f => f)⟩
set_option maxHeartbeats 1000000 in
set_option maxRecDepth 20000 in
theorem unref_none {w : World} {b m : Nat} {l : List ChunkV} {F : Nat → Prop} (h : StoreV w b m l F) {k : KeyV} (hk : k.Good) (hr : getC l k = none) :
    Calls Try.prog 27 #[.pointer (some ⟨b, 0, none⟩), k.val] w fun e w' => e = .returned (.tuple #[.bool false, .int .i64 2]) ∧ Upd (fun _ => False) w w' := by
  have hkb : (w.alloc (.cells k.cells.toArray 32)).rangeAt w.heap.size 0 k.cells := by intro j v hv; simp [hv]
  have hu0 : Upd (fun _ => False) w (w.alloc (.cells k.cells.toArray 32)) := (Upd.refl (fun _ => False) w).alloc _
  have hS0 : StoreV (w.alloc (.cells k.cells.toArray 32)) b m l F := h.upd hu0 (fun _ _ f => f)
  have hvl : zeroChunk.cells.length = 37 := ChunkV.clen zeroKey_good
  have HH := Lib.hid h; have HK := Lib.hid hkb; have HS0 := Lib.hid hS0; have HU0 := Lib.hid hu0; clear h hkb hS0 hu0
  go_enter Try.func27, Try.ntmps27
  go_wp2_with (first
    | ((with_reducible change wpList _ _ _ (⟨_, Op.load _ _, _, _, _, _⟩ :: _) _ _); refine wpList_load_mid rfl _ _ rfl w.heap.size 0 rfl k.cells _ HK.out Try.underlying32 rfl (by rw [KeyV.clen hk]; kernel_rfl) ?_))
  refine (get_at HS0.out hk hr).mono ?_
  rintro e w1 ⟨rfl, hu1⟩
  have HU1 := Lib.hid hu1; clear hu1
  go_wp2_with (first
    | ((with_reducible change wpList _ _ _ (⟨_, Op.store _ _ _, _, _, _, _⟩ :: _) _ _); refine wpList_store_mid rfl _ _ _ rfl w1.heap.size 0 zeroChunk.cells.toArray rfl rfl (there_new w1 _ _ (by rw [List.size_toArray, hvl]; exact Nat.le_refl _)) (by simp only [List.size_toArray]; rw [hvl]; kernel_rfl) (all_oneCell_toArray ChunkV.one) ?_
       refine wpList_world fun W2 hW2 => ?_
       have h4 : W2.heap[w1.heap.size]? = some (.cells zeroChunk.cells.toArray 41 (0, 0)) := by rw [hW2]; exact at_setAll (heap_alloc_last w1 _) (by rw [hvl]; rfl)
       have hu2 : Upd (fun _ => False) w1 W2 := by rw [hW2]; exact Upd.setCells (S := fun _ => False) (fun hg => absurd hg (Nat.lt_irrefl _)) _ _ ((Upd.refl _ w1).alloc _)
       have H4 := Lib.hid h4; have HU2 := Lib.hid hu2
       clear h4 hu2 hW2))
  go_ret2
  exact ⟨rfl, (HU0.out.trans HU1.out (fun _ _ f => f)).trans HU2.out (fun _ _ f => f)⟩
set_option maxHeartbeats 1000000 in
set_option maxRecDepth 20000 in
theorem unref_keep {w : World} {b m : Nat} {l : List ChunkV} {F : Nat → Prop} (h : StoreV w b m l F) {k : KeyV} (hk : k.Good) {c : ChunkV} (hr : getC l k = some c) (h0 : 1 < c.refs) (h1 : c.refs < 1000000) :
    Calls Try.prog 27 #[.pointer (some ⟨b, 0, none⟩), k.val] w fun e w' => e = .returned (.tuple #[.bool false, .int .i64 0]) ∧ StoreV w' b m (putC l { c with refs := c.refs - 1 }) F ∧ Upd (· = m) w w' := by
  have hkb : (w.alloc (.cells k.cells.toArray 32)).rangeAt w.heap.size 0 k.cells := by intro j v hv; simp [hv]
  have hu0 : Upd (fun _ => False) w (w.alloc (.cells k.cells.toArray 32)) := (Upd.refl (fun _ => False) w).alloc _
  have hS0 : StoreV (w.alloc (.cells k.cells.toArray 32)) b m l F := h.upd hu0 (fun _ _ f => f)
  have hg : c.key.Good := h.good c (getC_key hr).2
  have hvl : c.cells.length = 37 := ChunkV.clen hg
  have HH := Lib.hid h; have HK := Lib.hid hkb; have HS0 := Lib.hid hS0; have HU0 := Lib.hid hu0; clear h hkb hS0 hu0
  go_enter Try.func27, Try.ntmps27
  go_wp2_with (first
    | ((with_reducible change wpList _ _ _ (⟨_, Op.load _ _, _, _, _, _⟩ :: _) _ _); refine wpList_load_mid rfl _ _ rfl w.heap.size 0 rfl k.cells _ HK.out Try.underlying32 rfl (by rw [KeyV.clen hk]; kernel_rfl) ?_))
  refine (get_at HS0.out hk hr).mono ?_
  rintro e w1 ⟨rfl, hu1⟩
  have HU1 := Lib.hid hu1; clear hu1
  have hwm : m < w.heap.size ∧ b < w.heap.size := ⟨HH.out.lt m HH.out.self.2.1, HH.out.lt b HH.out.self.1⟩
  have hws : w.heap.size < w1.heap.size := Nat.lt_of_lt_of_le (by rw [size_alloc]; omega) HU1.out.size
  have HWM := Lib.hid hwm; have HWS := Lib.hid hws; clear hwm hws
  have c36 := ChunkV.at36 hg
  have hpos : (decide (0 < c.refs - 1)) = true := decide_eq_true (by omega)
  go_wp2_with (first
    | ((with_reducible change wpList _ _ _ (⟨_, Op.store _ _ _, _, _, _, _⟩ :: _) _ _); refine wpList_store_mid rfl _ _ _ rfl w1.heap.size 0 c.cells.toArray rfl rfl (there_new w1 _ _ (by rw [List.size_toArray, hvl]; exact Nat.le_refl _)) (by simp only [List.size_toArray]; rw [hvl]; kernel_rfl) (all_oneCell_toArray ChunkV.one) ?_
       refine wpList_world fun W2 hW2 => ?_
       have h4 : W2.heap[w1.heap.size]? = some (.cells c.cells.toArray 41 (0, 0)) := by rw [hW2]; exact at_setAll (heap_alloc_last w1 _) (by rw [hvl]; rfl)
       have hu2 : Upd (fun _ => False) w1 W2 := by rw [hW2]; exact Upd.setCells (S := fun _ => False) (fun hg => absurd hg (Nat.lt_irrefl _)) _ _ ((Upd.refl _ w1).alloc _)
       have e36 : W2.cell? ⟨w1.heap.size, 36, none⟩ = some (.int .i64 c.refs) := by rw [cell_at h4, c36]
       have f36 := free_at h4 36
       have H4 := Lib.hid h4; have HU2 := Lib.hid hu2
       clear h4 hu2 hW2))
  refine wp_world fun W3 hW3 => ?_
  have h5 : W3.heap[w1.heap.size]? = some (.cells ({ c with refs := c.refs - 1 } : ChunkV).cells.toArray 41 (0, 0)) := by
    rw [hW3, at_setCell_same H4.out 36, ChunkV.set36 hg]
  have hu3 : Upd (fun _ => False) w W3 := by
    have hh : Upd (fun _ => False) w w1 := HU0.out.trans HU1.out (fun _ _ f => f)
    have hh2 := hh.trans HU2.out (fun _ _ f => f)
    rw [hW3]
    exact hh2.setCell (fun f => by have := HWS.out; simp only [] at f; omega) _
  have hk3 : W3.rangeAt w.heap.size 0 k.cells := by
    have hh := HK.out
    have h1 := HU1.out.range hh (fun f => f)
    have h2 := HU2.out.range h1 (fun f => f)
    rw [hW3]
    intro j v hv
    have := h2 j v hv
    have hne : w.heap.size ≠ w1.heap.size := by have := HWS.out; omega
    rw [World.cell?_of_block (a := ⟨w.heap.size, 0 + j, none⟩) (at_setCell_other 36 _ hne)]
    exact this
  clear hW3
  have hS3 := HH.out.upd hu3 (fun _ _ f => f)
  have hmb : b ≠ m := HH.out.self.2.2
  refine wp_region_held_drew (S := fun w' => Upd (fun x => x = m) W3 w') rfl (Upd.refl _ W3).drew (fun hHeld => ?_)
  have h1 : ∀ w', Upd (fun x => x = m) W3 w' → w'.cell? ⟨b, 0, none⟩ = some (.map (some m)) := fun w' hw => hw.cell (cell_at hS3.here 0) hmb
  have h2 : ∀ w', Upd (fun x => x = m) W3 w' → (Instr.loadAt 32 (.pointer (some ⟨w.heap.size, 0, none⟩))).run Try.prog w' = .ok k.val w' := fun w' hw => run_loadAt_mid w' _ 0 32 k.cells _ (hw.range hk3 (fun f => by have := HWM.out.1; omega)) Try.underlying32 rfl (by rw [KeyV.clen hk]; kernel_rfl)
  have h3 : ∀ w', Upd (fun x => x = m) W3 w' → (Instr.loadAt 41 (.pointer (some ⟨w1.heap.size, 0, none⟩))).run Try.prog w' = .ok ({ c with refs := c.refs - 1 } : ChunkV).val w' := fun w' hw => run_loadAt_mid w' _ 0 41 ({ c with refs := c.refs - 1 } : ChunkV).cells _ (hw.range (range_at h5 (fun j v hv => by simpa using hv)) (fun f => by have := HWM.out.1; have := HWS.out; omega)) Try.underlying41 rfl (by rw [ChunkV.clen (c := ({ c with refs := c.refs - 1 } : ChunkV)) hg]; kernel_rfl)
  have HS3 := Lib.hid hS3; have HU3 := Lib.hid hu3
  clear hS3 hk3 h5 hu3
  first
    | (refine held_on 0 rfl (by kernel_rfl) (fun _ _ _ h => h) (by rfl) (by assumption) (v := ?_) ?_ ?_
       rotate_left
       · intro w hS; (try dsimp only at hS); first | (go_simp; done) | (go_simp; with_reducible rfl)
       try simp only [Act.put, List.setIfInBounds_toArray, List.set_cons_zero, List.set_cons_succ])
    | (refine held_off 0 rfl (by kernel_rfl) (fun _ _ _ h => h) (by rfl) (by assumption) ?_
       try simp only [Act.put, List.setIfInBounds_toArray, List.set_cons_zero, List.set_cons_succ])
    | (go_outline; fail "take 0")
  first
    | (refine held_on 1 rfl (by kernel_rfl) (fun _ _ _ h => h) (by rfl) (by assumption) (v := ?_) ?_ ?_
       rotate_left
       · intro w hS; (try dsimp only at hS); first | (go_simp; done) | (go_simp; with_reducible rfl)
       try simp only [Act.put, List.setIfInBounds_toArray, List.set_cons_zero, List.set_cons_succ])
    | (refine held_off 1 rfl (by kernel_rfl) (fun _ _ _ h => h) (by rfl) (by assumption) ?_
       try simp only [Act.put, List.setIfInBounds_toArray, List.set_cons_zero, List.set_cons_succ])
    | (go_outline; fail "take 1")
  first
    | (refine held_on 2 rfl (by kernel_rfl) (fun _ _ _ h => h) (by rfl) (by assumption) (v := ?_) ?_ ?_
       rotate_left
       · intro w hS; (try dsimp only at hS); first | (go_simp; done) | (go_simp; with_reducible rfl)
       try simp only [Act.put, List.setIfInBounds_toArray, List.set_cons_zero, List.set_cons_succ])
    | (refine held_off 2 rfl (by kernel_rfl) (fun _ _ _ h => h) (by rfl) (by assumption) ?_
       try simp only [Act.put, List.setIfInBounds_toArray, List.set_cons_zero, List.set_cons_succ])
    | (go_outline; fail "take 2")
  first
    | (refine held_on 3 rfl (by kernel_rfl) (fun _ _ _ h => h) (by rfl) (by assumption) (v := ?_) ?_ ?_
       rotate_left
       · intro w hS; (try dsimp only at hS); first | (go_simp; done) | (go_simp; with_reducible rfl)
       try simp only [Act.put, List.setIfInBounds_toArray, List.set_cons_zero, List.set_cons_succ])
    | (refine held_off 3 rfl (by kernel_rfl) (fun _ _ _ h => h) (by rfl) (by assumption) ?_
       try simp only [Act.put, List.setIfInBounds_toArray, List.set_cons_zero, List.set_cons_succ])
    | (go_outline; fail "take 3")
  refine held_load 4 rfl (by kernel_rfl) (fun _ _ _ h => h) (by rfl) (by assumption) rfl h2 ?_
  try simp only [Act.put, List.setIfInBounds_toArray, List.set_cons_zero, List.set_cons_succ]
  refine held_load 5 rfl (by kernel_rfl) (fun _ _ _ h => h) (by rfl) (by assumption) rfl h3 ?_
  try simp only [Act.put, List.setIfInBounds_toArray, List.set_cons_zero, List.set_cons_succ]
  refine wpAnyH_ready (rs := [6]) (by kernel_rfl) (by simp) (AllReadyH.cons rfl (fun K hK => ?_) AllReadyH.nil)
  rw [if_pos (by rfl)]
  obtain ⟨lit, hlit⟩ := key_lit hk
  refine wp_mapUpdate (k := 32) (e := 41) _ _ _ rfl keyedKey Try.underlying69 HS3.out.map.drew rfl k.val ({ c with refs := c.refs - 1 } : ChunkV).val lit hlit rfl rfl (fun w4 hm4 hu4 => ?_)
  have hu5 : Upd (fun x => x = m) W3 w4 := hu4.of_drew
  refine hK.out _ _ hu5 (fun hHeld => ?_)
  have HU5 := Lib.hid hu5; have HM4 := Lib.hid hm4
  clear hK K hHeld hu4 hu5 hm4
  refine wpAnyH_done (by kernel_rfl) ?_ _
  go_wp2_with fail
  go_ret2
  obtain ⟨hck, hcm⟩ := getC_key hr
  have hm := HM4.out
  rw [← hck] at hm
  exact ⟨rfl, HS3.out.put (c := { c with refs := c.refs - 1 }) hg hm HU5.out, (HU3.out.mono (fun _ _ f => f.elim)).trans HU5.out (fun _ _ f => f)⟩
set_option maxHeartbeats 1000000 in
set_option maxRecDepth 20000 in
theorem unref_gone {w : World} {b m : Nat} {l : List ChunkV} {F : Nat → Prop} (h : StoreV w b m l F) {k : KeyV} (hk : k.Good) {c : ChunkV} (hr : getC l k = some c) (h0 : c.refs = 1) :
    Calls Try.prog 27 #[.pointer (some ⟨b, 0, none⟩), k.val] w fun e w' => e = .returned (.tuple #[.bool true, .int .i64 0]) ∧ StoreV w' b m (delC l k) F ∧ Upd (· = m) w w' := by
  have hkb : (w.alloc (.cells k.cells.toArray 32)).rangeAt w.heap.size 0 k.cells := by intro j v hv; simp [hv]
  have hu0 : Upd (fun _ => False) w (w.alloc (.cells k.cells.toArray 32)) := (Upd.refl (fun _ => False) w).alloc _
  have hS0 : StoreV (w.alloc (.cells k.cells.toArray 32)) b m l F := h.upd hu0 (fun _ _ f => f)
  have hg : c.key.Good := h.good c (getC_key hr).2
  have hvl : c.cells.length = 37 := ChunkV.clen hg
  have HH := Lib.hid h; have HK := Lib.hid hkb; have HS0 := Lib.hid hS0; have HU0 := Lib.hid hu0; clear h hkb hS0 hu0
  go_enter Try.func27, Try.ntmps27
  go_wp2_with (first
    | ((with_reducible change wpList _ _ _ (⟨_, Op.load _ _, _, _, _, _⟩ :: _) _ _); refine wpList_load_mid rfl _ _ rfl w.heap.size 0 rfl k.cells _ HK.out Try.underlying32 rfl (by rw [KeyV.clen hk]; kernel_rfl) ?_))
  refine (get_at HS0.out hk hr).mono ?_
  rintro e w1 ⟨rfl, hu1⟩
  have HU1 := Lib.hid hu1; clear hu1
  have hwm : m < w.heap.size ∧ b < w.heap.size := ⟨HH.out.lt m HH.out.self.2.1, HH.out.lt b HH.out.self.1⟩
  have hws : w.heap.size < w1.heap.size := Nat.lt_of_lt_of_le (by rw [size_alloc]; omega) HU1.out.size
  have HWM := Lib.hid hwm; have HWS := Lib.hid hws; clear hwm hws
  have c36 := ChunkV.at36 hg
  have hpos : (decide (0 < c.refs - 1)) = false := decide_eq_false (by omega)
  go_wp2_with (first
    | ((with_reducible change wpList _ _ _ (⟨_, Op.store _ _ _, _, _, _, _⟩ :: _) _ _); refine wpList_store_mid rfl _ _ _ rfl w1.heap.size 0 c.cells.toArray rfl rfl (there_new w1 _ _ (by rw [List.size_toArray, hvl]; exact Nat.le_refl _)) (by simp only [List.size_toArray]; rw [hvl]; kernel_rfl) (all_oneCell_toArray ChunkV.one) ?_
       refine wpList_world fun W2 hW2 => ?_
       have h4 : W2.heap[w1.heap.size]? = some (.cells c.cells.toArray 41 (0, 0)) := by rw [hW2]; exact at_setAll (heap_alloc_last w1 _) (by rw [hvl]; rfl)
       have hu2 : Upd (fun _ => False) w1 W2 := by rw [hW2]; exact Upd.setCells (S := fun _ => False) (fun hg => absurd hg (Nat.lt_irrefl _)) _ _ ((Upd.refl _ w1).alloc _)
       have e36 : W2.cell? ⟨w1.heap.size, 36, none⟩ = some (.int .i64 c.refs) := by rw [cell_at h4, c36]
       have f36 := free_at h4 36
       have H4 := Lib.hid h4; have HU2 := Lib.hid hu2
       clear h4 hu2 hW2))
  refine wp_world fun W3 hW3 => ?_
  have h5 : W3.heap[w1.heap.size]? = some (.cells ({ c with refs := 0 } : ChunkV).cells.toArray 41 (0, 0)) := by
    rw [hW3, at_setCell_same H4.out 36, ChunkV.set36 hg]
  have hu3 : Upd (fun _ => False) w W3 := by
    have hh : Upd (fun _ => False) w w1 := HU0.out.trans HU1.out (fun _ _ f => f)
    have hh2 := hh.trans HU2.out (fun _ _ f => f)
    rw [hW3]
    exact hh2.setCell (fun f => by have := HWS.out; simp only [] at f; omega) _
  have hk3 : W3.rangeAt w.heap.size 0 k.cells := by
    have hh := HK.out
    have h1 := HU1.out.range hh (fun f => f)
    have h2 := HU2.out.range h1 (fun f => f)
    rw [hW3]
    intro j v hv
    have := h2 j v hv
    have hne : w.heap.size ≠ w1.heap.size := by have := HWS.out; omega
    rw [World.cell?_of_block (a := ⟨w.heap.size, 0 + j, none⟩) (at_setCell_other 36 _ hne)]
    exact this
  clear hW3
  have hS3 := HH.out.upd hu3 (fun _ _ f => f)
  have hmb : b ≠ m := HH.out.self.2.2
  refine wp_region_held_drew (S := fun w' => Upd (fun x => x = m) W3 w') rfl (Upd.refl _ W3).drew (fun hHeld => ?_)
  have h1 : ∀ w', Upd (fun x => x = m) W3 w' → w'.cell? ⟨b, 0, none⟩ = some (.map (some m)) := fun w' hw => hw.cell (cell_at hS3.here 0) hmb
  have h2 : ∀ w', Upd (fun x => x = m) W3 w' → (Instr.loadAt 32 (.pointer (some ⟨w.heap.size, 0, none⟩))).run Try.prog w' = .ok k.val w' := fun w' hw => run_loadAt_mid w' _ 0 32 k.cells _ (hw.range hk3 (fun f => by have := HWM.out.1; omega)) Try.underlying32 rfl (by rw [KeyV.clen hk]; kernel_rfl)
  have HS3 := Lib.hid hS3; have HU3 := Lib.hid hu3
  clear hS3 hk3 h5 hu3
  first
    | (refine held_on 0 rfl (by kernel_rfl) (fun _ _ _ h => h) (by rfl) (by assumption) (v := ?_) ?_ ?_
       rotate_left
       · intro w hS; (try dsimp only at hS); first | (go_simp; done) | (go_simp; with_reducible rfl)
       try simp only [Act.put, List.setIfInBounds_toArray, List.set_cons_zero, List.set_cons_succ])
    | (refine held_off 0 rfl (by kernel_rfl) (fun _ _ _ h => h) (by rfl) (by assumption) ?_
       try simp only [Act.put, List.setIfInBounds_toArray, List.set_cons_zero, List.set_cons_succ])
    | (go_outline; fail "take 0")
  first
    | (refine held_on 1 rfl (by kernel_rfl) (fun _ _ _ h => h) (by rfl) (by assumption) (v := ?_) ?_ ?_
       rotate_left
       · intro w hS; (try dsimp only at hS); first | (go_simp; done) | (go_simp; with_reducible rfl)
       try simp only [Act.put, List.setIfInBounds_toArray, List.set_cons_zero, List.set_cons_succ])
    | (refine held_off 1 rfl (by kernel_rfl) (fun _ _ _ h => h) (by rfl) (by assumption) ?_
       try simp only [Act.put, List.setIfInBounds_toArray, List.set_cons_zero, List.set_cons_succ])
    | (go_outline; fail "take 1")
  first
    | (refine held_on 2 rfl (by kernel_rfl) (fun _ _ _ h => h) (by rfl) (by assumption) (v := ?_) ?_ ?_
       rotate_left
       · intro w hS; (try dsimp only at hS); first | (go_simp; done) | (go_simp; with_reducible rfl)
       try simp only [Act.put, List.setIfInBounds_toArray, List.set_cons_zero, List.set_cons_succ])
    | (refine held_off 2 rfl (by kernel_rfl) (fun _ _ _ h => h) (by rfl) (by assumption) ?_
       try simp only [Act.put, List.setIfInBounds_toArray, List.set_cons_zero, List.set_cons_succ])
    | (go_outline; fail "take 2")
  first
    | (refine held_on 3 rfl (by kernel_rfl) (fun _ _ _ h => h) (by rfl) (by assumption) (v := ?_) ?_ ?_
       rotate_left
       · intro w hS; (try dsimp only at hS); first | (go_simp; done) | (go_simp; with_reducible rfl)
       try simp only [Act.put, List.setIfInBounds_toArray, List.set_cons_zero, List.set_cons_succ])
    | (refine held_off 3 rfl (by kernel_rfl) (fun _ _ _ h => h) (by rfl) (by assumption) ?_
       try simp only [Act.put, List.setIfInBounds_toArray, List.set_cons_zero, List.set_cons_succ])
    | (go_outline; fail "take 3")
  refine held_load 4 rfl (by kernel_rfl) (fun _ _ _ h => h) (by rfl) (by assumption) rfl h2 ?_
  try simp only [Act.put, List.setIfInBounds_toArray, List.set_cons_zero, List.set_cons_succ]
  refine wpAnyH_ready (rs := [5]) (by kernel_rfl) (by simp) (AllReadyH.cons rfl (fun K hK => ?_) AllReadyH.nil)
  rw [if_pos (by rfl)]
  obtain ⟨lit, hlit⟩ := key_lit hk
  refine wp_delete (k := 32) (e := 41) _ _ rfl keyedKey Try.underlying69 HS3.out.map.drew rfl k.val lit hlit rfl (fun w4 hm4 hu4 => ?_)
  have hu5 : Upd (fun x => x = m) W3 w4 := hu4.of_drew
  refine hK.out _ _ hu5 (fun hHeld => ?_)
  have HU5 := Lib.hid hu5; have HM4 := Lib.hid hm4
  clear hK K hHeld hu4 hu5 hm4
  refine wpAnyH_done (by kernel_rfl) ?_ _
  go_wp2_with fail
  go_ret2
  exact ⟨rfl, HS3.out.del hk HM4.out HU5.out, (HU3.out.mono (fun _ _ f => f.elim)).trans HU5.out (fun _ _ f => f)⟩
set_option maxHeartbeats 1000000 in
set_option maxRecDepth 20000 in
theorem move_none {w : World} {b m : Nat} {l : List ChunkV} {F : Nat → Prop} (h : StoreV w b m l F) {k : KeyV} (hk : k.Good) (p : PlaceV) (hr : getC l k = none) :
    Calls Try.prog 16 #[.pointer (some ⟨b, 0, none⟩), k.val, .agg p.cells.toArray] w fun e w' => e = .returned (.int .i64 2) ∧ Upd (fun _ => False) w w' := by
  have hkb : ((w.alloc (.cells k.cells.toArray 32)).alloc (.cells p.cells.toArray 34)).rangeAt w.heap.size 0 k.cells := World.rangeAt_alloc (w := w.alloc (.cells k.cells.toArray 32)) (by intro j v hv; simp [hv]) _
  have hu0 : Upd (fun _ => False) w ((w.alloc (.cells k.cells.toArray 32)).alloc (.cells p.cells.toArray 34)) := ((Upd.refl (fun _ => False) w).alloc _).alloc _
  have hS0 : StoreV ((w.alloc (.cells k.cells.toArray 32)).alloc (.cells p.cells.toArray 34)) b m l F := h.upd hu0 (fun _ _ f => f)
  have hpb : ((w.alloc (.cells k.cells.toArray 32)).alloc (.cells p.cells.toArray 34)).rangeAt (w.heap.size + 1) 0 p.cells := by rw [← size_alloc w (.cells k.cells.toArray 32)]; intro j v hv; simp [hv]
  have HP := Lib.hid hpb; clear hpb
  have hvl : zeroChunk.cells.length = 37 := ChunkV.clen zeroKey_good
  have HH := Lib.hid h; have HK := Lib.hid hkb; have HS0 := Lib.hid hS0; have HU0 := Lib.hid hu0; clear h hkb hS0 hu0
  go_enter Try.func16, Try.ntmps16
  go_wp2_with (first
    | ((with_reducible change wpList _ _ _ (⟨_, Op.load _ _, _, _, _, _⟩ :: _) _ _); refine wpList_load_mid rfl _ _ rfl w.heap.size 0 rfl k.cells _ HK.out Try.underlying32 rfl (by rw [KeyV.clen hk]; kernel_rfl) ?_))
  refine (get_at HS0.out hk hr).mono ?_
  rintro e w1 ⟨rfl, hu1⟩
  have HU1 := Lib.hid hu1; clear hu1
  go_wp2_with (first
    | ((with_reducible change wpList _ _ _ (⟨_, Op.store _ _ _, _, _, _, _⟩ :: _) _ _); refine wpList_store_mid rfl _ _ _ rfl w1.heap.size 0 zeroChunk.cells.toArray rfl rfl (there_new w1 _ _ (by rw [List.size_toArray, hvl]; exact Nat.le_refl _)) (by simp only [List.size_toArray]; rw [hvl]; kernel_rfl) (all_oneCell_toArray ChunkV.one) ?_
       refine wpList_world fun W2 hW2 => ?_
       have h4 : W2.heap[w1.heap.size]? = some (.cells zeroChunk.cells.toArray 41 (0, 0)) := by rw [hW2]; exact at_setAll (heap_alloc_last w1 _) (by rw [hvl]; rfl)
       have hu2 : Upd (fun _ => False) w1 W2 := by rw [hW2]; exact Upd.setCells (S := fun _ => False) (fun hg => absurd hg (Nat.lt_irrefl _)) _ _ ((Upd.refl _ w1).alloc _)
       have H4 := Lib.hid h4; have HU2 := Lib.hid hu2
       clear h4 hu2 hW2))
  go_ret
  exact ⟨rfl, (HU0.out.trans HU1.out (fun _ _ f => f)).trans HU2.out (fun _ _ f => f)⟩
set_option maxHeartbeats 1000000 in
set_option maxRecDepth 20000 in
theorem move_some {w : World} {b m : Nat} {l : List ChunkV} {F : Nat → Prop} (h : StoreV w b m l F) {k : KeyV} (hk : k.Good) (p : PlaceV) {c : ChunkV} (hr : getC l k = some c)  :
    Calls Try.prog 16 #[.pointer (some ⟨b, 0, none⟩), k.val, .agg p.cells.toArray] w fun e w' => e = .returned (.int .i64 0) ∧ StoreV w' b m (putC l { c with place := p }) F ∧ Upd (· = m) w w' := by
  have hkb : ((w.alloc (.cells k.cells.toArray 32)).alloc (.cells p.cells.toArray 34)).rangeAt w.heap.size 0 k.cells := World.rangeAt_alloc (w := w.alloc (.cells k.cells.toArray 32)) (by intro j v hv; simp [hv]) _
  have hu0 : Upd (fun _ => False) w ((w.alloc (.cells k.cells.toArray 32)).alloc (.cells p.cells.toArray 34)) := ((Upd.refl (fun _ => False) w).alloc _).alloc _
  have hS0 : StoreV ((w.alloc (.cells k.cells.toArray 32)).alloc (.cells p.cells.toArray 34)) b m l F := h.upd hu0 (fun _ _ f => f)
  have hpb : ((w.alloc (.cells k.cells.toArray 32)).alloc (.cells p.cells.toArray 34)).rangeAt (w.heap.size + 1) 0 p.cells := by rw [← size_alloc w (.cells k.cells.toArray 32)]; intro j v hv; simp [hv]
  have HP := Lib.hid hpb; clear hpb
  have hg : c.key.Good := h.good c (getC_key hr).2
  have hvl : c.cells.length = 37 := ChunkV.clen hg
  have HH := Lib.hid h; have HK := Lib.hid hkb; have HS0 := Lib.hid hS0; have HU0 := Lib.hid hu0; clear h hkb hS0 hu0
  go_enter Try.func16, Try.ntmps16
  go_wp2_with (first
    | ((with_reducible change wpList _ _ _ (⟨_, Op.load _ _, _, _, _, _⟩ :: _) _ _); refine wpList_load_mid rfl _ _ rfl w.heap.size 0 rfl k.cells _ HK.out Try.underlying32 rfl (by rw [KeyV.clen hk]; kernel_rfl) ?_))
  refine (get_at HS0.out hk hr).mono ?_
  rintro e w1 ⟨rfl, hu1⟩
  have HU1 := Lib.hid hu1; clear hu1
  have hwm : m < w.heap.size ∧ b < w.heap.size := ⟨HH.out.lt m HH.out.self.2.1, HH.out.lt b HH.out.self.1⟩
  have hws : w.heap.size < w1.heap.size := Nat.lt_of_lt_of_le (by rw [size_alloc, size_alloc]; omega) HU1.out.size
  have HWM := Lib.hid hwm; have HWS := Lib.hid hws; clear hwm hws
  have c36 := ChunkV.at36 hg
  go_wp2_with (first
    | ((with_reducible change wpList _ _ _ (⟨_, Op.load _ _, _, _, _, _⟩ :: _) _ _); refine wpList_load_mid rfl _ _ rfl (w.heap.size + 1) 0 rfl p.cells _ (HU2.out.range (HU1.out.range HP.out (fun f => f)) (fun f => f)) Try.underlying34 rfl (by show _ = some 3; kernel_rfl) ?_)
    | ((with_reducible change wpList _ _ _ (⟨_, Op.store _ _ _, _, _, _, _⟩ :: _) _ _); refine wpList_store_mid rfl _ _ _ rfl w1.heap.size 0 c.cells.toArray rfl rfl (there_new w1 _ _ (by rw [List.size_toArray, hvl]; exact Nat.le_refl _)) (by simp only [List.size_toArray]; rw [hvl]; kernel_rfl) (all_oneCell_toArray ChunkV.one) ?_
       refine wpList_world fun W2 hW2 => ?_
       have h4 : W2.heap[w1.heap.size]? = some (.cells c.cells.toArray 41 (0, 0)) := by rw [hW2]; exact at_setAll (heap_alloc_last w1 _) (by rw [hvl]; rfl)
       have hu2 : Upd (fun _ => False) w1 W2 := by rw [hW2]; exact Upd.setCells (S := fun _ => False) (fun hg => absurd hg (Nat.lt_irrefl _)) _ _ ((Upd.refl _ w1).alloc _)
       have H4 := Lib.hid h4; have HU2 := Lib.hid hu2
       clear h4 hu2 hW2)
    | ((with_reducible change wpList _ _ _ (⟨_, Op.store _ _ _, _, _, _, _⟩ :: _) _ _); refine wpList_store_mid rfl _ _ _ rfl w1.heap.size 33 p.cells.toArray rfl rfl (there_at H4.out (by rw [List.size_toArray, List.size_toArray, hvl]; exact (by decide : 33 + 3 ≤ 37))) (by show _ = some 3; kernel_rfl) (all_oneCell_toArray PlaceV.one) ?_))
  refine wp_world fun W3 hW3 => ?_
  have h5 : W3.heap[w1.heap.size]? = some (.cells ({ c with place := p } : ChunkV).cells.toArray 41 (0, 0)) := by
    rw [hW3]; exact ChunkV.setPlace hg H4.out p
  have hu3 : Upd (fun _ => False) w W3 := by
    have hh : Upd (fun _ => False) w w1 := HU0.out.trans HU1.out (fun _ _ f => f)
    have hh2 := hh.trans HU2.out (fun _ _ f => f)
    rw [hW3]
    exact Upd.setCells (S := fun _ => False) (fun f => by have := HWS.out; omega) _ _ hh2
  have hk3 : W3.rangeAt w.heap.size 0 k.cells := by
    have hh := HK.out
    have h1 := HU1.out.range hh (fun f => f)
    have h2 := HU2.out.range h1 (fun f => f)
    rw [hW3]
    refine World.rangeAt_setCells_apart (h2) _ _ _ (.inl ?_)
    have := HWS.out; omega
  clear hW3
  have hS3 := HH.out.upd hu3 (fun _ _ f => f)
  have hmb : b ≠ m := HH.out.self.2.2
  refine wp_region_held_drew (S := fun w' => Upd (fun x => x = m) W3 w') rfl (Upd.refl _ W3).drew (fun hHeld => ?_)
  have h1 : ∀ w', Upd (fun x => x = m) W3 w' → w'.cell? ⟨b, 0, none⟩ = some (.map (some m)) := fun w' hw => hw.cell (cell_at hS3.here 0) hmb
  have h2 : ∀ w', Upd (fun x => x = m) W3 w' → (Instr.loadAt 32 (.pointer (some ⟨w.heap.size, 0, none⟩))).run Try.prog w' = .ok k.val w' := fun w' hw => run_loadAt_mid w' _ 0 32 k.cells _ (hw.range hk3 (fun f => by have := HWM.out.1; omega)) Try.underlying32 rfl (by rw [KeyV.clen hk]; kernel_rfl)
  have h3 : ∀ w', Upd (fun x => x = m) W3 w' → (Instr.loadAt 41 (.pointer (some ⟨w1.heap.size, 0, none⟩))).run Try.prog w' = .ok ({ c with place := p } : ChunkV).val w' := fun w' hw => run_loadAt_mid w' _ 0 41 ({ c with place := p } : ChunkV).cells _ (hw.range (range_at h5 (fun j v hv => by simpa using hv)) (fun f => by have := HWM.out.1; have := HWS.out; omega)) Try.underlying41 rfl (by rw [ChunkV.clen (c := ({ c with place := p } : ChunkV)) hg]; kernel_rfl)
  have HS3 := Lib.hid hS3; have HU3 := Lib.hid hu3
  clear hS3 hk3 h5 hu3
  first
    | (refine held_on 0 rfl (by kernel_rfl) (fun _ _ _ h => h) (by rfl) (by assumption) (v := ?_) ?_ ?_
       rotate_left
       · intro w hS; (try dsimp only at hS); first | (go_simp; done) | (go_simp; with_reducible rfl)
       try simp only [Act.put, List.setIfInBounds_toArray, List.set_cons_zero, List.set_cons_succ])
    | (refine held_off 0 rfl (by kernel_rfl) (fun _ _ _ h => h) (by rfl) (by assumption) ?_
       try simp only [Act.put, List.setIfInBounds_toArray, List.set_cons_zero, List.set_cons_succ])
    | (go_outline; fail "take 0")
  first
    | (refine held_on 1 rfl (by kernel_rfl) (fun _ _ _ h => h) (by rfl) (by assumption) (v := ?_) ?_ ?_
       rotate_left
       · intro w hS; (try dsimp only at hS); first | (go_simp; done) | (go_simp; with_reducible rfl)
       try simp only [Act.put, List.setIfInBounds_toArray, List.set_cons_zero, List.set_cons_succ])
    | (refine held_off 1 rfl (by kernel_rfl) (fun _ _ _ h => h) (by rfl) (by assumption) ?_
       try simp only [Act.put, List.setIfInBounds_toArray, List.set_cons_zero, List.set_cons_succ])
    | (go_outline; fail "take 1")
  first
    | (refine held_on 2 rfl (by kernel_rfl) (fun _ _ _ h => h) (by rfl) (by assumption) (v := ?_) ?_ ?_
       rotate_left
       · intro w hS; (try dsimp only at hS); first | (go_simp; done) | (go_simp; with_reducible rfl)
       try simp only [Act.put, List.setIfInBounds_toArray, List.set_cons_zero, List.set_cons_succ])
    | (refine held_off 2 rfl (by kernel_rfl) (fun _ _ _ h => h) (by rfl) (by assumption) ?_
       try simp only [Act.put, List.setIfInBounds_toArray, List.set_cons_zero, List.set_cons_succ])
    | (go_outline; fail "take 2")
  first
    | (refine held_on 3 rfl (by kernel_rfl) (fun _ _ _ h => h) (by rfl) (by assumption) (v := ?_) ?_ ?_
       rotate_left
       · intro w hS; (try dsimp only at hS); first | (go_simp; done) | (go_simp; with_reducible rfl)
       try simp only [Act.put, List.setIfInBounds_toArray, List.set_cons_zero, List.set_cons_succ])
    | (refine held_off 3 rfl (by kernel_rfl) (fun _ _ _ h => h) (by rfl) (by assumption) ?_
       try simp only [Act.put, List.setIfInBounds_toArray, List.set_cons_zero, List.set_cons_succ])
    | (go_outline; fail "take 3")
  refine held_load 4 rfl (by kernel_rfl) (fun _ _ _ h => h) (by rfl) (by assumption) rfl h2 ?_
  try simp only [Act.put, List.setIfInBounds_toArray, List.set_cons_zero, List.set_cons_succ]
  refine held_load 5 rfl (by kernel_rfl) (fun _ _ _ h => h) (by rfl) (by assumption) rfl h3 ?_
  try simp only [Act.put, List.setIfInBounds_toArray, List.set_cons_zero, List.set_cons_succ]
  refine wpAnyH_ready (rs := [6]) (by kernel_rfl) (by simp) (AllReadyH.cons rfl (fun K hK => ?_) AllReadyH.nil)
  rw [if_pos (by rfl)]
  obtain ⟨lit, hlit⟩ := key_lit hk
  refine wp_mapUpdate (k := 32) (e := 41) _ _ _ rfl keyedKey Try.underlying69 HS3.out.map.drew rfl k.val ({ c with place := p } : ChunkV).val lit hlit rfl rfl (fun w4 hm4 hu4 => ?_)
  have hu5 : Upd (fun x => x = m) W3 w4 := hu4.of_drew
  refine hK.out _ _ hu5 (fun hHeld => ?_)
  have HU5 := Lib.hid hu5; have HM4 := Lib.hid hm4
  clear hK K hHeld hu4 hu5 hm4
  refine wpAnyH_done (by kernel_rfl) ?_ _
  go_wp2_with fail
  go_ret
  obtain ⟨hck, hcm⟩ := getC_key hr
  have hm := HM4.out
  rw [← hck] at hm
  exact ⟨rfl, HS3.out.put (c := { c with place := p }) hg hm HU5.out, (HU3.out.mono (fun _ _ f => f.elim)).trans HU5.out (fun _ _ f => f)⟩
set_option maxHeartbeats 1000000 in
set_option maxRecDepth 20000 in
theorem add_some {w : World} {b m : Nat} {l : List ChunkV} {F : Nat → Prop} (h : StoreV w b m l F) {k : KeyV} (hk : k.Good) (p : PlaceV) {c : ChunkV} (hr : getC l k = some c) :
    Calls Try.prog 25 #[.pointer (some ⟨b, 0, none⟩), k.val, .agg p.cells.toArray] w fun e w' => e = .returned (.int .i64 3) ∧ Upd (fun _ => False) w w' := by
  have hkb : ((w.alloc (.cells k.cells.toArray 32)).alloc (.cells p.cells.toArray 34)).rangeAt w.heap.size 0 k.cells := World.rangeAt_alloc (w := w.alloc (.cells k.cells.toArray 32)) (by intro j v hv; simp [hv]) _
  have hu0 : Upd (fun _ => False) w ((w.alloc (.cells k.cells.toArray 32)).alloc (.cells p.cells.toArray 34)) := ((Upd.refl (fun _ => False) w).alloc _).alloc _
  have hS0 : StoreV ((w.alloc (.cells k.cells.toArray 32)).alloc (.cells p.cells.toArray 34)) b m l F := h.upd hu0 (fun _ _ f => f)
  have hpb : ((w.alloc (.cells k.cells.toArray 32)).alloc (.cells p.cells.toArray 34)).rangeAt (w.heap.size + 1) 0 p.cells := by rw [← size_alloc w (.cells k.cells.toArray 32)]; intro j v hv; simp [hv]
  have HP := Lib.hid hpb; clear hpb
  have hz : (w.heap.size + 1 < (((w.alloc (.cells k.cells.toArray 32)).alloc (.cells p.cells.toArray 34))).heap.size) := by rw [size_alloc, size_alloc]; omega
  have HH := Lib.hid h; have HK := Lib.hid hkb; have HS0 := Lib.hid hS0; have HU0 := Lib.hid hu0; clear h hkb hS0 hu0
  go_enter Try.func25, Try.ntmps25
  go_wp2_with fail
  refine wp_world fun W hW0 => ?_
  have hu : Upd (fun _ => False) w W := by rw [hW0]; exact HU0.out
  have hkb : W.rangeAt w.heap.size 0 k.cells := by rw [hW0]; exact HK.out
  have hpb : W.rangeAt (w.heap.size + 1) 0 p.cells := by rw [hW0]; exact HP.out
  have hws : w.heap.size + 1 < W.heap.size := by rw [hW0]; exact hz
  clear hW0 hz
  have hS := HH.out.upd hu (fun _ _ f => f)
  refine wp_region_held_drew (S := fun w' => Upd (fun _ => False) W w') rfl (Upd.refl _ W).drew (fun hHeld => ?_)
  have h1 : ∀ w', Upd (fun _ => False) W w' → w'.cell? ⟨b, 0, none⟩ = some (.map (some m)) := fun w' hw => hw.cell (cell_at hS.here 0) (fun f => f)
  have h2 : ∀ w', Upd (fun _ => False) W w' → (Instr.loadAt 32 (.pointer (some ⟨w.heap.size, 0, none⟩))).run Try.prog w' = .ok k.val w' := fun w' hw => run_loadAt_mid w' _ 0 32 k.cells _ (hw.range hkb (fun f => f)) Try.underlying32 rfl (by rw [KeyV.clen hk]; kernel_rfl)
  have h3 : ∀ w', Upd (fun _ => False) W w' → (Instr.lookup 69 (.map (some m)) k.val true).run Try.prog w' = .ok (.tuple #[c.val, .bool true]) w' := fun w' hw => by
    obtain ⟨lit, hlit⟩ := key_lit hk
    have hs := hS.upd hw (fun _ _ f => f)
    have := hs.map.look (t := 69) (c := true) keyedKey Try.underlying69 (z := zeroChunk.val) (by kernel_rfl) hlit
    rw [look_store hs.good hk, hr] at this
    simpa using this
  have hvl : (c).cells.length = 37 := ChunkV.clen (HH.out.good c (getC_key hr).2)
  have HS := Lib.hid hS; have HU := Lib.hid hu; have HKB := Lib.hid hkb; have HPB := Lib.hid hpb; have HWS := Lib.hid hws
  clear hS hu hkb hpb hws
  first
    | (refine held_on 0 rfl (by kernel_rfl) (fun _ _ _ h => h) (by rfl) (by assumption) (v := ?_) ?_ ?_
       rotate_left
       · intro w hS; (try dsimp only at hS); first | (go_simp; done) | (go_simp; with_reducible rfl)
       try simp only [Act.put, List.setIfInBounds_toArray, List.set_cons_zero, List.set_cons_succ])
    | (refine held_off 0 rfl (by kernel_rfl) (fun _ _ _ h => h) (by rfl) (by assumption) ?_
       try simp only [Act.put, List.setIfInBounds_toArray, List.set_cons_zero, List.set_cons_succ])
    | (go_outline; fail "take 0")
  first
    | (refine held_on 1 rfl (by kernel_rfl) (fun _ _ _ h => h) (by rfl) (by assumption) (v := ?_) ?_ ?_
       rotate_left
       · intro w hS; (try dsimp only at hS); first | (go_simp; done) | (go_simp; with_reducible rfl)
       try simp only [Act.put, List.setIfInBounds_toArray, List.set_cons_zero, List.set_cons_succ])
    | (refine held_off 1 rfl (by kernel_rfl) (fun _ _ _ h => h) (by rfl) (by assumption) ?_
       try simp only [Act.put, List.setIfInBounds_toArray, List.set_cons_zero, List.set_cons_succ])
    | (go_outline; fail "take 1")
  first
    | (refine held_on 2 rfl (by kernel_rfl) (fun _ _ _ h => h) (by rfl) (by assumption) (v := ?_) ?_ ?_
       rotate_left
       · intro w hS; (try dsimp only at hS); first | (go_simp; done) | (go_simp; with_reducible rfl)
       try simp only [Act.put, List.setIfInBounds_toArray, List.set_cons_zero, List.set_cons_succ])
    | (refine held_off 2 rfl (by kernel_rfl) (fun _ _ _ h => h) (by rfl) (by assumption) ?_
       try simp only [Act.put, List.setIfInBounds_toArray, List.set_cons_zero, List.set_cons_succ])
    | (go_outline; fail "take 2")
  first
    | (refine held_on 3 rfl (by kernel_rfl) (fun _ _ _ h => h) (by rfl) (by assumption) (v := ?_) ?_ ?_
       rotate_left
       · intro w hS; (try dsimp only at hS); first | (go_simp; done) | (go_simp; with_reducible rfl)
       try simp only [Act.put, List.setIfInBounds_toArray, List.set_cons_zero, List.set_cons_succ])
    | (refine held_off 3 rfl (by kernel_rfl) (fun _ _ _ h => h) (by rfl) (by assumption) ?_
       try simp only [Act.put, List.setIfInBounds_toArray, List.set_cons_zero, List.set_cons_succ])
    | (go_outline; fail "take 3")
  refine held_load 4 rfl (by kernel_rfl) (fun _ _ _ h => h) (by rfl) (by assumption) rfl h2 ?_
  try simp only [Act.put, List.setIfInBounds_toArray, List.set_cons_zero, List.set_cons_succ]
  refine held_lookup 5 rfl (by kernel_rfl) (fun _ _ _ h => h) (by rfl) (by assumption) rfl rfl h3 ?_
  try simp only [Act.put, List.setIfInBounds_toArray, List.set_cons_zero, List.set_cons_succ]
  first
    | (refine held_on 6 rfl (by kernel_rfl) (fun _ _ _ h => h) (by rfl) (by assumption) (v := ?_) ?_ ?_
       rotate_left
       · intro w hS; (try dsimp only at hS); first | (go_simp; done) | (go_simp; with_reducible rfl)
       try simp only [Act.put, List.setIfInBounds_toArray, List.set_cons_zero, List.set_cons_succ])
    | (refine held_off 6 rfl (by kernel_rfl) (fun _ _ _ h => h) (by rfl) (by assumption) ?_
       try simp only [Act.put, List.setIfInBounds_toArray, List.set_cons_zero, List.set_cons_succ])
    | (go_outline; fail "take 6")
  first
    | (refine held_on 7 rfl (by kernel_rfl) (fun _ _ _ h => h) (by rfl) (by assumption) (v := ?_) ?_ ?_
       rotate_left
       · intro w hS; (try dsimp only at hS); first | (go_simp; done) | (go_simp; with_reducible rfl)
       try simp only [Act.put, List.setIfInBounds_toArray, List.set_cons_zero, List.set_cons_succ])
    | (refine held_off 7 rfl (by kernel_rfl) (fun _ _ _ h => h) (by rfl) (by assumption) ?_
       try simp only [Act.put, List.setIfInBounds_toArray, List.set_cons_zero, List.set_cons_succ])
    | (go_outline; fail "take 7")
  first
    | (refine held_on 8 rfl (by kernel_rfl) (fun _ _ _ h => h) (by rfl) (by assumption) (v := ?_) ?_ ?_
       rotate_left
       · intro w hS; (try dsimp only at hS); first | (go_simp; done) | (go_simp; with_reducible rfl)
       try simp only [Act.put, List.setIfInBounds_toArray, List.set_cons_zero, List.set_cons_succ])
    | (refine held_off 8 rfl (by kernel_rfl) (fun _ _ _ h => h) (by rfl) (by assumption) ?_
       try simp only [Act.put, List.setIfInBounds_toArray, List.set_cons_zero, List.set_cons_succ])
    | (go_outline; fail "take 8")
  refine wpAnyH_ready (rs := [9]) (by kernel_rfl) (by simp) (AllReadyH.cons rfl (fun K hK => ?_) AllReadyH.nil)
  go_simp
  refine hK.out _ _ (hHeld.alloc _) (fun hHeld => ?_)
  clear hK K
  obtain ⟨W2, hW2⟩ : ∃ x, x = (W.alloc (.cells (List.replicate 32 (Value.int .u8 0) ++ (Value.int .u32 0 :: List.replicate 4 (Value.int .i64 0))).toArray 41)).drew := ⟨_, rfl⟩
  have h4 : W2.heap[W.heap.size]? = some (.cells (List.replicate 32 (Value.int .u8 0) ++ (Value.int .u32 0 :: List.replicate 4 (Value.int .i64 0))).toArray 41 (0, 0)) := by rw [hW2]; exact heap_alloc_drew W _
  have hn : W.heap.size < W2.heap.size := by rw [hW2]; exact size_alloc_drew W _
  simp only [List.replicate, List.cons_append, List.nil_append] at hW2
  rw [← hW2] at hHeld ⊢
  clear hW2
  refine wpAnyH_ready (rs := [10]) (by kernel_rfl) (by simp) (AllReadyH.cons rfl (fun K hK => ?_) AllReadyH.nil)
  rw [if_pos (by rfl)]
  have hth : W2.there W.heap.size 0 (c).cells.toArray.size := there_at h4 (by simp [hvl])
  refine wp_store_mid _ _ _ rfl W.heap.size 0 (c).cells.toArray rfl rfl hth (by simp only [List.size_toArray]; rw [hvl]; kernel_rfl) (all_oneCell_toArray ChunkV.one) ?_
  refine hK.out _ _ (Upd.setCells (S := fun _ => False) (fun hg => ?_) _ _ hHeld) (fun hHeld => ?_)
  · omega
  clear hK K
  obtain ⟨W3, hW3⟩ : ∃ x, x = W2.setCells W.heap.size 0 (c).cells := ⟨_, rfl⟩
  rw [← hW3] at hHeld ⊢
  clear hW3 hth h4 hn
  first
    | (refine held_on 11 rfl (by kernel_rfl) (fun _ _ _ h => h) (by rfl) (by assumption) (v := ?_) ?_ ?_
       rotate_left
       · intro w hS; (try dsimp only at hS); first | (go_simp; done) | (go_simp; with_reducible rfl)
       try simp only [Act.put, List.setIfInBounds_toArray, List.set_cons_zero, List.set_cons_succ])
    | (refine held_off 11 rfl (by kernel_rfl) (fun _ _ _ h => h) (by rfl) (by assumption) ?_
       try simp only [Act.put, List.setIfInBounds_toArray, List.set_cons_zero, List.set_cons_succ])
    | (go_outline; fail "take 11")
  refine wpAnyH_done (by kernel_rfl) ?_ _
  have HHE := Lib.hid hHeld
  clear h1 h2 h3 hHeld
  go_wp2_with fail
  go_ret
  exact ⟨rfl, HU.out.trans HHE.out (fun _ _ f => f)⟩
set_option maxHeartbeats 1000000 in
set_option maxRecDepth 20000 in
theorem add_none {w : World} {b m : Nat} {l : List ChunkV} {F : Nat → Prop} (h : StoreV w b m l F) {k : KeyV} (hk : k.Good) (p : PlaceV) (hr : getC l k = none) :
    Calls Try.prog 25 #[.pointer (some ⟨b, 0, none⟩), k.val, .agg p.cells.toArray] w fun e w' => e = .returned (.int .i64 0) ∧ StoreV w' b m (l ++ [⟨k, p, 1⟩]) F ∧ Upd (· = m) w w' := by
  have hkb : ((w.alloc (.cells k.cells.toArray 32)).alloc (.cells p.cells.toArray 34)).rangeAt w.heap.size 0 k.cells := World.rangeAt_alloc (w := w.alloc (.cells k.cells.toArray 32)) (by intro j v hv; simp [hv]) _
  have hu0 : Upd (fun _ => False) w ((w.alloc (.cells k.cells.toArray 32)).alloc (.cells p.cells.toArray 34)) := ((Upd.refl (fun _ => False) w).alloc _).alloc _
  have hS0 : StoreV ((w.alloc (.cells k.cells.toArray 32)).alloc (.cells p.cells.toArray 34)) b m l F := h.upd hu0 (fun _ _ f => f)
  have hpb : ((w.alloc (.cells k.cells.toArray 32)).alloc (.cells p.cells.toArray 34)).rangeAt (w.heap.size + 1) 0 p.cells := by rw [← size_alloc w (.cells k.cells.toArray 32)]; intro j v hv; simp [hv]
  have HP := Lib.hid hpb; clear hpb
  have hz : (w.heap.size + 1 < (((w.alloc (.cells k.cells.toArray 32)).alloc (.cells p.cells.toArray 34))).heap.size) := by rw [size_alloc, size_alloc]; omega
  have HH := Lib.hid h; have HK := Lib.hid hkb; have HS0 := Lib.hid hS0; have HU0 := Lib.hid hu0; clear h hkb hS0 hu0
  go_enter Try.func25, Try.ntmps25
  go_wp2_with fail
  refine wp_world fun W hW0 => ?_
  have hu : Upd (fun _ => False) w W := by rw [hW0]; exact HU0.out
  have hkb : W.rangeAt w.heap.size 0 k.cells := by rw [hW0]; exact HK.out
  have hpb : W.rangeAt (w.heap.size + 1) 0 p.cells := by rw [hW0]; exact HP.out
  have hws : w.heap.size + 1 < W.heap.size := by rw [hW0]; exact hz
  clear hW0 hz
  have hS := HH.out.upd hu (fun _ _ f => f)
  refine wp_region_held_drew (S := fun w' => Upd (fun _ => False) W w') rfl (Upd.refl _ W).drew (fun hHeld => ?_)
  have h1 : ∀ w', Upd (fun _ => False) W w' → w'.cell? ⟨b, 0, none⟩ = some (.map (some m)) := fun w' hw => hw.cell (cell_at hS.here 0) (fun f => f)
  have h2 : ∀ w', Upd (fun _ => False) W w' → (Instr.loadAt 32 (.pointer (some ⟨w.heap.size, 0, none⟩))).run Try.prog w' = .ok k.val w' := fun w' hw => run_loadAt_mid w' _ 0 32 k.cells _ (hw.range hkb (fun f => f)) Try.underlying32 rfl (by rw [KeyV.clen hk]; kernel_rfl)
  have h3 : ∀ w', Upd (fun _ => False) W w' → (Instr.lookup 69 (.map (some m)) k.val true).run Try.prog w' = .ok (.tuple #[zeroChunk.val, .bool false]) w' := fun w' hw => by
    obtain ⟨lit, hlit⟩ := key_lit hk
    have hs := hS.upd hw (fun _ _ f => f)
    have := hs.map.look (t := 69) (c := true) keyedKey Try.underlying69 (z := zeroChunk.val) (by kernel_rfl) hlit
    rw [look_store hs.good hk, hr] at this
    simpa using this
  have hvl : (zeroChunk).cells.length = 37 := ChunkV.clen zeroKey_good
  have HS := Lib.hid hS; have HU := Lib.hid hu; have HKB := Lib.hid hkb; have HPB := Lib.hid hpb; have HWS := Lib.hid hws
  clear hS hu hkb hpb hws
  first
    | (refine held_on 0 rfl (by kernel_rfl) (fun _ _ _ h => h) (by rfl) (by assumption) (v := ?_) ?_ ?_
       rotate_left
       · intro w hS; (try dsimp only at hS); first | (go_simp; done) | (go_simp; with_reducible rfl)
       try simp only [Act.put, List.setIfInBounds_toArray, List.set_cons_zero, List.set_cons_succ])
    | (refine held_off 0 rfl (by kernel_rfl) (fun _ _ _ h => h) (by rfl) (by assumption) ?_
       try simp only [Act.put, List.setIfInBounds_toArray, List.set_cons_zero, List.set_cons_succ])
    | (go_outline; fail "take 0")
  first
    | (refine held_on 1 rfl (by kernel_rfl) (fun _ _ _ h => h) (by rfl) (by assumption) (v := ?_) ?_ ?_
       rotate_left
       · intro w hS; (try dsimp only at hS); first | (go_simp; done) | (go_simp; with_reducible rfl)
       try simp only [Act.put, List.setIfInBounds_toArray, List.set_cons_zero, List.set_cons_succ])
    | (refine held_off 1 rfl (by kernel_rfl) (fun _ _ _ h => h) (by rfl) (by assumption) ?_
       try simp only [Act.put, List.setIfInBounds_toArray, List.set_cons_zero, List.set_cons_succ])
    | (go_outline; fail "take 1")
  first
    | (refine held_on 2 rfl (by kernel_rfl) (fun _ _ _ h => h) (by rfl) (by assumption) (v := ?_) ?_ ?_
       rotate_left
       · intro w hS; (try dsimp only at hS); first | (go_simp; done) | (go_simp; with_reducible rfl)
       try simp only [Act.put, List.setIfInBounds_toArray, List.set_cons_zero, List.set_cons_succ])
    | (refine held_off 2 rfl (by kernel_rfl) (fun _ _ _ h => h) (by rfl) (by assumption) ?_
       try simp only [Act.put, List.setIfInBounds_toArray, List.set_cons_zero, List.set_cons_succ])
    | (go_outline; fail "take 2")
  first
    | (refine held_on 3 rfl (by kernel_rfl) (fun _ _ _ h => h) (by rfl) (by assumption) (v := ?_) ?_ ?_
       rotate_left
       · intro w hS; (try dsimp only at hS); first | (go_simp; done) | (go_simp; with_reducible rfl)
       try simp only [Act.put, List.setIfInBounds_toArray, List.set_cons_zero, List.set_cons_succ])
    | (refine held_off 3 rfl (by kernel_rfl) (fun _ _ _ h => h) (by rfl) (by assumption) ?_
       try simp only [Act.put, List.setIfInBounds_toArray, List.set_cons_zero, List.set_cons_succ])
    | (go_outline; fail "take 3")
  refine held_load 4 rfl (by kernel_rfl) (fun _ _ _ h => h) (by rfl) (by assumption) rfl h2 ?_
  try simp only [Act.put, List.setIfInBounds_toArray, List.set_cons_zero, List.set_cons_succ]
  refine held_lookup 5 rfl (by kernel_rfl) (fun _ _ _ h => h) (by rfl) (by assumption) rfl rfl h3 ?_
  try simp only [Act.put, List.setIfInBounds_toArray, List.set_cons_zero, List.set_cons_succ]
  first
    | (refine held_on 6 rfl (by kernel_rfl) (fun _ _ _ h => h) (by rfl) (by assumption) (v := ?_) ?_ ?_
       rotate_left
       · intro w hS; (try dsimp only at hS); first | (go_simp; done) | (go_simp; with_reducible rfl)
       try simp only [Act.put, List.setIfInBounds_toArray, List.set_cons_zero, List.set_cons_succ])
    | (refine held_off 6 rfl (by kernel_rfl) (fun _ _ _ h => h) (by rfl) (by assumption) ?_
       try simp only [Act.put, List.setIfInBounds_toArray, List.set_cons_zero, List.set_cons_succ])
    | (go_outline; fail "take 6")
  first
    | (refine held_on 7 rfl (by kernel_rfl) (fun _ _ _ h => h) (by rfl) (by assumption) (v := ?_) ?_ ?_
       rotate_left
       · intro w hS; (try dsimp only at hS); first | (go_simp; done) | (go_simp; with_reducible rfl)
       try simp only [Act.put, List.setIfInBounds_toArray, List.set_cons_zero, List.set_cons_succ])
    | (refine held_off 7 rfl (by kernel_rfl) (fun _ _ _ h => h) (by rfl) (by assumption) ?_
       try simp only [Act.put, List.setIfInBounds_toArray, List.set_cons_zero, List.set_cons_succ])
    | (go_outline; fail "take 7")
  first
    | (refine held_on 8 rfl (by kernel_rfl) (fun _ _ _ h => h) (by rfl) (by assumption) (v := ?_) ?_ ?_
       rotate_left
       · intro w hS; (try dsimp only at hS); first | (go_simp; done) | (go_simp; with_reducible rfl)
       try simp only [Act.put, List.setIfInBounds_toArray, List.set_cons_zero, List.set_cons_succ])
    | (refine held_off 8 rfl (by kernel_rfl) (fun _ _ _ h => h) (by rfl) (by assumption) ?_
       try simp only [Act.put, List.setIfInBounds_toArray, List.set_cons_zero, List.set_cons_succ])
    | (go_outline; fail "take 8")
  refine wpAnyH_ready (rs := [9]) (by kernel_rfl) (by simp) (AllReadyH.cons rfl (fun K hK => ?_) AllReadyH.nil)
  go_simp
  refine hK.out _ _ (hHeld.alloc _) (fun hHeld => ?_)
  clear hK K
  obtain ⟨W2, hW2⟩ : ∃ x, x = (W.alloc (.cells (List.replicate 32 (Value.int .u8 0) ++ (Value.int .u32 0 :: List.replicate 4 (Value.int .i64 0))).toArray 41)).drew := ⟨_, rfl⟩
  have h4 : W2.heap[W.heap.size]? = some (.cells (List.replicate 32 (Value.int .u8 0) ++ (Value.int .u32 0 :: List.replicate 4 (Value.int .i64 0))).toArray 41 (0, 0)) := by rw [hW2]; exact heap_alloc_drew W _
  have hn : W.heap.size < W2.heap.size := by rw [hW2]; exact size_alloc_drew W _
  simp only [List.replicate, List.cons_append, List.nil_append] at hW2
  rw [← hW2] at hHeld ⊢
  clear hW2
  refine wpAnyH_ready (rs := [10]) (by kernel_rfl) (by simp) (AllReadyH.cons rfl (fun K hK => ?_) AllReadyH.nil)
  rw [if_pos (by rfl)]
  have hth : W2.there W.heap.size 0 (zeroChunk).cells.toArray.size := there_at h4 (by simp [hvl])
  refine wp_store_mid _ _ _ rfl W.heap.size 0 (zeroChunk).cells.toArray rfl rfl hth (by simp only [List.size_toArray]; rw [hvl]; kernel_rfl) (all_oneCell_toArray ChunkV.one) ?_
  refine hK.out _ _ (Upd.setCells (S := fun _ => False) (fun hg => ?_) _ _ hHeld) (fun hHeld => ?_)
  · omega
  clear hK K
  obtain ⟨W3, hW3⟩ : ∃ x, x = W2.setCells W.heap.size 0 (zeroChunk).cells := ⟨_, rfl⟩
  rw [← hW3] at hHeld ⊢
  clear hW3 hth h4 hn
  first
    | (refine held_on 11 rfl (by kernel_rfl) (fun _ _ _ h => h) (by rfl) (by assumption) (v := ?_) ?_ ?_
       rotate_left
       · intro w hS; (try dsimp only at hS); first | (go_simp; done) | (go_simp; with_reducible rfl)
       try simp only [Act.put, List.setIfInBounds_toArray, List.set_cons_zero, List.set_cons_succ])
    | (refine held_off 11 rfl (by kernel_rfl) (fun _ _ _ h => h) (by rfl) (by assumption) ?_
       try simp only [Act.put, List.setIfInBounds_toArray, List.set_cons_zero, List.set_cons_succ])
    | (go_outline; fail "take 11")
  refine wpAnyH_done (by kernel_rfl) ?_ _
  have HHE := Lib.hid hHeld
  clear h1 h2 h3 hHeld
  go_wp2_with fail
  have hS3 := HS.out.upd HHE.out (fun _ _ f => f)
  have hmb : b ≠ m := HH.out.self.2.2
  have hmw := HH.out.lt m HH.out.self.2.1
  have hk3 := HHE.out.range HKB.out (fun f => f)
  have hp3 := HHE.out.range HPB.out (fun f => f)
  have hd : (⟨k, p, 1⟩ : ChunkV).key.Good := hk
  refine wp_region_held_drew (S := fun w' => Upd (fun x => x = m) W3 w') rfl (Upd.refl _ W3).drew (fun hHeld => ?_)
  have h1 : ∀ w', Upd (fun x => x = m) W3 w' → w'.cell? ⟨b, 0, none⟩ = some (.map (some m)) := fun w' hw => hw.cell (cell_at hS3.here 0) hmb
  have h2 : ∀ w', Upd (fun x => x = m) W3 w' → (Instr.loadAt 32 (.pointer (some ⟨w.heap.size, 0, none⟩))).run Try.prog w' = .ok k.val w' := fun w' hw => run_loadAt_mid w' _ 0 32 k.cells _ (hw.range hk3 (fun f => by omega)) Try.underlying32 rfl (by rw [KeyV.clen hk]; kernel_rfl)
  have h3 : ∀ w', Upd (fun x => x = m) W3 w' → (Instr.loadAt 34 (.pointer (some ⟨w.heap.size + 1, 0, none⟩))).run Try.prog w' = .ok (.agg p.cells.toArray) w' := fun w' hw => run_loadAt_mid w' _ 0 34 p.cells _ (hw.range hp3 (fun f => by omega)) Try.underlying34 rfl (by show _ = some 3; kernel_rfl)
  have HS3 := Lib.hid hS3
  clear hS3 hk3 hp3 hmw
  first
    | (refine held_on 0 rfl (by kernel_rfl) (fun _ _ _ h => h) (by rfl) (by assumption) (v := ?_) ?_ ?_
       rotate_left
       · intro w hS; (try dsimp only at hS); first | (go_simp; done) | (go_simp; with_reducible rfl)
       try simp only [Act.put, List.setIfInBounds_toArray, List.set_cons_zero, List.set_cons_succ])
    | (refine held_off 0 rfl (by kernel_rfl) (fun _ _ _ h => h) (by rfl) (by assumption) ?_
       try simp only [Act.put, List.setIfInBounds_toArray, List.set_cons_zero, List.set_cons_succ])
    | (go_outline; fail "take 0")
  first
    | (refine held_on 1 rfl (by kernel_rfl) (fun _ _ _ h => h) (by rfl) (by assumption) (v := ?_) ?_ ?_
       rotate_left
       · intro w hS; (try dsimp only at hS); first | (go_simp; done) | (go_simp; with_reducible rfl)
       try simp only [Act.put, List.setIfInBounds_toArray, List.set_cons_zero, List.set_cons_succ])
    | (refine held_off 1 rfl (by kernel_rfl) (fun _ _ _ h => h) (by rfl) (by assumption) ?_
       try simp only [Act.put, List.setIfInBounds_toArray, List.set_cons_zero, List.set_cons_succ])
    | (go_outline; fail "take 1")
  first
    | (refine held_on 2 rfl (by kernel_rfl) (fun _ _ _ h => h) (by rfl) (by assumption) (v := ?_) ?_ ?_
       rotate_left
       · intro w hS; (try dsimp only at hS); first | (go_simp; done) | (go_simp; with_reducible rfl)
       try simp only [Act.put, List.setIfInBounds_toArray, List.set_cons_zero, List.set_cons_succ])
    | (refine held_off 2 rfl (by kernel_rfl) (fun _ _ _ h => h) (by rfl) (by assumption) ?_
       try simp only [Act.put, List.setIfInBounds_toArray, List.set_cons_zero, List.set_cons_succ])
    | (go_outline; fail "take 2")
  first
    | (refine held_on 3 rfl (by kernel_rfl) (fun _ _ _ h => h) (by rfl) (by assumption) (v := ?_) ?_ ?_
       rotate_left
       · intro w hS; (try dsimp only at hS); first | (go_simp; done) | (go_simp; with_reducible rfl)
       try simp only [Act.put, List.setIfInBounds_toArray, List.set_cons_zero, List.set_cons_succ])
    | (refine held_off 3 rfl (by kernel_rfl) (fun _ _ _ h => h) (by rfl) (by assumption) ?_
       try simp only [Act.put, List.setIfInBounds_toArray, List.set_cons_zero, List.set_cons_succ])
    | (go_outline; fail "take 3")
  refine held_load 4 rfl (by kernel_rfl) (fun _ _ _ h => h) (by rfl) (by assumption) rfl h2 ?_
  try simp only [Act.put, List.setIfInBounds_toArray, List.set_cons_zero, List.set_cons_succ]
  refine held_load 5 rfl (by kernel_rfl) (fun _ _ _ h => h) (by rfl) (by assumption) rfl h2 ?_
  try simp only [Act.put, List.setIfInBounds_toArray, List.set_cons_zero, List.set_cons_succ]
  refine held_load 6 rfl (by kernel_rfl) (fun _ _ _ h => h) (by rfl) (by assumption) rfl h3 ?_
  try simp only [Act.put, List.setIfInBounds_toArray, List.set_cons_zero, List.set_cons_succ]
  refine held_build 7 rfl (by kernel_rfl) (fun _ _ _ h => h) (by rfl) (by assumption) (vs := #[(0, k.val), (1, .agg p.cells.toArray), (2, .int .i64 1)]) (by simp only [List.map_toArray, List.map_cons, List.map_nil]; rfl) (built_chunk ⟨k, p, 1⟩ hd) ?_
  try simp only [Act.put, List.setIfInBounds_toArray, List.set_cons_zero, List.set_cons_succ]
  refine wpAnyH_ready (rs := [8]) (by kernel_rfl) (by simp) (AllReadyH.cons rfl (fun K hK => ?_) AllReadyH.nil)
  rw [if_pos (by rfl)]
  obtain ⟨lit, hlit⟩ := key_lit hk
  refine wp_mapUpdate (k := 32) (e := 41) _ _ _ rfl keyedKey Try.underlying69 HS3.out.map.drew rfl k.val (⟨k, p, 1⟩ : ChunkV).val lit hlit rfl rfl (fun w4 hm4 hu4 => ?_)
  have hu5 : Upd (fun x => x = m) W3 w4 := hu4.of_drew
  refine hK.out _ _ hu5 (fun hHeld => ?_)
  have HU5 := Lib.hid hu5; have HM4 := Lib.hid hm4
  clear hK K hHeld hu4 hu5 hm4
  refine wpAnyH_done (by kernel_rfl) ?_ _
  go_wp2_with fail
  go_ret
  have hput := HS3.out.put (c := ⟨k, p, 1⟩) hd HM4.out HU5.out
  unfold putC at hput
  rw [show getC l (⟨k, p, 1⟩ : ChunkV).key = none from hr] at hput
  exact ⟨rfl, hput, ((HU.out.trans HHE.out (fun _ _ f => f)).mono (fun _ _ f => f.elim)).trans HU5.out (fun _ _ f => f)⟩
set_option maxHeartbeats 400000 in
theorem new_calls (w : World) : Calls Try.prog 11 #[] w fun e w' => ∃ b m, e = .returned (.pointer (some ⟨b, 0, none⟩)) ∧ StoreV w' b m [] (fresh w w') ∧ Upd (fun _ => False) w w' := by
  have hmm := @run_makeMap Try.prog
  go_enter Try.func11, Try.ntmps11
  go_wp2_with fail
  go_ret
  refine ⟨w.heap.size + 1, w.heap.size, rfl, ⟨heap_alloc2 w _ _, ?_, fun c hc => by simp at hc, ⟨⟨?_, ?_⟩, ⟨?_, ?_⟩, ?_⟩, fun k hk => hk.2⟩, ((Upd.refl _ w).alloc _).alloc _⟩
  · exact (MapAt.made w Try.prog 32).upd (S := fun _ => False) ((Upd.refl _ _).alloc _) (fun f => f)
  · omega
  · rw [size_alloc, size_alloc]; omega
  · omega
  · rw [size_alloc, size_alloc]; omega
  · omega
end Go.Proofs.Ytpjdfnilhhknkaa
