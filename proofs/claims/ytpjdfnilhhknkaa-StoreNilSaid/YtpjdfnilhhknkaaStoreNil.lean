/- What this text proves: StoreNil: whatever the input the law returns true and the input reads as it did. No conditions. -/
import Derived.Test.YtpjdfnilhhknkaaStoreActs
namespace Go.Proofs.Ytpjdfnilhhknkaa.storeNil
open Go Go.ChangeShapes Go.WideShapes Go.ChangeAt Go.RowKit
open Go.Proofs Go.Proofs.Ytpjdfnilhhknkaa
set_option linter.unusedVariables false
set_option linter.unusedSimpArgs false
set_option linter.unusedVariables false

theorem some_nil (w : World) (fn : Fn) (x y : Array Value) (g : Value) : Calls Try.prog 28 #[.pointer none, .func fn x y, g] w fun e w' => e = .returned (.slice none 0 0) ∧ Upd (fun _ => False) w w' := by
  go_enter Try.func28, Try.ntmps28
  go_wp2_with fail
  go_ret
  exact ⟨rfl, (Upd.refl _ w).alloc _⟩
theorem all_nil (w : World) : Calls Try.prog 15 #[.pointer none] w fun e w' => e = .returned (.slice none 0 0) ∧ Upd (fun _ => False) w w' := by
  go_enter Try.func15, Try.ntmps15
  go_wp2_with fail
  refine (some_nil _ _ _ _ _).mono ?_
  rintro e w1 ⟨rfl, hu1⟩
  go_wp2_with fail
  go_ret
  exact ⟨rfl, hu1⟩
theorem twins_nil (w : World) (cs : Array Value) : Calls Try.prog 22 #[.pointer none, .agg cs] w fun e w' => e = .returned (.slice none 0 0) ∧ Upd (fun _ => False) w w' := by
  go_enter Try.func22, Try.ntmps22
  go_wp2_with fail
  refine (some_nil _ _ _ _ _).mono ?_
  rintro e w1 ⟨rfl, hu1⟩
  have HU1 := Lib.hid hu1; clear hu1
  go_wp2_with fail
  go_ret
  exact ⟨rfl, ((Upd.refl _ w).alloc _).trans HU1.out (fun _ _ f => f)⟩
set_option maxHeartbeats 1000000 in
theorem live_nil (w : World) (n : Int) : Calls Try.prog 21 #[.pointer none, .int .i64 n] w fun e w' => e = .returned (.tuple #[.slice none 0 0, .int .i64 0]) ∧ Upd (fun _ => False) w w' := by
  go_enter Try.func21, Try.ntmps21
  go_wp2_with fail
  refine (some_nil _ _ _ _ _).mono ?_
  rintro e w1 ⟨rfl, hu1⟩
  have HU1 := Lib.hid hu1; clear hu1
  go_wp2_with fail
  go_loopg [7, 15] 0 (fun _ n i wr => n = .int .i64 0 ∧ i = .int .i64 0 ∧ wr = w1)
  case atStart => exact ⟨rfl, rfl, rfl⟩
  case round =>
    obtain ⟨rfl, rfl, rfl⟩ := hrel
    go_wp2_with fail
    go_ret2
    exact ⟨rfl, ((Upd.refl _ w).alloc _).trans HU1.out (fun _ _ f => f)⟩
theorem built_zero : Try.prog.built 41 [] = some zeroChunk.cells.toArray := by kernel_rfl
theorem zero_len : zeroChunk.cells.length = 37 := ChunkV.clen zeroKey_good
set_option maxHeartbeats 1000000 in
set_option maxRecDepth 20000 in
theorem get_nil (w : World) (k : KeyV) : Calls Try.prog 14 #[.pointer none, k.val] w fun e w' => e = .returned (.tuple #[zeroChunk.val, .bool false]) ∧ Upd (fun _ => False) w w' := by
  have hzl := zero_len
  go_enter Try.func14, Try.ntmps14
  go_wp2_with (first
    | ((with_reducible change wpList _ _ _ (⟨_, Op.build _ _, _, _, _, _⟩ :: _) _ _); refine wpl_build rfl 41 _ rfl #[] (by rfl) zeroChunk.cells.toArray built_zero ?_)
    | ((with_reducible change wpList _ _ _ (⟨_, Op.store _ _ _, _, _, _, _⟩ :: _) _ _); refine wpList_store_mid rfl _ _ _ rfl (w.heap.size + 1) 0 zeroChunk.cells.toArray rfl rfl (there_at (heap_alloc2 w _ _) (by rw [List.size_toArray, hzl]; exact Nat.le_refl _)) (by rw [List.size_toArray, hzl]; kernel_rfl) (all_oneCell_toArray ChunkV.one) ?_
       refine wpList_world fun W2 hW2 => ?_
       have h4 : W2.heap[w.heap.size + 1]? = some (.cells zeroChunk.cells.toArray 41 (0, 0)) := by rw [hW2]; exact at_setAll (heap_alloc2 w _ _) (by rw [hzl]; rfl)
       have hu2 : Upd (fun _ => False) w W2 := by rw [hW2]; exact Upd.setCells (S := fun _ => False) (fun hg => absurd hg (by omega)) _ _ (((Upd.refl _ w).alloc _).alloc _)
       have hr2 : W2.rangeAt (w.heap.size + 1) 0 zeroChunk.cells := range_at h4 (fun j v hv => by simpa using hv)
       have HR2 := Lib.hid hr2; have HU2 := Lib.hid hu2
       clear h4 hu2 hr2 hW2))
  try simp only [Exit.inBlock, Exit.then]
  exact bodyPost_ret (results_cell_tmp rfl rfl zeroChunk.cells _ HR2.out Try.underlying41 rfl (by rw [hzl]; kernel_rfl)) rfl ⟨rfl, HU2.out⟩
theorem add_nil (w : World) (k : KeyV) (p : PlaceV) : Calls Try.prog 25 #[.pointer none, k.val, .agg p.cells.toArray] w fun e w' => e = .returned (.int .i64 2) ∧ Upd (fun _ => False) w w' := by
  go_enter Try.func25, Try.ntmps25
  go_wp2_with fail
  go_ret
  exact ⟨rfl, ((Upd.refl _ w).alloc _).alloc _⟩
set_option maxHeartbeats 1000000 in
set_option maxRecDepth 20000 in
theorem ref_nil (w : World) (k : KeyV) (hk : k.Good) : Calls Try.prog 26 #[.pointer none, k.val] w fun e w' => e = .returned (.int .i64 2) ∧ Upd (fun _ => False) w w' := by
  have hkb : (w.alloc (.cells k.cells.toArray 32)).rangeAt w.heap.size 0 k.cells := by intro j v hv; simp [hv]
  have hu0 : Upd (fun _ => False) w (w.alloc (.cells k.cells.toArray 32)) := (Upd.refl (fun _ => False) w).alloc _
  have hvl := zero_len
  have HK := Lib.hid hkb; have HU0 := Lib.hid hu0; clear hkb hu0
  go_enter Try.func26, Try.ntmps26
  go_wp2_with (first
    | ((with_reducible change wpList _ _ _ (⟨_, Op.load _ _, _, _, _, _⟩ :: _) _ _); refine wpList_load_mid rfl _ _ rfl w.heap.size 0 rfl k.cells _ HK.out Try.underlying32 rfl (by rw [KeyV.clen hk]; kernel_rfl) ?_))
  refine (get_nil _ k).mono ?_
  rintro e w1 ⟨rfl, hu1⟩
  have HU1 := Lib.hid hu1; clear hu1
  go_wp2_with (first
    | ((with_reducible change wpList _ _ _ (⟨_, Op.store _ _ _, _, _, _, _⟩ :: _) _ _); refine wpList_store_mid rfl _ _ _ rfl w1.heap.size 0 zeroChunk.cells.toArray rfl rfl (there_new w1 _ _ (by rw [List.size_toArray, hvl]; exact Nat.le_refl _)) (by simp only [List.size_toArray]; rw [hvl]; kernel_rfl) (all_oneCell_toArray ChunkV.one) ?_
       refine wpList_world fun W2 hW2 => ?_
       have hu2 : Upd (fun _ => False) w1 W2 := by rw [hW2]; exact Upd.setCells (S := fun _ => False) (fun hg => absurd hg (Nat.lt_irrefl _)) _ _ ((Upd.refl _ w1).alloc _)
       have HU2 := Lib.hid hu2
       clear hu2 hW2))
  go_ret
  exact ⟨rfl, (HU0.out.trans HU1.out (fun _ _ f => f)).trans HU2.out (fun _ _ f => f)⟩
set_option maxHeartbeats 1000000 in
set_option maxRecDepth 20000 in
theorem unref_nil (w : World) (k : KeyV) (hk : k.Good) : Calls Try.prog 27 #[.pointer none, k.val] w fun e w' => e = .returned (.tuple #[.bool false, .int .i64 2]) ∧ Upd (fun _ => False) w w' := by
  have hkb : (w.alloc (.cells k.cells.toArray 32)).rangeAt w.heap.size 0 k.cells := by intro j v hv; simp [hv]
  have hu0 : Upd (fun _ => False) w (w.alloc (.cells k.cells.toArray 32)) := (Upd.refl (fun _ => False) w).alloc _
  have hvl := zero_len
  have HK := Lib.hid hkb; have HU0 := Lib.hid hu0; clear hkb hu0
  go_enter Try.func27, Try.ntmps27
  go_wp2_with (first
    | ((with_reducible change wpList _ _ _ (⟨_, Op.load _ _, _, _, _, _⟩ :: _) _ _); refine wpList_load_mid rfl _ _ rfl w.heap.size 0 rfl k.cells _ HK.out Try.underlying32 rfl (by rw [KeyV.clen hk]; kernel_rfl) ?_))
  refine (get_nil _ k).mono ?_
  rintro e w1 ⟨rfl, hu1⟩
  have HU1 := Lib.hid hu1; clear hu1
  go_wp2_with (first
    | ((with_reducible change wpList _ _ _ (⟨_, Op.store _ _ _, _, _, _, _⟩ :: _) _ _); refine wpList_store_mid rfl _ _ _ rfl w1.heap.size 0 zeroChunk.cells.toArray rfl rfl (there_new w1 _ _ (by rw [List.size_toArray, hvl]; exact Nat.le_refl _)) (by simp only [List.size_toArray]; rw [hvl]; kernel_rfl) (all_oneCell_toArray ChunkV.one) ?_
       refine wpList_world fun W2 hW2 => ?_
       have hu2 : Upd (fun _ => False) w1 W2 := by rw [hW2]; exact Upd.setCells (S := fun _ => False) (fun hg => absurd hg (Nat.lt_irrefl _)) _ _ ((Upd.refl _ w1).alloc _)
       have HU2 := Lib.hid hu2
       clear hu2 hW2))
  go_ret2
  exact ⟨rfl, (HU0.out.trans HU1.out (fun _ _ f => f)).trans HU2.out (fun _ _ f => f)⟩
set_option maxHeartbeats 1000000 in
set_option maxRecDepth 20000 in
theorem move_nil (w : World) (k : KeyV) (hk : k.Good) (p : PlaceV) : Calls Try.prog 16 #[.pointer none, k.val, .agg p.cells.toArray] w fun e w' => e = .returned (.int .i64 2) ∧ Upd (fun _ => False) w w' := by
  have hkb : ((w.alloc (.cells k.cells.toArray 32)).alloc (.cells p.cells.toArray 34)).rangeAt w.heap.size 0 k.cells := World.rangeAt_alloc (w := w.alloc (.cells k.cells.toArray 32)) (by intro j v hv; simp [hv]) _
  have hu0 : Upd (fun _ => False) w ((w.alloc (.cells k.cells.toArray 32)).alloc (.cells p.cells.toArray 34)) := ((Upd.refl (fun _ => False) w).alloc _).alloc _
  have hvl := zero_len
  have HK := Lib.hid hkb; have HU0 := Lib.hid hu0; clear hkb hu0
  go_enter Try.func16, Try.ntmps16
  go_wp2_with (first
    | ((with_reducible change wpList _ _ _ (⟨_, Op.load _ _, _, _, _, _⟩ :: _) _ _); refine wpList_load_mid rfl _ _ rfl w.heap.size 0 rfl k.cells _ HK.out Try.underlying32 rfl (by rw [KeyV.clen hk]; kernel_rfl) ?_))
  refine (get_nil _ k).mono ?_
  rintro e w1 ⟨rfl, hu1⟩
  have HU1 := Lib.hid hu1; clear hu1
  go_wp2_with (first
    | ((with_reducible change wpList _ _ _ (⟨_, Op.store _ _ _, _, _, _, _⟩ :: _) _ _); refine wpList_store_mid rfl _ _ _ rfl w1.heap.size 0 zeroChunk.cells.toArray rfl rfl (there_new w1 _ _ (by rw [List.size_toArray, hvl]; exact Nat.le_refl _)) (by simp only [List.size_toArray]; rw [hvl]; kernel_rfl) (all_oneCell_toArray ChunkV.one) ?_
       refine wpList_world fun W2 hW2 => ?_
       have hu2 : Upd (fun _ => False) w1 W2 := by rw [hW2]; exact Upd.setCells (S := fun _ => False) (fun hg => absurd hg (Nat.lt_irrefl _)) _ _ ((Upd.refl _ w1).alloc _)
       have HU2 := Lib.hid hu2
       clear hu2 hW2))
  go_ret
  exact ⟨rfl, (HU0.out.trans HU1.out (fun _ _ f => f)).trans HU2.out (fun _ _ f => f)⟩
set_option maxHeartbeats 1000000 in
theorem does_nil (w : World) {a : ActV} (ha : a.Good) : Calls Try.prog 13 #[.pointer none, a.val] w fun e w' => e = .returned (.tuple #[.bool false, .int .i64 2]) ∧ Upd (fun _ => False) w w' := by
  have hk0 := wf_u8 ha.kind
  have hal := (Upd.refl (fun _ => False) w).alloc (.cells a.cells.toArray 36)
  have hr0 : (w.alloc (.cells a.cells.toArray 36)).rangeAt w.heap.size 0 a.cells := by intro j v hv; simp [hv]
  have HK := Lib.hid (ActV.keyAt ha hr0); have HP := Lib.hid (ActV.placeAt ha hr0)
  have at0 : a.cells[0]? = some (.int .u8 a.kind) := rfl
  have e0 : (w.alloc (.cells a.cells.toArray 36)).cell? ⟨w.heap.size, 0, none⟩ = some (.int .u8 a.kind) := hr0 0 _ at0
  have HA := Lib.hid hal
  have hkl := KeyV.clen ha.key
  clear hal hr0
  by_cases h0 : a.kind % 4 = 0
  · go_enter Try.func13, Try.ntmps13
    go_wp2_with (first
      | ((with_reducible change wpList _ _ _ (⟨_, Op.load _ _, _, _, _, _⟩ :: _) _ _); refine wpl_load rfl 32 _ rfl w.heap.size 1 rfl a.key.cells _ HK.out Try.underlying32 rfl (by rw [hkl]; kernel_rfl) ?_)
      | ((with_reducible change wpList _ _ _ (⟨_, Op.load _ _, _, _, _, _⟩ :: _) _ _); refine wpl_load rfl 34 _ rfl w.heap.size 34 rfl a.place.cells _ HP.out Try.underlying34 rfl (by show _ = some 3; kernel_rfl) ?_))
    refine (add_nil _ a.key a.place).mono ?_
    rintro e w1 ⟨rfl, hu1⟩
    have HU1 := Lib.hid hu1; clear hu1
    go_wp2_with fail
    go_ret2
    exact ⟨rfl, HA.out.trans HU1.out (fun _ _ f => f)⟩
  by_cases h1 : a.kind % 4 = 1
  · go_enter Try.func13, Try.ntmps13
    go_wp2_with (first
      | ((with_reducible change wpList _ _ _ (⟨_, Op.load _ _, _, _, _, _⟩ :: _) _ _); refine wpl_load rfl 32 _ rfl w.heap.size 1 rfl a.key.cells _ HK.out Try.underlying32 rfl (by rw [hkl]; kernel_rfl) ?_)
      | ((with_reducible change wpList _ _ _ (⟨_, Op.load _ _, _, _, _, _⟩ :: _) _ _); refine wpl_load rfl 34 _ rfl w.heap.size 34 rfl a.place.cells _ HP.out Try.underlying34 rfl (by show _ = some 3; kernel_rfl) ?_))
    refine (ref_nil _ a.key ha.key).mono ?_
    rintro e w1 ⟨rfl, hu1⟩
    have HU1 := Lib.hid hu1; clear hu1
    go_wp2_with fail
    go_ret2
    exact ⟨rfl, HA.out.trans HU1.out (fun _ _ f => f)⟩
  by_cases h2 : a.kind % 4 = 2
  · go_enter Try.func13, Try.ntmps13
    go_wp2_with (first
      | ((with_reducible change wpList _ _ _ (⟨_, Op.load _ _, _, _, _, _⟩ :: _) _ _); refine wpl_load rfl 32 _ rfl w.heap.size 1 rfl a.key.cells _ HK.out Try.underlying32 rfl (by rw [hkl]; kernel_rfl) ?_)
      | ((with_reducible change wpList _ _ _ (⟨_, Op.load _ _, _, _, _, _⟩ :: _) _ _); refine wpl_load rfl 34 _ rfl w.heap.size 34 rfl a.place.cells _ HP.out Try.underlying34 rfl (by show _ = some 3; kernel_rfl) ?_))
    refine (unref_nil _ a.key ha.key).mono ?_
    rintro e w1 ⟨rfl, hu1⟩
    have HU1 := Lib.hid hu1; clear hu1
    go_wp2_with fail
    go_ret2
    exact ⟨rfl, HA.out.trans HU1.out (fun _ _ f => f)⟩
  have h3 : a.kind % 4 = 3 := by omega
  · go_enter Try.func13, Try.ntmps13
    go_wp2_with (first
      | ((with_reducible change wpList _ _ _ (⟨_, Op.load _ _, _, _, _, _⟩ :: _) _ _); refine wpl_load rfl 32 _ rfl w.heap.size 1 rfl a.key.cells _ HK.out Try.underlying32 rfl (by rw [hkl]; kernel_rfl) ?_)
      | ((with_reducible change wpList _ _ _ (⟨_, Op.load _ _, _, _, _, _⟩ :: _) _ _); refine wpl_load rfl 34 _ rfl w.heap.size 34 rfl a.place.cells _ HP.out Try.underlying34 rfl (by show _ = some 3; kernel_rfl) ?_))
    refine (move_nil _ a.key ha.key a.place).mono ?_
    rintro e w1 ⟨rfl, hu1⟩
    have HU1 := Lib.hid hu1; clear hu1
    go_wp2_with fail
    go_ret2
    exact ⟨rfl, HA.out.trans HU1.out (fun _ _ f => f)⟩
set_option maxHeartbeats 1000000 in
set_option maxRecDepth 20000 in
theorem walk (a : ActV) (w : World) (ha : a.Good) : Calls Try.prog 8 #[a.val] w fun e w' => e = .returned (.bool true) ∧ Below w.heap.size w w' := by
  have hu0 := (Upd.refl (fun _ => False) w).alloc (.cells a.cells.toArray 36)
  have hr0 : (w.alloc (.cells a.cells.toArray 36)).rangeAt w.heap.size 0 a.cells := by intro j v hv; simp [hv]
  have HU0 := Lib.hid hu0; have HR0 := Lib.hid hr0; clear hu0 hr0
  have hal := ActV.len ha
  have hkl := KeyV.clen ha.key
  have hzl := zero_len
  go_enter Try.func8, Try.ntmps8
  go_wp2_with fail
  refine (shown_calls _).mono ?_
  rintro e w1 ⟨rfl, hu1⟩
  have HR1 := Lib.hid (hu1.range HR0.out (fun f => f)); have HU1 := Lib.hid (HU0.out.trans hu1 (fun _ _ f => f)); clear hu1
  go_wp2_with (first
    | ((with_reducible change wpList _ _ _ (⟨_, Op.load _ _, _, _, _, _⟩ :: _) _ _); refine wpl_load rfl 36 _ rfl w.heap.size 0 rfl a.cells _ HR1.out Try.underlying36 rfl (by rw [hal]; kernel_rfl) ?_))
  refine (does_nil _ ha).mono ?_
  rintro e w2 ⟨rfl, hu2⟩
  have HR2 := Lib.hid (hu2.range HR1.out (fun f => f)); have HU2 := Lib.hid (HU1.out.trans hu2 (fun _ _ f => f)); clear hu2
  go_wp2_with (first
    | ((with_reducible change wpList _ _ _ (⟨_, Op.load _ _, _, _, _, _⟩ :: _) _ _); refine wpl_load rfl 32 _ rfl w.heap.size 1 rfl a.key.cells _ (ActV.keyAt ha HR2.out) Try.underlying32 rfl (by rw [hkl]; kernel_rfl) ?_))
  refine (get_nil _ _).mono ?_
  rintro e w3 ⟨rfl, hu3⟩
  have HR3 := Lib.hid (hu3.range HR2.out (fun f => f)); have HU3 := Lib.hid (HU2.out.trans hu3 (fun _ _ f => f)); clear hu3
  go_wp2_with (first
    | ((with_reducible change wpList _ _ _ (⟨_, Op.store _ _ _, _, _, _, _⟩ :: _) _ _); refine wpList_store_mid rfl _ _ _ rfl w3.heap.size 0 zeroChunk.cells.toArray rfl rfl (there_new w3 _ _ (by rw [List.size_toArray, hzl]; exact Nat.le_refl _)) (by simp only [List.size_toArray]; rw [hzl]; kernel_rfl) (all_oneCell_toArray ChunkV.one) ?_
       refine wpList_world fun W2 hW2 => ?_
       have hu2 : Upd (fun _ => False) w3 W2 := by rw [hW2]; exact Upd.setCells (S := fun _ => False) (fun hg => absurd hg (Nat.lt_irrefl _)) _ _ ((Upd.refl _ w3).alloc _)
       have hr4 := hu2.range HR3.out (fun f => f)
       have hseg := ActV.placeAt ha hr4 0 (.int .i64 a.place.seg) rfl
       have HR4 := Lib.hid hr4; have HU4 := Lib.hid (HU3.out.trans hu2 (fun _ _ f => f))
       clear hu2 hW2 hr4))
  refine (live_nil _ _).mono ?_
  rintro e w5 ⟨rfl, hu5⟩
  have HR5 := Lib.hid (hu5.range HR4.out (fun f => f)); have HU5 := Lib.hid (HU4.out.trans hu5 (fun _ _ f => f)); clear hu5
  have hsl : (a.key.sum.map (Value.int .u8)).length = 32 := by rw [List.length_map]; exact ha.key.len
  have hsum : w5.rangeAt w.heap.size 1 (a.key.sum.map (Value.int .u8)) := fun j v hv => ActV.keyAt ha HR5.out j v (by
    unfold KeyV.cells
    rw [List.getElem?_append_left (List.getElem?_eq_some_iff.1 hv).1]
    exact hv)
  have HSUM := Lib.hid hsum; clear hsum
  go_wp2_with (first
    | ((with_reducible change wpList _ _ _ (⟨_, Op.load _ _, _, _, _, _⟩ :: _) _ _); refine wpl_load rfl 29 _ rfl w.heap.size 1 rfl (a.key.sum.map (Value.int .u8)) _ HSUM.out Try.underlying29 rfl (by rw [hsl]; kernel_rfl) ?_)
    | (go_at_call 22; refine (twins_nil _ _).mono ?_; rintro e w6 ⟨rfl, hu6⟩; have HU6 := Lib.hid (HU5.out.trans hu6 (fun _ _ f => f)); clear hu6)
    | (go_at_call 15; refine (all_nil _).mono ?_; rintro e w7 ⟨rfl, hu7⟩; have HU7 := Lib.hid (HU6.out.trans hu7 (fun _ _ f => f)); clear hu7))
  go_ret
  exact ⟨rfl, HU7.out.below (Nat.le_refl _) (fun _ f => f.elim)⟩
end Go.Proofs.Ytpjdfnilhhknkaa.storeNil
