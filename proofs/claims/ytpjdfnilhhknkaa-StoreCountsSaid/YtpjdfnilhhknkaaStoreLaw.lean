/- What this text proves: contracts of the helpers of package pumicelaw13. Conditions: each theorem's own. -/
import Derived.Test.YtpjdfnilhhknkaaStore
import Derived.Test.YtpjdfnilhhknkaaRowKit
namespace Go.Proofs.Ytpjdfnilhhknkaa
open Go Go.RowKit
open Go.Proofs
set_option linter.unusedVariables false
set_option linter.unusedSimpArgs false

def key3 : KeyV := ⟨List.replicate 32 0, 3⟩
theorem key3_good : key3.Good := ⟨rfl, fun b hb => by obtain ⟨_, rfl⟩ := List.mem_replicate.1 hb; decide, by decide⟩
theorem built_key3 : Try.prog.built 32 [(1, .int .u32 3)] = some key3.cells.toArray := by kernel_rfl
theorem key3_len : key3.cells.length = 33 := KeyV.clen key3_good
theorem KeyV.one {c : KeyV} : ∀ x ∈ c.cells, x.oneCell' = true := by
  intro x hx
  simp only [KeyV.cells, List.mem_append, List.mem_map, List.mem_cons, List.not_mem_nil, or_false] at hx
  rcases hx with ⟨y, _, rfl⟩ | rfl <;> rfl
set_option maxHeartbeats 1000000 in
set_option maxRecDepth 20000 in
theorem shown_calls (w : World) : Calls Try.prog 10 #[] w fun e w' => e = .returned (.bool true) ∧ Upd (fun _ => False) w w' := by
  go_enter Try.func10, Try.ntmps10
  go_wp2_with fail
  refine (new_calls w).mono ?_
  rintro e w1 ⟨b, m, rfl, hS1, hu1⟩
  have HS1 := Lib.hid hS1; have HU1 := Lib.hid hu1; clear hS1 hu1
  have hl3 := key3_len
  go_wp2_with (first
    | ((with_reducible change wpList _ _ _ (⟨_, Op.build _ _, _, _, _, _⟩ :: _) _ _); refine wpl_build rfl 32 _ rfl #[(1, .int .u32 3)] (by simp only [List.map_toArray, List.map_cons, List.map_nil]; rfl) key3.cells.toArray built_key3 ?_)
    | ((with_reducible change wpList _ _ _ (⟨_, Op.store _ _ _, _, _, _, _⟩ :: _) _ _); refine wpList_store_mid rfl _ _ _ rfl w1.heap.size 0 key3.cells.toArray rfl rfl (there_new w1 _ _ (by rw [List.size_toArray, hl3]; exact Nat.le_refl _)) (by simp only [List.size_toArray]; rw [hl3]; kernel_rfl) (all_oneCell_toArray KeyV.one) ?_
       refine wpList_world fun W2 hW2 => ?_
       have h4 : W2.heap[w1.heap.size]? = some (.cells key3.cells.toArray 32 (0, 0)) := by rw [hW2]; exact at_setAll (heap_alloc_last w1 _) (by rw [hl3]; rfl)
       have hu2 : Upd (fun _ => False) w1 W2 := by rw [hW2]; exact Upd.setCells (S := fun _ => False) (fun hg => absurd hg (Nat.lt_irrefl _)) _ _ ((Upd.refl _ w1).alloc _)
       have hr2 : W2.rangeAt w1.heap.size 0 key3.cells := range_at h4 (fun j v hv => by simpa using hv)
       have HR2 := Lib.hid hr2; have HU2 := Lib.hid hu2
       clear h4 hu2 hr2 hW2)
    | ((with_reducible change wpList _ _ _ (⟨_, Op.load _ _, _, _, _, _⟩ :: _) _ _); refine wpl_load rfl _ _ rfl w1.heap.size 0 rfl key3.cells _ HR2.out Try.underlying32 rfl (by rw [hl3]; kernel_rfl) ?_))
  have HM := Lib.hid (HS1.out.lt m HS1.out.self.2.1)
  have HS2 := Lib.hid (HS1.out.upd HU2.out (fun _ _ f => f))
  have HV2 := Lib.hid (HU2.out.mono (S' := fun x => x = m) (fun _ _ f => f.elim))
  have HM0 := Lib.hid (HS1.out.self.2.1.1)
  clear HU2 HS1
  refine (add_none (k := key3) HS2.out key3_good ⟨1, 0, 0⟩ rfl).mono ?_
  rintro e w3 ⟨rfl, hS3, hu3⟩
  have HR3 := Lib.hid (hu3.range HR2.out (fun f => Nat.ne_of_gt HM.out f)); have HV3 := Lib.hid (HV2.out.trans hu3 (fun _ _ f => f)); have HS3 := Lib.hid hS3
  clear hS3 hu3
  go_wp2_with (first
    | ((with_reducible change wpList _ _ _ (⟨_, Op.load _ _, _, _, _, _⟩ :: _) _ _); refine wpl_load rfl _ _ rfl w1.heap.size 0 rfl key3.cells _ HR3.out Try.underlying32 rfl (by rw [hl3]; kernel_rfl) ?_))
  refine (ref_some (k := key3) (c := ⟨key3, ⟨1, 0, 0⟩, 1⟩) HS3.out key3_good rfl (by decide) (by decide)).mono ?_
  rintro e w4 ⟨rfl, hS4, hu4⟩
  have HR4 := Lib.hid (hu4.range HR3.out (fun f => Nat.ne_of_gt HM.out f)); have HV4 := Lib.hid (HV3.out.trans hu4 (fun _ _ f => f)); have HS4 := Lib.hid hS4
  clear hS4 hu4
  go_wp2_with (first
    | ((with_reducible change wpList _ _ _ (⟨_, Op.load _ _, _, _, _, _⟩ :: _) _ _); refine wpl_load rfl _ _ rfl w1.heap.size 0 rfl key3.cells _ HR4.out Try.underlying32 rfl (by rw [hl3]; kernel_rfl) ?_))
  refine (unref_keep (k := key3) (c := ⟨key3, ⟨1, 0, 0⟩, 2⟩) HS4.out key3_good rfl (by decide) (by decide)).mono ?_
  rintro e w5 ⟨rfl, hS5, hu5⟩
  have HR5 := Lib.hid (hu5.range HR4.out (fun f => Nat.ne_of_gt HM.out f)); have HV5 := Lib.hid (HV4.out.trans hu5 (fun _ _ f => f)); have HS5 := Lib.hid hS5
  clear hS5 hu5
  go_wp2_with (first
    | ((with_reducible change wpList _ _ _ (⟨_, Op.load _ _, _, _, _, _⟩ :: _) _ _); refine wpl_load rfl _ _ rfl w1.heap.size 0 rfl key3.cells _ HR5.out Try.underlying32 rfl (by rw [hl3]; kernel_rfl) ?_))
  refine (unref_gone (k := key3) (c := ⟨key3, ⟨1, 0, 0⟩, 1⟩) HS5.out key3_good rfl rfl).mono ?_
  rintro e w6 ⟨rfl, hS6, hu6⟩
  have HR6 := Lib.hid (hu6.range HR5.out (fun f => Nat.ne_of_gt HM.out f)); have HV6 := Lib.hid (HV5.out.trans hu6 (fun _ _ f => f)); have HS6 := Lib.hid hS6
  clear hS6 hu6
  go_wp2_with (first
    | ((with_reducible change wpList _ _ _ (⟨_, Op.load _ _, _, _, _, _⟩ :: _) _ _); refine wpl_load rfl _ _ rfl w1.heap.size 0 rfl key3.cells _ HR6.out Try.underlying32 rfl (by rw [hl3]; kernel_rfl) ?_))
  refine (unref_none (k := key3) HS6.out key3_good rfl).mono ?_
  rintro e w7 ⟨rfl, hu7⟩
  have HU7 := Lib.hid hu7; clear hu7
  go_wp2_with fail
  go_ret
  refine ⟨rfl, HU1.out.trans (HV6.out.trans HU7.out (fun _ _ f => f.elim)) (fun k hk f => ?_)⟩
  have := HM0.out
  omega

/-! ### acts -/
structure ActV where
  kind : Int
  key : KeyV
  place : PlaceV
def ActV.cells (a : ActV) : List Value := [.int .u8 a.kind] ++ (a.key.cells ++ a.place.cells)
abbrev ActV.val (a : ActV) : Value := .agg a.cells.toArray
structure ActV.Good (a : ActV) : Prop where
  kind : (Lit.int .u8 a.kind).wf = true
  key : a.key.Good
theorem ActV.len {a : ActV} (h : a.Good) : a.cells.length = 37 := by simp [ActV.cells, KeyV.clen h.key, PlaceV.cells]
theorem ActV.at0 {a : ActV} : a.cells[0]? = some (.int .u8 a.kind) := rfl
theorem ActV.keyAt {a : ActV} (h : a.Good) {w : World} {g o : Nat} (hr : w.rangeAt g o a.cells) : w.rangeAt g (o + 1) a.key.cells := by
  intro j v hv
  have hj := (List.getElem?_eq_some_iff.1 hv).1
  have := hr (1 + j) v (by
    unfold ActV.cells
    rw [List.getElem?_append_right (by simp), List.getElem?_append_left (by simpa using hj)]
    simpa using hv)
  rw [← Nat.add_assoc] at this
  exact this
theorem ActV.placeAt {a : ActV} (h : a.Good) {w : World} {g o : Nat} (hr : w.rangeAt g o a.cells) : w.rangeAt g (o + 34) a.place.cells := by
  intro j v hv
  have hk := KeyV.clen h.key
  have := hr (34 + j) v (by
    unfold ActV.cells
    rw [List.getElem?_append_right (by simp; omega), List.getElem?_append_right (by simp; omega)]
    simp only [List.length_cons, List.length_nil, hk]
    rw [show 34 + j - (0 + 1) - 33 = j by omega]
    exact hv)
  rw [← Nat.add_assoc] at this
  exact this

/-- what an act comes to. -/
def step (l : List ChunkV) (a : ActV) : Bool × Int × List ChunkV :=
  match a.kind % 4, getC l a.key with
  | 0, some _ => (false, 3, l)
  | 0, none => (false, 0, l ++ [⟨a.key, a.place, 1⟩])
  | 1, some c => (false, 0, putC l { c with refs := c.refs + 1 })
  | 2, some c => if c.refs = 1 then (true, 0, delC l a.key) else (false, 0, putC l { c with refs := c.refs - 1 })
  | 3, some c => (false, 0, putC l { c with place := a.place })
  | _, _ => (false, 2, l)
-- GENERATED
theorem sizeAct (w : World) : (sizeOf 36).run Try.prog w = .ok 37 w := by kernel_rfl
theorem few_calls (w : World) (v : Value) (n : Nat) (xs : List Value) (h : Reads w 37 v n xs) (hn : n ≤ maxLen) :
    Calls Try.prog 12 #[v] w fun e w' => ∃ v', e = .returned v' ∧ Sliced 37 v n v' 0 (min n 200) ∧ w = w' := by
  obtain ⟨a, c, rfl⟩ := h.len
  unfold maxLen at hn
  by_cases hc : n ≤ 200
  · rw [Nat.min_eq_left hc]
    have HH := Lib.hid h; clear h
    go_enter Try.func12, Try.ntmps12
    go_wp2_with (first | ((with_reducible change wpList _ _ _ (⟨_, Op.slice _ _ _ _ _, _, _, _, _⟩ :: _) _ _); refine wpl_slice rfl _ _ _ _ rfl 36 37 Try.underlying22 sizeAct _ _ _ HH.out rfl 0 n (.inl ⟨rfl, rfl⟩) (.inr rfl) (Nat.zero_le _) (Nat.le_refl _) ?_; intro v1 hs1; have HS := Lib.hid hs1; clear hs1))
    go_ret
    exact ⟨v1, rfl, HS.out, rfl⟩
  · rw [Nat.min_eq_right (by omega)]
    have HH := Lib.hid h; clear h
    have h200 : (200 : Int) ≤ n := by omega
    go_enter Try.func12, Try.ntmps12
    go_wp2_with (first | ((with_reducible change wpList _ _ _ (⟨_, Op.slice _ _ _ _ _, _, _, _, _⟩ :: _) _ _); refine wpl_slice rfl _ _ _ _ rfl 36 37 Try.underlying22 sizeAct _ _ _ HH.out rfl 0 200 (.inl ⟨rfl, rfl⟩) (.inr rfl) (Nat.zero_le _) (by omega) ?_; intro v1 hs1; have HS := Lib.hid hs1; clear hs1))
    go_ret
    exact ⟨v1, rfl, HS.out, rfl⟩
set_option maxHeartbeats 1000000 in
theorem does_calls {w : World} {b m : Nat} {l : List ChunkV} {F : Nat → Prop} (h : StoreV w b m l F) {a : ActV} (ha : a.Good) (hrefs : ∀ c ∈ l, 0 < c.refs ∧ c.refs < 1000000) :
    Calls Try.prog 13 #[.pointer (some ⟨b, 0, none⟩), a.val] w fun e w' => e = .returned (.tuple #[.bool (step l a).1, .int .i64 (step l a).2.1]) ∧ StoreV w' b m (step l a).2.2 F ∧ Upd (· = m) w w' := by
  have hk0 := wf_u8 ha.kind
  have hal := (Upd.refl (fun _ => False) w).alloc (.cells a.cells.toArray 36)
  have HT := Lib.hid (h.upd hal (fun _ _ f => f))
  have hr0 : (w.alloc (.cells a.cells.toArray 36)).rangeAt w.heap.size 0 a.cells := by intro j v hv; simp [hv]
  have HK := Lib.hid (ActV.keyAt ha hr0); have HP := Lib.hid (ActV.placeAt ha hr0)
  have at0 : a.cells[0]? = some (.int .u8 a.kind) := rfl
  have e0 : (w.alloc (.cells a.cells.toArray 36)).cell? ⟨w.heap.size, 0, none⟩ = some (.int .u8 a.kind) := hr0 0 _ at0
  have HA := Lib.hid (hal.mono (S' := fun x => x = m) (fun _ _ f => f.elim))
  have hkl := KeyV.clen ha.key
  have hN : ∀ (x : Int) (l' : List ChunkV) (w' : World), Upd (fun _ => False) (w.alloc (.cells a.cells.toArray 36)) w' → StoreV w' b m l F ∧ Upd (· = m) w w' := fun x l' w' hu => ⟨HT.out.upd hu (fun _ _ f => f), HA.out.trans (hu.mono (S' := fun x => x = m) (fun _ _ f => f.elim)) (fun _ _ f => f)⟩
  have HN := Lib.hid hN
  clear hal h hr0 hN
  obtain ⟨r, hr⟩ : ∃ r, getC l a.key = r := ⟨_, rfl⟩
  obtain ⟨st, hst⟩ : ∃ st, st = step l a := ⟨_, rfl⟩
  rw [← hst]
  unfold step at hst
  rw [hr] at hst
  by_cases h0 : a.kind % 4 = 0
  · rw [h0] at hst
    rcases r with _ | c
    · simp only [] at hst
      subst hst
      go_enter Try.func13, Try.ntmps13
      go_wp2_with (first
        | ((with_reducible change wpList _ _ _ (⟨_, Op.load _ _, _, _, _, _⟩ :: _) _ _); refine wpl_load rfl 32 _ rfl w.heap.size 1 rfl a.key.cells _ HK.out Try.underlying32 rfl (by rw [hkl]; kernel_rfl) ?_)
        | ((with_reducible change wpList _ _ _ (⟨_, Op.load _ _, _, _, _, _⟩ :: _) _ _); refine wpl_load rfl 34 _ rfl w.heap.size 34 rfl a.place.cells _ HP.out Try.underlying34 rfl (by show _ = some 3; kernel_rfl) ?_))
      refine (add_none HT.out ha.key a.place hr).mono ?_
      rintro e w1 ⟨rfl, hs1, hu1⟩
      have HU1 := Lib.hid hu1; have HS1 := Lib.hid hs1; clear hu1 hs1
      go_wp2_with fail
      go_ret2
      exact ⟨rfl, HS1.out, HA.out.trans HU1.out (fun _ _ f => f)⟩
    · simp only [] at hst
      subst hst
      go_enter Try.func13, Try.ntmps13
      go_wp2_with (first
        | ((with_reducible change wpList _ _ _ (⟨_, Op.load _ _, _, _, _, _⟩ :: _) _ _); refine wpl_load rfl 32 _ rfl w.heap.size 1 rfl a.key.cells _ HK.out Try.underlying32 rfl (by rw [hkl]; kernel_rfl) ?_)
        | ((with_reducible change wpList _ _ _ (⟨_, Op.load _ _, _, _, _, _⟩ :: _) _ _); refine wpl_load rfl 34 _ rfl w.heap.size 34 rfl a.place.cells _ HP.out Try.underlying34 rfl (by show _ = some 3; kernel_rfl) ?_))
      refine (add_some HT.out ha.key a.place hr).mono ?_
      rintro e w1 ⟨rfl, hu1⟩
      have HU1 := Lib.hid hu1; clear hu1
      go_wp2_with fail
      go_ret2
      exact ⟨rfl, HN.out 0 l w1 HU1.out⟩
  by_cases h1 : a.kind % 4 = 1
  · rw [h1] at hst
    rcases r with _ | c
    · simp only [] at hst
      subst hst
      go_enter Try.func13, Try.ntmps13
      go_wp2_with (first
        | ((with_reducible change wpList _ _ _ (⟨_, Op.load _ _, _, _, _, _⟩ :: _) _ _); refine wpl_load rfl 32 _ rfl w.heap.size 1 rfl a.key.cells _ HK.out Try.underlying32 rfl (by rw [hkl]; kernel_rfl) ?_)
        | ((with_reducible change wpList _ _ _ (⟨_, Op.load _ _, _, _, _, _⟩ :: _) _ _); refine wpl_load rfl 34 _ rfl w.heap.size 34 rfl a.place.cells _ HP.out Try.underlying34 rfl (by show _ = some 3; kernel_rfl) ?_))
      refine (ref_none HT.out ha.key hr).mono ?_
      rintro e w1 ⟨rfl, hu1⟩
      have HU1 := Lib.hid hu1; clear hu1
      go_wp2_with fail
      go_ret2
      exact ⟨rfl, HN.out 0 l w1 HU1.out⟩
    · simp only [] at hst
      obtain ⟨hc0, hc1⟩ := hrefs c (getC_key hr).2
      subst hst
      go_enter Try.func13, Try.ntmps13
      go_wp2_with (first
        | ((with_reducible change wpList _ _ _ (⟨_, Op.load _ _, _, _, _, _⟩ :: _) _ _); refine wpl_load rfl 32 _ rfl w.heap.size 1 rfl a.key.cells _ HK.out Try.underlying32 rfl (by rw [hkl]; kernel_rfl) ?_)
        | ((with_reducible change wpList _ _ _ (⟨_, Op.load _ _, _, _, _, _⟩ :: _) _ _); refine wpl_load rfl 34 _ rfl w.heap.size 34 rfl a.place.cells _ HP.out Try.underlying34 rfl (by show _ = some 3; kernel_rfl) ?_))
      refine (ref_some HT.out ha.key hr hc0 hc1).mono ?_
      rintro e w1 ⟨rfl, hs1, hu1⟩
      have HU1 := Lib.hid hu1; have HS1 := Lib.hid hs1; clear hu1 hs1
      go_wp2_with fail
      go_ret2
      exact ⟨rfl, HS1.out, HA.out.trans HU1.out (fun _ _ f => f)⟩
  by_cases h2 : a.kind % 4 = 2
  · rw [h2] at hst
    rcases r with _ | c
    · simp only [] at hst
      subst hst
      go_enter Try.func13, Try.ntmps13
      go_wp2_with (first
        | ((with_reducible change wpList _ _ _ (⟨_, Op.load _ _, _, _, _, _⟩ :: _) _ _); refine wpl_load rfl 32 _ rfl w.heap.size 1 rfl a.key.cells _ HK.out Try.underlying32 rfl (by rw [hkl]; kernel_rfl) ?_)
        | ((with_reducible change wpList _ _ _ (⟨_, Op.load _ _, _, _, _, _⟩ :: _) _ _); refine wpl_load rfl 34 _ rfl w.heap.size 34 rfl a.place.cells _ HP.out Try.underlying34 rfl (by show _ = some 3; kernel_rfl) ?_))
      refine (unref_none HT.out ha.key hr).mono ?_
      rintro e w1 ⟨rfl, hu1⟩
      have HU1 := Lib.hid hu1; clear hu1
      go_wp2_with fail
      go_ret2
      exact ⟨rfl, HN.out 0 l w1 HU1.out⟩
    · simp only [] at hst
      obtain ⟨hc0, hc1⟩ := hrefs c (getC_key hr).2
      by_cases hc : c.refs = 1
      · rw [if_pos hc] at hst
        subst hst
        go_enter Try.func13, Try.ntmps13
        go_wp2_with (first
          | ((with_reducible change wpList _ _ _ (⟨_, Op.load _ _, _, _, _, _⟩ :: _) _ _); refine wpl_load rfl 32 _ rfl w.heap.size 1 rfl a.key.cells _ HK.out Try.underlying32 rfl (by rw [hkl]; kernel_rfl) ?_)
          | ((with_reducible change wpList _ _ _ (⟨_, Op.load _ _, _, _, _, _⟩ :: _) _ _); refine wpl_load rfl 34 _ rfl w.heap.size 34 rfl a.place.cells _ HP.out Try.underlying34 rfl (by show _ = some 3; kernel_rfl) ?_))
        refine (unref_gone HT.out ha.key hr hc).mono ?_
        rintro e w1 ⟨rfl, hs1, hu1⟩
        have HU1 := Lib.hid hu1; have HS1 := Lib.hid hs1; clear hu1 hs1
        go_wp2_with fail
        go_ret2
        exact ⟨rfl, HS1.out, HA.out.trans HU1.out (fun _ _ f => f)⟩
      · rw [if_neg hc] at hst
        subst hst
        go_enter Try.func13, Try.ntmps13
        go_wp2_with (first
          | ((with_reducible change wpList _ _ _ (⟨_, Op.load _ _, _, _, _, _⟩ :: _) _ _); refine wpl_load rfl 32 _ rfl w.heap.size 1 rfl a.key.cells _ HK.out Try.underlying32 rfl (by rw [hkl]; kernel_rfl) ?_)
          | ((with_reducible change wpList _ _ _ (⟨_, Op.load _ _, _, _, _, _⟩ :: _) _ _); refine wpl_load rfl 34 _ rfl w.heap.size 34 rfl a.place.cells _ HP.out Try.underlying34 rfl (by show _ = some 3; kernel_rfl) ?_))
        refine (unref_keep HT.out ha.key hr (by omega) hc1).mono ?_
        rintro e w1 ⟨rfl, hs1, hu1⟩
        have HU1 := Lib.hid hu1; have HS1 := Lib.hid hs1; clear hu1 hs1
        go_wp2_with fail
        go_ret2
        exact ⟨rfl, HS1.out, HA.out.trans HU1.out (fun _ _ f => f)⟩
  have h3 : a.kind % 4 = 3 := by omega
  · rw [h3] at hst
    rcases r with _ | c
    · simp only [] at hst
      subst hst
      go_enter Try.func13, Try.ntmps13
      go_wp2_with (first
        | ((with_reducible change wpList _ _ _ (⟨_, Op.load _ _, _, _, _, _⟩ :: _) _ _); refine wpl_load rfl 32 _ rfl w.heap.size 1 rfl a.key.cells _ HK.out Try.underlying32 rfl (by rw [hkl]; kernel_rfl) ?_)
        | ((with_reducible change wpList _ _ _ (⟨_, Op.load _ _, _, _, _, _⟩ :: _) _ _); refine wpl_load rfl 34 _ rfl w.heap.size 34 rfl a.place.cells _ HP.out Try.underlying34 rfl (by show _ = some 3; kernel_rfl) ?_))
      refine (move_none HT.out ha.key a.place hr).mono ?_
      rintro e w1 ⟨rfl, hu1⟩
      have HU1 := Lib.hid hu1; clear hu1
      go_wp2_with fail
      go_ret2
      exact ⟨rfl, HN.out 0 l w1 HU1.out⟩
    · simp only [] at hst
      subst hst
      go_enter Try.func13, Try.ntmps13
      go_wp2_with (first
        | ((with_reducible change wpList _ _ _ (⟨_, Op.load _ _, _, _, _, _⟩ :: _) _ _); refine wpl_load rfl 32 _ rfl w.heap.size 1 rfl a.key.cells _ HK.out Try.underlying32 rfl (by rw [hkl]; kernel_rfl) ?_)
        | ((with_reducible change wpList _ _ _ (⟨_, Op.load _ _, _, _, _, _⟩ :: _) _ _); refine wpl_load rfl 34 _ rfl w.heap.size 34 rfl a.place.cells _ HP.out Try.underlying34 rfl (by show _ = some 3; kernel_rfl) ?_))
      refine (move_some HT.out ha.key a.place hr).mono ?_
      rintro e w1 ⟨rfl, hs1, hu1⟩
      have HU1 := Lib.hid hu1; have HS1 := Lib.hid hs1; clear hu1 hs1
      go_wp2_with fail
      go_ret2
      exact ⟨rfl, HS1.out, HA.out.trans HU1.out (fun _ _ f => f)⟩
end Go.Proofs.Ytpjdfnilhhknkaa
