/- What this text proves: contracts of the functions of package pumiceref15. Conditions: each theorem's own. -/
import Derived.Test.YtfpbkofjbnmkeaaGhostAll
import Derived.Test.YtfpbkofjbnmkeaaSlice
import Derived.Deep.QuietTactic
import Derived.BigQuiet
namespace Go.Proofs.Ytfpbkofjbnmkeaa
open Go Go.RowKit
open Go.Proofs

theorem sizeU32 (w : World) : (sizeOf 23).run Try.prog w = .ok 1 w := by kernel_rfl

/-- Block r is the document's list with room for so many, with the addresses xs; it lies in the blocks of F. -/
structure RList (w : World) (r : Nat) (room : Int) (xs : List Int) (F : Nat → Prop) : Prop where
  has : ∃ v, w.heap[r]? = some (.cells #[v, .int .i64 room] 62 (0, 0)) ∧ w.ownsRow 0 23 1 v xs.length (xs.map (.int .u32)) ∧ (∀ k, v.ownBlock = some k → F k ∧ k ≠ r)
  self : F r
  lt : ∀ k, F k → k < w.heap.size
theorem RList.upd {S : Nat → Prop} {w w' : World} {r : Nat} {room : Int} {xs : List Int} {F : Nat → Prop} (h : RList w r room xs F) (hu : Upd S w w') (hs : ∀ k, F k → ¬ S k) : RList w' r room xs F := by
  obtain ⟨v, h1, h2, h3⟩ := h.has
  exact ⟨⟨v, hu.at h1 (hs r h.self), ownsRow_upd h2 hu (fun k hk => hs k (h3 k hk).1), h3⟩, h.self, fun k hk => Nat.lt_of_lt_of_le (h.lt k hk) hu.size⟩

/-- what is handed on where nothing was turned. -/
theorem RList.grow {w : World} {r : Nat} {room : Int} {xs : List Int} {F G : Nat → Prop} (h : RList w r room xs F) (hg : ∀ k, F k → G k) (hl : ∀ k, G k → k < w.heap.size) : RList w r room xs G := by
  obtain ⟨v, g1, g2, g3⟩ := h.has
  exact ⟨⟨v, g1, g2, fun k hk => ⟨hg k (g3 k hk).1, (g3 k hk).2⟩⟩, hg r h.self, hl⟩

/-- two steps. -/
theorem RList.after {w w1 w2 : World} {r : Nat} {room : Int} {ys : List Int} {F : Nat → Prop} (h : RList w2 r room ys (fun k => (F k ∨ fresh w w1 k) ∨ fresh w1 w2 k) ∧ Upd (fun k => F k ∨ fresh w w1 k) w1 w2) (hu : Upd F w w1) :
    RList w2 r room ys (fun k => F k ∨ fresh w w2 k) ∧ Upd F w w2 := by
  have hs := hu.size
  have hs2 := h.2.size
  refine ⟨h.1.grow (fun k hk => ?_) (fun k hk => ?_), hu.trans h.2 (fun i hi hk => hk.elim id (fun hk => by have := hk.1; omega))⟩
  · rcases hk with (hk | hk) | hk
    · exact .inl hk
    · exact .inr ⟨hk.1, by have := hk.2; omega⟩
    · exact .inr ⟨by have := hk.1; omega, hk.2⟩
  · rcases hk with hk | hk
    · exact h.1.lt k (.inl (.inl hk))
    · exact hk.2

/-- a new row laid into the list. -/
theorem RList.put {w w2 : World} {r n : Nat} {room : Int} {xs ys : List Int} {F : Nat → Prop} {v' : Value} (h : RList w r room xs F) (hu : Upd (fun g => w.heap.size ≤ g) w w2) (ho : w2.ownsRow w.heap.size 23 1 v' n (ys.map (.int .u32))) (hn : ys.length = n) :
    RList (w2.setCell ⟨r, 0, none⟩ v') r room ys (fun k => F k ∨ fresh w (w2.setCell ⟨r, 0, none⟩ v') k) ∧ Upd F w (w2.setCell ⟨r, 0, none⟩ v') := by
  subst hn
  have hrlt := h.lt r h.self
  obtain ⟨v, h1, _, _⟩ := h.has
  have hr := hu.at h1 (Nat.not_le.2 hrlt)
  refine ⟨⟨⟨v', at_setCell_same hr 0 _, ?_, fun g hg => ?_⟩, .inl h.self, fun g hg => ?_⟩, (hu.mono (fun i hi hw => absurd hw (Nat.not_le.2 hi))).setCell (fun _ => h.self) _⟩
  · refine ownsRow_upd (S := fun g => g = r) (ownsRow_base ho (fun _ _ => Nat.zero_le _)) ((Upd.refl (fun g => g = r) w2).setCell (fun _ => rfl) _) (fun g hg e => ?_)
    have := (ho.lt g hg).1
    omega
  · have h1 := ho.lt g hg
    exact ⟨.inr ⟨h1.1, by simpa using h1.2⟩, by omega⟩
  · rcases hg with hg | hg
    · have := h.lt g hg
      have := hu.size
      simp
      omega
    · exact hg.2

theorem one_u32 (l : List Int) : ∀ u ∈ l.map (Value.int .u32), u.oneCell' = true := ints_oneCell .u32 l

def RDropRel (xs : List Int) (a : Int) (n : Nat) (i : Value) : Prop := ∃ k : Nat, k + n = xs.length ∧ i = .int .i64 k ∧ a ∉ xs.take k

theorem erase_at {xs : List Int} {a : Int} {k : Nat} (hk : k < xs.length) (hn : a ∉ xs.take k) (ha : xs[k] = a) : xs.erase a = xs.take k ++ xs.drop (k + 1) := by
  have e : xs = xs.take k ++ a :: xs.drop (k + 1) := by
    rw [← ha, List.getElem_cons_drop]
    exact (List.take_append_drop k xs).symm
  have h2 : (xs.take k ++ a :: xs.drop (k + 1)).erase a = xs.take k ++ xs.drop (k + 1) := by
    rw [List.erase_append_right _ hn, List.erase_cons_head]
  rw [← h2]
  congr 1

set_option maxHeartbeats 2000000 in
theorem rdrop_calls (w : World) (r : Nat) (room : Int) (xs : List Int) (F : Nat → Prop) (a : Int) (h : RList w r room xs F) (hx : xs.length ≤ 100000) :
    Calls Try.prog 34 #[pt r, .int .u32 a] w fun e w' => e = .returned (.bool (decide (a ∈ xs))) ∧ RList w' r room (xs.erase a) (fun k => F k ∨ fresh w w' k) ∧ Upd F w w' := by
  obtain ⟨v, h1, h2, h3⟩ := h.has
  obtain ⟨ao, c, hv⟩ := (owns_reads h2).len
  have c0 : w.cell? ⟨r, 0, none⟩ = some v := cell_at h1 0
  rw [hv] at c0
  have f0 := free_at h1 0
  have HH : Hid (RList w r room xs F) := Lib.hid h
  have H1 : Hid (w.heap[r]? = some (.cells #[v, .int .i64 room] 62 (0, 0)) ∧ w.ownsRow 0 23 1 v xs.length (xs.map (.int .u32)) ∧ (∀ k, v.ownBlock = some k → F k ∧ k ≠ r)) := Lib.hid ⟨h1, h2, h3⟩
  have HV := Lib.hid hv
  clear h h1 h2 h3 hv
  obtain ⟨i0, hi, hz0, hz1, hz2⟩ := info_parts infoU32
  go_enter Try.func34, Try.ntmps34
  go_wp2_with fail
  go_loopg [5] xs.length (fun n i wr => RDropRel xs a n i ∧ wr = w)
  case atStart => exact ⟨⟨0, by simp, rfl, by simp⟩, rfl⟩
  case round =>
    obtain ⟨⟨k, hk, rfl, hn⟩, rfl⟩ := hrel
    have HN := Lib.hid hn; clear hn
    by_cases hlt : k < xs.length
    · obtain ⟨b, hb⟩ : ∃ b, b = xs[k] := ⟨_, rfl⟩
      have HB := Lib.hid hb; clear hb
      have hrd : Reads wr 1 (.slice ao xs.length c) xs.length (xs.map (.int .u32)) := by rw [← HV.out]; exact owns_reads H1.out.2.1
      have HR := Lib.hid hrd; clear hrd
      by_cases hba : b = a
      · have hbt : (b == a) = true := by simpa using hba
        have HX : Hid (k < xs.length ∧ b = a) := Lib.hid ⟨hlt, hba⟩
        have hrlt : r < wr.heap.size := lt_of_at H1.out.1
        have HO : ∀ o : Obj, Hid (Reads (wr.alloc o) 1 (.slice ao xs.length c) xs.length (xs.map (.int .u32))) := fun o => Lib.hid (HR.out.keep (fun g _ hg => Below.heap_alloc _ _ _ hg))
        have HM := Lib.hid (World.ownsRow_made (e := 23) (size := 1) wr #[] 0 (Nat.le_refl _) (Nat.zero_le _) rfl)
        have hvlt : ∀ g, (Value.slice ao xs.length c).ownBlock = some g → g < wr.heap.size := fun g hg => (H1.out.2.1.lt g (by rw [HV.out]; exact hg)).2
        have HVL := Lib.hid hvlt
        clear hba hvlt
        go_wp2_with (first
          | ((with_reducible change wpList _ _ _ (⟨_, Op.indexAddr _ _ _, _, _, _, _⟩ :: _) _ _); refine wpl_index rfl _ _ _ rfl 23 1 Try.underlying44 sizeU32 (by decide) _ _ _ HR.out rfl k rfl HX.out.1 ?_; intro g off _ hcell; have hc := hcell 0 (.int .u32 b) (by simp [HB.out, HX.out]); clear hcell; simp only [Nat.add_zero] at hc)
          | ((with_reducible change wpList _ _ _ (⟨_, Op.slice _ _ _ _ _, _, _, _, _⟩ :: _) _ _); refine wpl_slice rfl _ _ _ _ rfl 23 1 Try.underlying44 sizeU32 _ _ _ (HO _).out rfl 0 k (.inl ⟨rfl, rfl⟩) (.inr rfl) (Nat.zero_le _) (Nat.le_of_lt hlt) ?_; intro v1 hs1; have HV1 := Lib.hid (hs1.1 _ _ (HO (.cells #[] 23)).out); clear hs1)
          | ((with_reducible change wpList _ _ _ (⟨_, Op.call { callee := Callee.builtin Builtin.append, args := _, argTypes := _ }, _, _, _, _⟩ :: _) _ _); refine wpl_append rfl _ _ 44 rfl wr.heap.size 23 i0 (.int .u32 0) 1 4 Try.underlying44 hi hz0 hz1 hz2 rfl (by decide) _ _ _ HM.out rfl _ _ _ HV1.out rfl (by rw [← List.map_drop, ← List.map_take]; exact one_u32 _) (by unfold maxLen; omega) (by omega) (by simp) ?_; intro v2 w1 hown1 hg1 _; have HO1 := Lib.hid hown1; clear hown1; have hu1 : Upd (fun g => wr.heap.size ≤ g) wr w1 := ((Upd.refl _ wr).alloc _).grown hg1 (fun g hg _ => by simp [Value.ownBlock] at hg; omega); have hs1 := hu1.size; have HU1 := Lib.hid hu1; clear hu1 hg1; have c01 := HU1.out.cell c0 (Nat.not_le.2 hrlt); have HR1 := Lib.hid (HR.out.upd HU1.out (fun g hg => Nat.not_le.2 (HVL.out g hg))))
          | ((with_reducible change wpList _ _ _ (⟨_, Op.slice _ _ _ _ _, _, _, _, _⟩ :: _) _ _); refine wpl_slice rfl _ _ _ _ rfl 23 1 Try.underlying44 sizeU32 _ _ _ HR1.out rfl (k + 1) xs.length (.inr rfl) (.inl ⟨rfl, rfl⟩) hlt (Nat.le_refl _) ?_; intro v3 hs3; have HV3 := Lib.hid (hs3.1 _ _ HR1.out); clear hs3)
          | ((with_reducible change wpList _ _ _ (⟨_, Op.call { callee := Callee.builtin Builtin.append, args := _, argTypes := _ }, _, _, _, _⟩ :: _) _ _); refine wpl_append rfl _ _ 44 rfl wr.heap.size 23 i0 (.int .u32 0) 1 4 Try.underlying44 hi hz0 hz1 hz2 rfl (by decide) _ _ _ HO1.out rfl _ _ _ HV3.out rfl (by rw [← List.map_drop, ← List.map_take]; exact one_u32 _) (by unfold maxLen; omega) (by omega) (by omega) ?_; intro v4 w2 hown2 hg2 _; obtain ⟨ao4, c4, hv4⟩ := (owns_reads hown2).len; subst hv4; have hu2 : Upd (fun g => wr.heap.size ≤ g) wr w2 := HU1.out.grown hg2 (fun g hg _ => (HO1.out.lt g hg).1); have HO2 := Lib.hid hown2; clear hown2; have HU2 := Lib.hid hu2; clear hu2 hg2; have c02 := HU2.out.cell c0 (Nat.not_le.2 hrlt); have f02 : w2.frozen? ⟨r, 0, none⟩ = false := by rw [World.frozen?_of_block (a := ⟨r, 0, none⟩) (HU2.out.block r hrlt (Nat.not_le.2 hrlt))]; exact f0))
        go_ret
        have hu := HU2.out
        have hmem : a ∈ xs := by rw [← HX.out.2, HB.out]; exact List.getElem_mem _
        have he : xs.erase a = xs.take k ++ xs.drop (k + 1) := erase_at HX.out.1 HN.out (by rw [← HB.out]; exact HX.out.2)
        have hl : (xs.erase a).length = k + (xs.length - (k + 1)) := by have := HX.out.1; rw [he]; simp; omega
        refine ⟨by simpa using hmem, HH.out.put hu ?_ hl⟩
        have hown := HO2.out
        rw [he]
        rw [List.take_of_length_le (l := ((xs.map (Value.int .u32)).drop ((k + 1) * 1))) (by simp)] at hown
        simpa [List.map_drop, List.map_take] using hown
      · have hbf : (b == a) = false := by simpa using hba
        have HX : Hid (k < xs.length) := Lib.hid hlt
        go_wp2_with (first | ((with_reducible change wpList _ _ _ (⟨_, Op.indexAddr _ _ _, _, _, _, _⟩ :: _) _ _); refine wpl_index rfl _ _ _ rfl 23 1 Try.underlying44 sizeU32 (by decide) _ _ _ HR.out rfl k rfl HX.out ?_; intro g off _ hcell; have hc := hcell 0 (.int .u32 b) (by simp [HB.out, HX.out]); clear hcell; simp only [Nat.add_zero] at hc))
        go_roundg (xs.length - (k + 1))
        case measure => have := HX.out; omega
        case rel =>
          refine ⟨⟨k + 1, by have := HX.out; omega, by go_num, ?_⟩, rfl⟩
          have hl := HX.out
          rw [List.take_succ_eq_append_getElem hl]
          simp only [List.mem_append, List.mem_singleton, not_or]
          exact ⟨HN.out, fun e => hba (by rw [HB.out, e])⟩
    · have hkx : a ∉ xs := by
        have : xs.take k = xs := List.take_of_length_le (by omega)
        rw [← this]; exact HN.out
      have HK := Lib.hid hkx
      clear hkx
      have : ¬ ((k : Int) < (xs.length : Int)) := by omega
      go_wp2_with fail
      go_ret
      have hh := HH.out
      refine ⟨by simpa using HK.out, ?_, Upd.refl _ _⟩
      rw [List.erase_of_not_mem HK.out]
      obtain ⟨v', g1, g2, g3⟩ := hh.has
      exact ⟨⟨v', g1, g2, fun k hk => ⟨.inl (g3 k hk).1, (g3 k hk).2⟩⟩, .inl hh.self, fun k hk => hk.elim (hh.lt k) (fun h => h.2)⟩

set_option maxHeartbeats 2000000 in
theorem rask_calls (w : World) (r : Nat) (room : Int) (xs : List Int) (F : Nat → Prop) (a : Int) (h : RList w r room xs F) (hx : xs.length ≤ 100000) (h0 : 0 ≤ room) :
    Calls Try.prog 28 #[pt r, .int .u32 a] w fun e w' => e = .returned (.bool (decide (a ∈ xs))) ∧ RList w' r room (askList room xs a) (fun k => F k ∨ fresh w w' k) ∧ Upd F w w' := by
  have hd := Lib.hid (rdrop_calls w r room xs F a h hx)
  by_cases ha : a ∈ xs
  · unfold askList
    rw [if_pos ha]
    have e1 : decide (a ∈ xs) = true := by simpa using ha
    rw [e1] at hd ⊢
    clear ha e1 h hx
    go_enter Try.func28, Try.ntmps28
    go_wp2_with (first | (go_at_call 34; refine hd.out.mono ?_; rintro e w' ⟨rfl, hg, hu⟩))
    go_ret
    exact ⟨rfl, hg, hu⟩
  · unfold askList
    rw [if_neg ha]
    have e1 : decide (a ∈ xs) = false := by simpa using ha
    rw [e1, List.erase_of_not_mem ha] at hd
    rw [e1]
    clear ha e1
    obtain ⟨i0, hi, hz0, hz1, hz2⟩ := info_parts infoU32
    obtain ⟨m, rfl⟩ := Int.eq_ofNat_of_zero_le h0
    obtain ⟨k, hk, hkm⟩ : ∃ k : Nat, k = min (xs.length + 1) m ∧ k ≤ xs.length + 1 := ⟨_, rfl, Nat.min_le_left _ _⟩
    have hcase : (m < xs.length + 1 ∧ k = m) ∨ (xs.length + 1 ≤ m ∧ k = xs.length + 1) := by omega
    have HK := Lib.hid hk; clear hk
    have hfin : ∀ W : World, (RList W r (m : Int) ((a :: xs).take k) (fun g => F g ∨ fresh w W g) ∧ Upd F w W) → RList W r (m : Int) ((a :: xs).take (m : Int).toNat) (fun g => F g ∨ fresh w W g) ∧ Upd F w W := by
      intro W hW
      rcases hcase with ⟨_, rfl⟩ | ⟨h1, rfl⟩
      · exact hW
      · rw [List.take_of_length_le (by simp; omega)]
        rwa [List.take_of_length_le (by simp)] at hW
    have HFIN := Lib.hid hfin
    clear hfin
    rcases hcase with ⟨hc1, hc2⟩ | ⟨hc1, hc2⟩
    all_goals
      have HC2 := Lib.hid hc2
      clear hc2
      go_enter Try.func28, Try.ntmps28
      go_wp2_with (first
        | (go_at_call 34; refine hd.out.mono ?_; rintro e w1 ⟨rfl, hg, hu⟩; obtain ⟨v, g1, g2, g3⟩ := hg.has; obtain ⟨ao, c, hv⟩ := (owns_reads g2).len; subst hv; have c0 : w1.cell? ⟨r, 0, none⟩ = some (.slice ao xs.length c) := cell_at g1 0; have c1 : w1.cell? ⟨r, 1, none⟩ = some (.int .i64 _) := cell_at g1 1; have f0 := free_at g1 0; have HG := Lib.hid hg; have HU := Lib.hid hu; have HR : ∀ o : Obj, Hid (Reads (w1.alloc o) 1 (.slice ao xs.length c) xs.length (xs.map (.int .u32))) := fun o => Lib.hid ((owns_reads g2).keep (fun g _ hg => Below.heap_alloc _ _ _ hg)); have hlt := lt_of_at g1; clear hg hu g1 g2 g3)
        | ((with_reducible change wpList _ _ _ (⟨_, Op.call { callee := Callee.builtin Builtin.append, args := _, argTypes := _ }, _, _, _, _⟩ :: _) _ _); refine wpl_append rfl _ _ 44 rfl w1.heap.size 23 i0 (.int .u32 0) 1 4 Try.underlying44 hi hz0 hz1 hz2 rfl (by decide) _ _ _ (owns_one w1 (.int .u32 a) 23) rfl _ _ _ (HR _).out rfl (one_u32 _) (by unfold maxLen; omega) (by omega) (by simp) ?_; intro v2 w2 hown hg2 _; obtain ⟨g2, c2, hv2, hle2, _, _⟩ := owns_pos hown (by omega); subst hv2; have hu2 : Upd (fun g => w1.heap.size ≤ g) w1 w2 := ((Upd.refl _ w1).alloc _).grown hg2 (fun g hg hl => by simp [Value.ownBlock] at hg; omega); have HO := Lib.hid hown; clear hown; have HU2 := Lib.hid hu2; clear hu2 hg2; have c02 := HU2.out.cell c0 (Nat.not_le.2 hlt); have c12 := HU2.out.cell c1 (Nat.not_le.2 hlt);  have f02 : w2.frozen? ⟨r, 0, none⟩ = false := by rw [World.frozen?_of_block (a := ⟨r, 0, none⟩) (HU2.out.block r hlt (Nat.not_le.2 hlt))]; exact f0))
      go_ret
      have hh := HG.out
      have ho := ownsRow_take HO.out (k := k) (by have := hkm; omega)
      have hp := hh.put HU2.out (ys := (a :: xs).take k) (n := k) (by rw [List.map_take]; simpa using ho) (by simp; omega)
      have hc := HC2.out
      first
        | (subst hc; exact ⟨rfl, HFIN.out _ (RList.after hp HU.out)⟩)
        | (obtain rfl : k = 1 + xs.length := (by omega); exact ⟨rfl, HFIN.out _ (RList.after hp HU.out)⟩)

def SameRel (xs ys : List Int) (n : Nat) (i : Value) : Prop := ∃ k : Nat, k + n = xs.length ∧ i = .int .i64 k ∧ xs.take k = ys.take k

set_option maxHeartbeats 2000000 in
theorem same_calls (w : World) (u v : Value) (xs ys : List Int) (hu : Reads w 1 u xs.length (xs.map (.int .u32))) (hv : Reads w 1 v ys.length (ys.map (.int .u32))) (hx : xs.length ≤ maxLen) :
    Calls Try.prog 18 #[u, v] w fun e w' => e = .returned (.bool (decide (xs = ys))) ∧ ∃ n, w' = w.drewN n := by
  obtain ⟨au, cu, hu1⟩ := hu.len
  obtain ⟨av, cv, hv1⟩ := hv.len
  subst hu1 hv1
  unfold maxLen at hx
  have HU := Lib.hid hu
  have HV := Lib.hid hv
  clear hu hv
  by_cases hl : xs.length = ys.length
  · have h1 : ((xs.length : Int) != (ys.length : Int)) = false := by simp [hl]
    have HL := Lib.hid hl; clear hl
    go_enter Try.func18, Try.ntmps18
    go_wp2_with fail
    go_loopg [5] xs.length (fun n i wr => SameRel xs ys n i ∧ ∃ d, wr = w.drewN d)
    case atStart => exact ⟨⟨0, by simp, rfl, rfl⟩, 0, rfl⟩
    case round =>
      obtain ⟨⟨k, hk, rfl, ht⟩, d, rfl⟩ := hrel
      have HT := Lib.hid ht; clear ht
      by_cases hlt : k < xs.length
      · have hk2 : k < ys.length := by have := HL.out; omega
        obtain ⟨bu, ou, e1, c1⟩ := HU.out.elem k hlt (by simp : (xs.map (Value.int .u32))[k]? = some (.int .u32 xs[k]))
        obtain ⟨bv, ov, e2, c2⟩ := HV.out.elem k hk2 (by simp : (ys.map (Value.int .u32))[k]? = some (.int .u32 ys[k]))
        obtain ⟨rfl, _⟩ := e1
        obtain ⟨rfl, _⟩ := e2
        have ex : xs.take (k + 1) = xs.take k ++ [xs[k]] := List.take_succ_eq_append_getElem hlt
        have ey : ys.take (k + 1) = ys.take k ++ [ys[k]] := List.take_succ_eq_append_getElem hk2
        generalize xs[k] = x at *
        generalize ys[k] = y at *
        have EX := Lib.hid ex; clear ex
        have EY := Lib.hid ey; clear ey
        by_cases hxy : x = y
        · have hb : (x != y) = false := by simp [hxy]
          have HXY := Lib.hid hxy; clear hxy
          go_wp2_with fail
          go_quiet (fail)
          go_wp2_with fail
          go_roundg (gk - 1)
          case measure => omega
          case rel => exact ⟨⟨k + 1, by omega, by go_num, by rw [EX.out, EY.out, HT.out, HXY.out]⟩, _, rfl⟩
        · have hb : (x != y) = true := by simpa using hxy
          have HXY := Lib.hid hxy; clear hxy
          go_wp2_with fail
          go_quiet (fail)
          go_wp2_with fail
          go_ret
          have hne : xs ≠ ys := by
            intro e
            have h1 := EX.out
            rw [e, EY.out, ← HT.out, e] at h1
            have := List.append_cancel_left h1
            simp at this
            exact HXY.out this.symm
          exact ⟨by simp [hne], d + nq, by simp [World.drewN, Nat.add_assoc]⟩
      · have : ¬ ((k : Int) < (xs.length : Int)) := by omega
        go_wp2_with fail
        go_ret
        have e : xs = ys := by
          have h := HT.out
          rwa [List.take_of_length_le (by omega), List.take_of_length_le (by have := HL.out; omega)] at h
        exact ⟨by simp [e], d, rfl⟩
  · have h1 : ((xs.length : Int) != (ys.length : Int)) = true := by simp; omega
    have he : decide (xs = ys) = false := by simp; intro e; exact hl (by rw [e])
    rw [he]
    clear hl he
    go_enter Try.func18, Try.ntmps18
    go_wp2_with fail
    go_ret
    exact ⟨rfl, 0, rfl⟩
end Go.Proofs.Ytfpbkofjbnmkeaa
