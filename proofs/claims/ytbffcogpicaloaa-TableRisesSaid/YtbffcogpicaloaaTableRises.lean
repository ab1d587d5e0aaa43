/- What this text proves: the walk of TableRises. No conditions. -/
import Derived.Test.YtbffcogpicaloaaTableLaws
namespace Go.Proofs.Ytbffcogpicaloaa.tableRises
open Go Go.RowKit
open Go.Proofs Go.Proofs.Ytbffcogpicaloaa

/-- behind k acts. -/
structure St (w : World) (B b : Nat) (v : Value) (F : Nat → Prop) (n k : Nat) (t : Tab) (wr : World) : Prop where
  tab : TabV wr b v t F
  good : t.Good
  next : t.next ≤ k + 1
  len : t.rows.length = n
  below : Below B w wr
  size : B ≤ wr.heap.size
def Rel (w : World) (B b : Nat) (v : Value) (F : Nat → Prop) (n m g : Nat) (last i : Value) (wr : World) : Prop := ∃ (k : Nat) (t : Tab), k + g = m ∧ i = .int .i64 k ∧ last = .int .u64 (t.next - 1) ∧ St w B b v F n k t wr

set_option maxRecDepth 10000 in
set_option maxHeartbeats 4000000 in
theorem walk (n : Int) (acts : List (Int × Int)) (v : Value) (w : World) (hn0 : 0 ≤ n) (hn1 : n ≤ 255)
    (hv : Reads w 2 v acts.length (acts.flatMap actCells)) (hl : acts.length ≤ maxLen) (hw : ∀ p ∈ acts, (Lit.int .u8 p.1).wf = true ∧ (Lit.int .i64 p.2).wf = true) :
    Calls Try.prog 4 #[.int .u8 n, v] w fun e w' => e = .returned (.bool true) ∧ Below w.heap.size w w' := by
  obtain ⟨m, rfl⟩ : ∃ m : Nat, n = m := ⟨n.toNat, by omega⟩
  obtain ⟨B, hB⟩ : ∃ B, B = w.heap.size := ⟨_, rfl⟩
  rw [← hB]
  have HV := Lib.hid hv; clear hv
  have HW := Lib.hid hw; clear hw
  obtain ⟨va, vc, hva⟩ := HV.out.len
  subst hva
  have HB := Lib.hid hB; clear hB
  go_enter Try.func4, Try.ntmps4
  go_wp2_with fail
  refine (shown11_calls w).mono ?_
  rintro e w0 ⟨rfl, hb0⟩
  rw [← HB.out] at hb0
  have hs0 : B ≤ w0.heap.size := by have := hb0.size; rw [HB.out]; exact this
  go_wp2_with fail
  refine (new_calls w0 m (by omega)).mono ?_
  rintro e w1 ⟨b, tv, rfl, hT, hu⟩
  have HS : Hid (St w B b tv (fresh w0 w1) m 0 (newT m) w1 ∧ ∀ k, fresh w0 w1 k → B ≤ k) := Lib.hid ⟨⟨hT, newT_good m (by omega), by simp [newT], by simp [newT], hb0.trans (hu.below hs0 (fun _ f => f.elim)), Nat.le_trans hs0 hu.size⟩, fun k hk => Nat.le_trans hs0 hk.1⟩
  generalize fresh w0 w1 = F at HS
  clear hT hu hb0 hs0
  go_wp2_with fail
  have hv1 : Reads w1 2 (.slice va acts.length vc) acts.length (acts.flatMap actCells) := HV.out.below HS.out.1.below (by rw [HB.out]; exact Nat.le_refl _)
  refine (few_calls w1 _ _ _ hv1 hl).mono ?_
  rintro e w1 ⟨v1, rfl, hsl, rfl⟩
  have hv2 := hsl.1 _ _ HV.out
  clear hsl hv1
  simp only [Nat.zero_mul, List.drop_zero, Nat.sub_zero] at hv2
  rw [flatMap_take actCells 2 (fun _ => rfl)] at hv2
  obtain ⟨acts', hacts⟩ : ∃ acts', acts' = acts.take (min acts.length 300) := ⟨_, rfl⟩
  rw [← hacts] at hv2
  have hlen : acts'.length = min acts.length 300 := by rw [hacts]; simp
  rw [← hlen] at hv2
  have hw' : Hid (∀ p ∈ acts', (Lit.int .u8 p.1).wf = true ∧ (Lit.int .i64 p.2).wf = true) := Lib.hid (fun p hp => HW.out p (List.mem_of_mem_take (by rw [← hacts]; exact hp)))
  have hle : acts'.length ≤ 300 := by omega
  obtain ⟨va1, vc1, hva1⟩ := hv2.len
  subst hva1
  have HV2 := Lib.hid hv2
  clear hv2 hacts hlen HV HW
  go_wp2_with fail
  go_loopg [8, 32] acts'.length (fun g last i wr => Rel w B b tv F m acts'.length g last i wr)
  case atStart => exact ⟨0, newT m, by simp, rfl, by simp [newT], HS.out.1⟩
  case round =>
    obtain ⟨k, t, hk, rfl, rfl, hst⟩ := hrel
    have HC := Lib.hid hst; clear hst
    have HF := Lib.hid HS.out.2; clear HS
    obtain ⟨ls, hls⟩ : ∃ ls, ls = t.next - 1 := ⟨_, rfl⟩
    rw [← hls]
    have hlr : 0 ≤ ls + 1 ∧ ls ≤ k := by have := HC.out.good.next; have := HC.out.next; omega
    have HLS := Lib.hid hls; clear hls
    have HLR := Lib.hid hlr; clear hlr
    by_cases hlt : k < acts'.length
    · obtain ⟨kd, sg, hgb⟩ : ∃ g b, acts'[k] = (g, b) := ⟨_, _, rfl⟩
      have HGB := Lib.hid hgb; clear hgb
      have hwb : Hid ((Lit.int .u8 kd).wf = true ∧ (Lit.int .i64 sg).wf = true) := Lib.hid (by have := hw'.out acts'[k] (List.getElem_mem _); rw [HGB.out] at this; exact this)
      have hkd := wf_u8 hwb.out.1
      have HX := Lib.hid hlt
      have HR : Hid (Reads wr 2 (.slice va1 acts'.length vc1) acts'.length (acts'.flatMap actCells)) := Lib.hid (HV2.out.below HC.out.below (by rw [HB.out]; exact Nat.le_refl _))
      have HK := Lib.hid (acts_cells hlt HGB.out)
      have htb : Hid (TabV (wr.alloc (.cells #[.int .u8 kd, .int .i64 sg] 41)) b tv t F) := Lib.hid (HC.out.tab.upd ((Upd.refl (fun _ => False) wr).alloc _) (fun _ _ f => f))
      go_wp2_with (first
        | ((with_reducible change wpList _ _ _ (⟨_, Op.indexAddr _ _ _, _, _, _, _⟩ :: _) _ _); refine wpl_index rfl _ _ _ rfl 41 2 Try.underlying38 sizeAct (by decide) _ _ _ HR.out rfl k rfl HX.out ?_; intro bk off _ hcell; have c0 := hcell 0 _ HK.out.1; have c1 := hcell 1 _ HK.out.2; clear hcell; simp only [Nat.add_zero] at c0))
      refine calls_world fun W hW => ?_
      obtain ⟨cc, hcc⟩ : ∃ cc, cc = wr.heap.size := ⟨_, rfl⟩
      have hm : (W.cell? ⟨cc, 0, none⟩ = some (.int .u8 kd) ∧ W.cell? ⟨cc, 1, none⟩ = some (.int .i64 sg)) ∧ cc < W.heap.size ∧ TabV W b tv t F ∧ ¬ F cc ∧ Below B w W ∧ B ≤ W.heap.size := by
        refine ⟨⟨by rw [hW, hcc]; simp, by rw [hW, hcc]; simp⟩, by rw [hW, hcc]; simp, by rw [hW]; exact htb.out, fun f => ?_, by rw [hW]; exact HC.out.below.alloc HC.out.size _, by rw [hW]; have := HC.out.size; simp; omega⟩
        have := HC.out.tab.lt cc f
        omega
      have HM := Lib.hid hm; clear hm
      rw [← hcc]
      clear hW hcc htb
      refine (rows_calls W b tv t F HM.out.2.2.1 HC.out.good.len).mono ?_
      rintro e w2 ⟨v2, rfl, ho2, hb2⟩
      obtain ⟨a2, c2, hv2⟩ := (owns_reads ho2).len
      subst hv2
      have n0 : w2.cell? ⟨cc, 0, none⟩ = some (.int .u8 kd) := (hb2.cell (p := ⟨cc, 0, none⟩) HM.out.2.1).trans HM.out.1.1
      have n1 : w2.cell? ⟨cc, 1, none⟩ = some (.int .i64 sg) := (hb2.cell (p := ⟨cc, 1, none⟩) HM.out.2.1).trans HM.out.1.2
      have hA : TabV w2 b tv t F ∧ Below B w w2 ∧ B ≤ w2.heap.size ∧ cc < w2.heap.size := ⟨HM.out.2.2.1.upd (below_upd hb2) (fun k hk => Nat.not_le.2 (HM.out.2.2.1.lt k hk)), HM.out.2.2.2.2.1.trans (hb2.mono HM.out.2.2.2.2.2), Nat.le_trans HM.out.2.2.2.2.2 hb2.size, Nat.lt_of_lt_of_le HM.out.2.1 hb2.size⟩
      have HA := Lib.hid hA; clear hA
      have HO2 := Lib.hid ho2
      have HB2 := Lib.hid hb2
      clear ho2 hb2
      go_wp2_with fail
      have hwr : IntKind.u64.wrap (ls + 1) = ls + 1 := by have := HLR.out; have := HX.out; simp [IntKind.wrap, IntKind.bits, IntKind.signed]; omega
      rcases doT_cases HC.out.good (kd, sg) with ⟨ri, rs, rc, t3, he, hc, hnx⟩ | ⟨j, h0, hj, hjk, he⟩
      · have HE := Lib.hid he; clear he
        refine (does_at HA.out.1 HC.out.good hwb.out.1 HE.out).mono ?_
        rintro e w3 ⟨rfl, hT3, hu3⟩
        have p0 : w3.cell? ⟨cc, 0, none⟩ = some (.int .u8 kd) := hu3.cell n0 HM.out.2.2.2.1
        have hgood := HC.out.good.act (by have := HLS.out; have := HLR.out; have := HX.out; omega) (kd, sg)
        rw [HE.out] at hgood
        have hA3 : Hid (St w B b tv F m (k + 1) _ w3) := Lib.hid ⟨hT3, hgood.1, by have := HC.out.next; have := hgood.2.1; push_cast; omega, hgood.2.2.trans HC.out.len, HA.out.2.1.trans (hu3.below HA.out.2.2.1 HF.out), Nat.le_trans HA.out.2.2.1 hu3.size⟩
        have HU3 := Lib.hid hu3
        clear hT3 hu3 n0 n1 hgood
        have hlr := HLR.out
        have hq : Hid (t3.next = ls + 1) := Lib.hid (by rw [hnx, HLS.out]; omega)
        clear hnx
        rcases hc with h0 | ⟨h0, hc⟩
        · have h0' : (kd % 3 == 0) = false := by simpa using h0
          go_wp2_with fail
          refine (next_calls _ b tv _ F hA3.out.tab).mono ?_
          rintro e wz ⟨rfl, rfl⟩
          rw [hq.out]
          go_wp2_with fail
          go_roundg (acts'.length - (k + 1))
          case measure => have := HX.out; omega
          case rel => exact ⟨k + 1, t3, by have := HX.out; omega, by go_num, by rw [hq.out]; simp, hA3.out⟩
        · have hc' : (rc == 0) = false := by simpa using hc
          simp only at h0
          go_wp2_with fail
          refine (next_calls _ b tv _ F hA3.out.tab).mono ?_
          rintro e wz ⟨rfl, rfl⟩
          rw [hq.out]
          go_wp2_with fail
          go_roundg (acts'.length - (k + 1))
          case measure => have := HX.out; omega
          case rel => exact ⟨k + 1, t3, by have := HX.out; omega, by go_num, by rw [hq.out]; simp, hA3.out⟩
      · have HE := Lib.hid he; clear he
        refine (does_at HA.out.1 HC.out.good hwb.out.1 HE.out).mono ?_
        rintro e w3 ⟨rfl, hT3, hu3⟩
        have p0 : w3.cell? ⟨cc, 0, none⟩ = some (.int .u8 kd) := hu3.cell n0 HM.out.2.2.2.1
        have hgood := HC.out.good.act (by have := HLS.out; have := HLR.out; have := HX.out; omega) (kd, sg)
        rw [HE.out] at hgood
        have hA3 : Hid (St w B b tv F m (k + 1) _ w3) := Lib.hid ⟨hT3, hgood.1, by have := HC.out.next; have := hgood.2.1; push_cast; omega, hgood.2.2.trans HC.out.len, HA.out.2.1.trans (hu3.below HA.out.2.2.1 HF.out), Nat.le_trans HA.out.2.2.1 hu3.size⟩
        have HU3 := Lib.hid hu3
        clear hT3 hu3 n0 n1 hgood
        have hlr := HLR.out
        simp only at h0
        go_wp2_with fail
        refine (rows_calls _ b tv _ F hA3.out.tab hA3.out.good.len).mono ?_
        rintro e w4 ⟨v4, rfl, ho4, hb4⟩
        have hj4 : j < (t.rows.set j (opened t (t.rows.getD j .zero))).length := by simpa using hj
        obtain ⟨g4, c4, hv4, _⟩ := owns_pos ho4 (Nat.lt_of_le_of_lt (Nat.zero_le j) hj4)
        subst hv4
        obtain ⟨g2, c2', hv2, _, _, hg2⟩ := owns_pos HO2.out (Nat.lt_of_le_of_lt (Nat.zero_le j) hj)
        cases hv2
        have hi2 := fun w => run_index_own (P := Try.prog) (c := c2) (g := g2) Try.underlying33 sizeSeg hj w
        have hi4 := fun w => run_index_own (P := Try.prog) (c := c4) (g := g4) Try.underlying33 sizeSeg hj4 w
        have q2 : w2.cell? ⟨g2, j * 3 + 0, none⟩ = some (.int .u8 0) := by
          have := owns_cell HO2.out (Seg.at_ (j := 0) hj (by omega))
          rw [this]
          show some (Value.int .u8 (t.rows.getD j .zero).kind) = _
          rw [hjk]
        have hgF : ¬ F g2 := fun f => by
          have := HM.out.2.2.1.lt g2 f
          have := (HO2.out.lt g2 rfl).1
          omega
        have q3 := HU3.out.cell q2 hgF
        have q4 : w4.cell? ⟨g2, j * 3 + 0, none⟩ = some (.int .u8 0) := (hb4.cell (p := ⟨g2, j * 3 + 0, none⟩) (Nat.lt_of_lt_of_le hg2 HU3.out.size)).trans q3
        have r4 : w4.cell? ⟨g4, j * 3 + 0, none⟩ = some (.int .u8 1) := by
          have := owns_cell ho4 (Seg.at_ (j := 0) hj4 (by omega))
          rw [this, getD_at hj4]
          simp [opened]
        have hlen4 : (t.rows.set j (opened t (t.rows.getD j .zero))).length = t.rows.length := by simp
        rw [hlen4] at hi4 ⊢
        have hst4 : St w B b tv F m (k + 1) ⟨t.rows.set j (opened t (t.rows.getD j .zero)), t.next + 1, j⟩ w4 := by
          have h3 := hA3.out
          exact ⟨h3.tab.upd (below_upd hb4) (fun i hi => Nat.not_le.2 (h3.tab.lt i hi)), h3.good, h3.next, h3.len, h3.below.trans (hb4.mono h3.size), Nat.le_trans h3.size hb4.size⟩
        have HST4 := Lib.hid hst4
        clear hst4 q2 q3 ho4 hb4 hgF hlen4 hj4 p0
        simp only [Nat.add_zero] at q4 r4
        have htn : t.next = ls + 1 := by rw [HLS.out]; omega
        rw [htn]
        have HTN := Lib.hid htn; clear htn
        have hd1 : decide ((t.rows.length : Int) ≤ (j : Int)) = false := by simpa using hj
        go_wp2_with fail
        refine (next_calls _ b tv _ F HST4.out.tab).mono ?_
        rintro e wz ⟨rfl, rfl⟩
        simp only [HTN.out]
        have hwr2 : IntKind.u64.wrap (ls + 1 + 1) = ls + 1 + 1 := by have := HX.out; simp [IntKind.wrap, IntKind.bits, IntKind.signed]; omega
        go_wp2_with fail
        go_roundg (acts'.length - (k + 1))
        case measure => have := HX.out; omega
        case rel => exact ⟨k + 1, _, by have := HX.out; omega, by go_num, by simp [HTN.out], HST4.out⟩
    · have hb := HC.out.below
      have : ¬ ((k : Int) < (acts'.length : Int)) := by omega
      go_wp2_with fail
      go_ret
      exact ⟨rfl, hb⟩
end Go.Proofs.Ytbffcogpicaloaa.tableRises
