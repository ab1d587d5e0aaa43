/- What this text proves: the walk of TableBack. No conditions. -/
import Derived.Test.YtbffcogpicaloaaTableLoad
namespace Go.Proofs.Ytbffcogpicaloaa.tableBack
open Go Go.RowKit
open Go.Proofs Go.Proofs.Ytbffcogpicaloaa

structure St (w : World) (B b : Nat) (v : Value) (F : Nat → Prop) (n q : Nat) (t : Tab) (wr : World) : Prop where
  tab : TabV wr b v t F
  ok : t.Ok
  next : t.next ≤ q + 1
  len : t.rows.length = n
  below : Below B w wr
  size : B ≤ wr.heap.size
def Rel (w : World) (B b : Nat) (v : Value) (F : Nat → Prop) (n m g : Nat) (i : Value) (wr : World) : Prop := ∃ (k : Nat) (t : Tab), k + g = m ∧ i = .int .i64 k ∧ St w B b v F n k t wr
def Rel2 (w : World) (B b : Nat) (v : Value) (F : Nat → Prop) (b2 : Nat) (v2 : Value) (F2 : Nat → Prop) (n m g : Nat) (i : Value) (wr : World) : Prop := ∃ (k : Nat) (t : Tab), k + g = m ∧ i = .int .i64 k ∧ St w B b v F n (300 + k) t wr ∧ TabV wr b2 v2 t F2

theorem St.act {w : World} {B b : Nat} {v : Value} {F : Nat → Prop} {n q : Nat} {t : Tab} {wr : World} (h : St w B b v F n q t wr) (hq : q ≤ 1000) (hF : ∀ k, F k → B ≤ k) {kd sg : Int} (hk : (Lit.int .u8 kd).wf = true) (o : Obj) :
    Calls Try.prog 16 #[.pointer (some ⟨b, 0, none⟩), .agg #[.int .u8 kd, .int .i64 sg]] (wr.alloc o) fun e w' =>
      e = .returned (.tuple #[.int .i64 (doT t (kd, sg)).1.1, .int .u64 (doT t (kd, sg)).1.2.1, .int .i64 (doT t (kd, sg)).1.2.2]) ∧ St w B b v F n (q + 1) (doT t (kd, sg)).2 w' ∧ Upd F (wr.alloc o) w' := by
  have hal := (Upd.refl (fun _ => False) wr).alloc o
  have hn := h.next
  have hn2 : t.next + 1 < 9223372036854775808 := by omega
  refine (does_calls (wr.alloc o) b v t F (h.tab.upd hal (fun _ _ f => f)) h.ok.good kd sg hk).mono ?_
  rintro e w' ⟨rfl, hT, hu⟩
  have hg := h.ok.good.act hn2 (kd, sg)
  have hs : B ≤ (wr.alloc o).heap.size := by have := h.size; simp; omega
  exact ⟨rfl, ⟨hT, h.ok.act hn2 (kd, sg), by have := hg.2.1; push_cast; omega, hg.2.2.trans h.len, below_new (h.below.alloc h.size o) hu hs hF, Nat.le_trans hs hu.size⟩, hu⟩

set_option maxRecDepth 10000 in
set_option maxHeartbeats 4000000 in
theorem walk (n : Int) (acts more : List (Int × Int)) (v x : Value) (w : World) (hn0 : 0 ≤ n) (hn1 : n ≤ 255)
    (hv : Reads w 2 v acts.length (acts.flatMap actCells)) (hl : acts.length ≤ maxLen) (hw : ∀ p ∈ acts, (Lit.int .u8 p.1).wf = true ∧ (Lit.int .i64 p.2).wf = true)
    (hx : Reads w 2 x more.length (more.flatMap actCells)) (hlx : more.length ≤ maxLen) (hwx : ∀ p ∈ more, (Lit.int .u8 p.1).wf = true ∧ (Lit.int .i64 p.2).wf = true) :
    Calls Try.prog 5 #[.int .u8 n, v, x] w fun e w' => e = .returned (.bool true) ∧ Below w.heap.size w w' := by
  obtain ⟨m, rfl⟩ : ∃ m : Nat, n = m := ⟨n.toNat, by omega⟩
  obtain ⟨B, hB⟩ : ∃ B, B = w.heap.size := ⟨_, rfl⟩
  rw [← hB]
  have HV := Lib.hid hv; clear hv
  have HXX := Lib.hid hx; clear hx
  have HW := Lib.hid hw; clear hw
  have HWX := Lib.hid hwx; clear hwx
  obtain ⟨va, vc, hva⟩ := HV.out.len
  subst hva
  obtain ⟨xa, xc, hxa⟩ := HXX.out.len
  subst hxa
  have HB := Lib.hid hB; clear hB
  go_enter Try.func5, Try.ntmps5
  go_wp2_with fail
  refine (shown11_calls w).mono ?_
  rintro e w0 ⟨rfl, hb0⟩
  rw [← HB.out] at hb0
  have hs0 : B ≤ w0.heap.size := by have := hb0.size; rw [HB.out]; exact this
  go_wp2_with fail
  refine (new_calls w0 m (by omega)).mono ?_
  rintro e w1 ⟨b, tv, rfl, hT, hu⟩
  have HS : Hid (St w B b tv (fresh w0 w1) m 0 (newT m) w1 ∧ ∀ k, fresh w0 w1 k → B ≤ k) := Lib.hid ⟨⟨hT, newT_ok m (by omega), by simp [newT], by simp [newT], hb0.trans (hu.below hs0 (fun _ f => f.elim)), Nat.le_trans hs0 hu.size⟩, fun k hk => Nat.le_trans hs0 hk.1⟩
  generalize fresh w0 w1 = F at HS
  clear hT hu hb0 hs0
  go_wp2_with fail
  have hv1 : Reads w1 2 (.slice va acts.length vc) acts.length (acts.flatMap actCells) := HV.out.below HS.out.1.below (by rw [HB.out]; exact Nat.le_refl _)
  refine (few_calls w1 _ _ _ hv1 hl).mono ?_
  rintro e w1 ⟨v1, rfl, hsl, rfl⟩
  have hv2 := hsl.1 _ _ HV.out
  clear hsl hv1
  simp only [Nat.zero_mul, List.drop_zero, Nat.sub_zero] at hv2
  rw [flatMap_take actCells 2 (fun _ => rfl)] at hv2
  obtain ⟨acts', hacts⟩ : ∃ acts', acts' = acts.take (min acts.length 300) := ⟨_, rfl⟩
  rw [← hacts] at hv2
  have hlen : acts'.length = min acts.length 300 := by rw [hacts]; simp
  rw [← hlen] at hv2
  have hw' : Hid (∀ p ∈ acts', (Lit.int .u8 p.1).wf = true ∧ (Lit.int .i64 p.2).wf = true) := Lib.hid (fun p hp => HW.out p (List.mem_of_mem_take (by rw [← hacts]; exact hp)))
  have hle : acts'.length ≤ 300 := by omega
  obtain ⟨va1, vc1, hva1⟩ := hv2.len
  subst hva1
  have HV2 := Lib.hid hv2
  clear hv2 hacts hlen HV HW
  go_wp2_with fail
  go_loopg [38] acts'.length (fun g i wr => Rel w B b tv F m acts'.length g i wr)
  case atStart => exact ⟨0, newT m, by simp, rfl, HS.out.1⟩
  case round =>
    obtain ⟨k, t, hk, rfl, hst⟩ := hrel
    have HC := Lib.hid hst; clear hst
    have HF := Lib.hid HS.out.2; clear HS
    by_cases hlt : k < acts'.length
    · obtain ⟨kd, sg, hgb⟩ : ∃ g b, acts'[k] = (g, b) := ⟨_, _, rfl⟩
      have HGB := Lib.hid hgb; clear hgb
      have hwb : Hid ((Lit.int .u8 kd).wf = true ∧ (Lit.int .i64 sg).wf = true) := Lib.hid (by have := hw'.out acts'[k] (List.getElem_mem _); rw [HGB.out] at this; exact this)
      have HX := Lib.hid hlt
      have HR : Hid (Reads wr 2 (.slice va1 acts'.length vc1) acts'.length (acts'.flatMap actCells)) := Lib.hid (HV2.out.below HC.out.below (by rw [HB.out]; exact Nat.le_refl _))
      have HK := Lib.hid (acts_cells hlt HGB.out)
      have hk1 : k ≤ 1000 := by omega
      have hc := Lib.hid (fun o => HC.out.act hk1 HF.out (kd := kd) (sg := sg) hwb.out.1 o)
      go_wp2_with (first
        | ((with_reducible change wpList _ _ _ (⟨_, Op.indexAddr _ _ _, _, _, _, _⟩ :: _) _ _); refine wpl_index rfl _ _ _ rfl 41 2 Try.underlying38 sizeAct (by decide) _ _ _ HR.out rfl k rfl HX.out ?_; intro bk off _ hcell; have c0 := hcell 0 _ HK.out.1; have c1 := hcell 1 _ HK.out.2; clear hcell; simp only [Nat.add_zero] at c0)
        | (go_at_call 16; refine (hc.out _).mono ?_; rintro e w2 ⟨rfl, hst2, _⟩; have HST2 := Lib.hid hst2; clear hst2))
      go_roundg (acts'.length - (k + 1))
      case measure => have := HX.out; omega
      case rel => exact ⟨k + 1, _, by have := HX.out; omega, by go_num, HST2.out⟩
    · have hk3 : k ≤ 300 := by omega
      have HC3 : Hid (St w B b tv F m 300 t wr) := Lib.hid ⟨HC.out.tab, HC.out.ok, by have := HC.out.next; push_cast; omega, HC.out.len, HC.out.below, HC.out.size⟩
      have hnlt : ¬ ((k : Int) < (acts'.length : Int)) := by omega
      go_wp2_with fail
      clear hk hlt hnlt
      refine (rows_calls _ b tv t F HC3.out.tab HC3.out.ok.good.len).mono ?_
      rintro e w2 ⟨v2, rfl, ho2, hb2⟩
      obtain ⟨a2, c2, hv2⟩ := (owns_reads ho2).len
      subst hv2
      have H2 : Hid (St w B b tv F m 300 t w2 ∧ ∀ i, F i → i < w2.heap.size) := Lib.hid (by
        have h := HC3.out
        have h1 := h.tab.upd (below_upd hb2) (fun i hi => Nat.not_le.2 (h.tab.lt i hi))
        exact ⟨⟨h1, h.ok, h.next, h.len, h.below.trans (hb2.mono h.size), Nat.le_trans h.size hb2.size⟩, h1.lt⟩)
      have HO2 := Lib.hid ho2; clear ho2 hb2 HC HC3
      go_wp2_with fail
      refine (next_calls _ b tv t F H2.out.1.tab).mono ?_
      rintro e w2 ⟨rfl, rfl⟩
      go_wp2_with fail
      refine (load_calls _ _ t H2.out.1.ok (by have := H2.out.1.len; omega) (owns_reads HO2.out)).mono ?_
      rintro e w3 ⟨b2, tv2, F2, rfl, hT2, hF2, hb3⟩
      have H3 : Hid ((St w B b tv F m 300 t w3 ∧ TabV w3 b2 tv2 t F2) ∧ (∀ i, F2 i → B ≤ i) ∧ ∀ i, F i → ¬ F2 i) := Lib.hid (by
        have h := H2.out.1
        exact ⟨⟨⟨h.tab.upd (below_upd hb3) (fun i hi => Nat.not_le.2 (h.tab.lt i hi)), h.ok, h.next, h.len, h.below.trans (hb3.mono h.size), Nat.le_trans h.size hb3.size⟩, hT2⟩, fun i hi => Nat.le_trans h.size (hF2 i hi), fun i hi h2 => by have := h.tab.lt i hi; have := hF2 i h2; omega⟩)
      clear hT2 hF2 hb3 H2
      go_wp2_with fail
      have hx1 : Reads w3 2 (.slice xa more.length xc) more.length (more.flatMap actCells) := HXX.out.below H3.out.1.1.below (by rw [HB.out]; exact Nat.le_refl _)
      refine (few_calls w3 _ _ _ hx1 hlx).mono ?_
      rintro e w3 ⟨v1, rfl, hsl, rfl⟩
      have hx2 := hsl.1 _ _ HXX.out
      clear hsl hx1
      simp only [Nat.zero_mul, List.drop_zero, Nat.sub_zero] at hx2
      rw [flatMap_take actCells 2 (fun _ => rfl)] at hx2
      obtain ⟨more', hmore⟩ : ∃ more', more' = more.take (min more.length 300) := ⟨_, rfl⟩
      rw [← hmore] at hx2
      have hlenx : more'.length = min more.length 300 := by rw [hmore]; simp
      rw [← hlenx] at hx2
      have hwx' : Hid (∀ p ∈ more', (Lit.int .u8 p.1).wf = true ∧ (Lit.int .i64 p.2).wf = true) := Lib.hid (fun p hp => HWX.out p (List.mem_of_mem_take (by rw [← hmore]; exact hp)))
      have hlex : more'.length ≤ 300 := by omega
      obtain ⟨xa1, xc1, hxa1⟩ := hx2.len
      subst hxa1
      have HX2 := Lib.hid hx2
      clear hx2 hmore hlenx HXX HWX
      go_wp2_with fail
      go_loopg [63] more'.length (fun g i wr => Rel2 w B b tv F b2 tv2 F2 m more'.length g i wr)
      case atStart => exact ⟨0, t, by simp, rfl, H3.out.1⟩
      case round =>
        obtain ⟨q, u, hq, rfl, hst⟩ := hrel
        have HC := Lib.hid hst; clear hst
        have HFF := Lib.hid H3.out.2; clear H3
        by_cases hlq : q < more'.length
        · obtain ⟨kd, sg, hgb⟩ : ∃ g b, more'[q] = (g, b) := ⟨_, _, rfl⟩
          have HGB := Lib.hid hgb; clear hgb
          have hwb : Hid ((Lit.int .u8 kd).wf = true ∧ (Lit.int .i64 sg).wf = true) := Lib.hid (by have := hwx'.out more'[q] (List.getElem_mem _); rw [HGB.out] at this; exact this)
          have HX := Lib.hid hlq
          have HR : Hid (Reads wr 2 (.slice xa1 more'.length xc1) more'.length (more'.flatMap actCells)) := Lib.hid (HX2.out.below HC.out.1.below (by rw [HB.out]; exact Nat.le_refl _))
          have HK := Lib.hid (acts_cells hlq HGB.out)
          have hk1 : 300 + q ≤ 1000 := by omega
          have hF : Hid (∀ k, F k → B ≤ k) := HF
          have hc := Lib.hid (fun o => HC.out.1.act hk1 hF.out (kd := kd) (sg := sg) hwb.out.1 o)
          have hT2 : Hid (TabV (wr.alloc (.cells #[.int .u8 kd, .int .i64 sg] 41)) b2 tv2 u F2) := Lib.hid (HC.out.2.upd ((Upd.refl (fun _ => False) wr).alloc _) (fun _ _ f => f))
          have hcc1 : Hid ((wr.alloc (.cells #[.int .u8 kd, .int .i64 sg] 41)).cell? ⟨wr.heap.size, 0, none⟩ = some (.int .u8 kd) ∧ (wr.alloc (.cells #[.int .u8 kd, .int .i64 sg] 41)).cell? ⟨wr.heap.size, 1, none⟩ = some (.int .i64 sg) ∧ ¬ F wr.heap.size) := Lib.hid ⟨by simp, by simp, fun f => by have := HC.out.1.tab.lt _ f; omega⟩
          go_wp2_with (first
            | ((with_reducible change wpList _ _ _ (⟨_, Op.indexAddr _ _ _, _, _, _, _⟩ :: _) _ _); refine wpl_index rfl _ _ _ rfl 41 2 Try.underlying38 sizeAct (by decide) _ _ _ HR.out rfl q rfl HX.out ?_; intro bk off _ hcell; have c0 := hcell 0 _ HK.out.1; have c1 := hcell 1 _ HK.out.2; clear hcell; simp only [Nat.add_zero] at c0)
            | (go_at_call 16; refine (hc.out _).mono ?_; rintro e w4 ⟨rfl, hst4, hu4⟩; have HST4 := Lib.hid hst4; have HU4 := Lib.hid hu4; clear hst4 hu4; have n0 := HU4.out.cell hcc1.out.1 hcc1.out.2.2; have n1 := HU4.out.cell hcc1.out.2.1 hcc1.out.2.2; have hT4 := Lib.hid (hT2.out.upd HU4.out (fun i hi hf => HFF.out.2 i hf hi)); clear hc))
          have hgd := HC.out.1.ok.good
          obtain ⟨res, hres⟩ : ∃ res, doT u (kd, sg) = res := ⟨_, rfl⟩
          rw [hres] at HST4
          have HRES := Lib.hid hres
          simp only [hres]
          clear hres
          obtain ⟨⟨ri, rs, rc⟩, t'⟩ := res
          simp only at HST4
          refine (does_at hT4.out hgd hwb.out.1 HRES.out).mono ?_
          rintro e w5 ⟨rfl, hT5, hu5⟩
          have H5 : Hid (St w B b tv F m (300 + (q + 1)) t' w5 ∧ TabV w5 b2 tv2 t' F2) := Lib.hid (by
            have h := HST4.out
            exact ⟨⟨h.tab.upd hu5 HFF.out.2, h.ok, h.next, h.len, below_new h.below hu5 h.size HFF.out.1, Nat.le_trans h.size hu5.size⟩, hT5⟩)
          clear hT5 hu5 n0 n1 hgd
          go_wp2_with fail
          go_roundg (more'.length - (q + 1))
          case measure => have := HX.out; omega
          case rel => exact ⟨q + 1, t', by have := HX.out; omega, by go_num, H5.out⟩
        · have hnl : ¬ ((q : Int) < (more'.length : Int)) := by omega
          have hgl := HC.out.1.ok.good.len
          have HGL := Lib.hid hgl; clear hgl
          go_wp2_with (first
            | (go_at_call 14; refine (rows_calls _ b tv u F HC.out.1.tab HGL.out).mono ?_; rintro e w6 ⟨v6, rfl, ho6, hb6⟩; obtain ⟨a6, c6, hv6⟩ := (owns_reads ho6).len; subst hv6; have H6 : Hid ((St w B b tv F m (300 + q) u w6 ∧ TabV w6 b2 tv2 u F2) ∧ w6.ownsRow wr.heap.size 36 3 (.slice a6 u.rows.length c6) u.rows.length (u.rows.flatMap Seg.cells)) := (Lib.hid ⟨⟨⟨HC.out.1.tab.upd (below_upd hb6) (fun i hi => Nat.not_le.2 (HC.out.1.tab.lt i hi)), HC.out.1.ok, HC.out.1.next, HC.out.1.len, HC.out.1.below.trans (hb6.mono HC.out.1.size), Nat.le_trans HC.out.1.size hb6.size⟩, HC.out.2.upd (below_upd hb6) (fun i hi => Nat.not_le.2 (HC.out.2.lt i hi))⟩, ho6⟩); clear ho6 hb6)
            | (go_at_call 14; refine (rows_calls _ b2 tv2 u F2 H6.out.1.2 HGL.out).mono ?_; rintro e w7 ⟨v7, rfl, ho7, hb7⟩; obtain ⟨a7, c7, hv7⟩ := (owns_reads ho7).len; subst hv7; have H7 : Hid ((St w B b tv F m (300 + q) u w7 ∧ TabV w7 b2 tv2 u F2) ∧ Reads w7 3 (.slice a6 u.rows.length c6) u.rows.length (u.rows.flatMap Seg.cells) ∧ Reads w7 3 (.slice a7 u.rows.length c7) u.rows.length (u.rows.flatMap Seg.cells)) := (Lib.hid ⟨⟨⟨H6.out.1.1.tab.upd (below_upd hb7) (fun i hi => Nat.not_le.2 (H6.out.1.1.tab.lt i hi)), H6.out.1.1.ok, H6.out.1.1.next, H6.out.1.1.len, H6.out.1.1.below.trans (hb7.mono H6.out.1.1.size), Nat.le_trans H6.out.1.1.size hb7.size⟩, H6.out.1.2.upd (below_upd hb7) (fun i hi => Nat.not_le.2 (H6.out.1.2.lt i hi))⟩, (owns_reads H6.out.2).below hb7 (Nat.le_refl _), owns_reads ho7⟩); clear ho7 hb7)
            | (go_at_call 19; refine (sameRows_calls _ _ _ u.rows H7.out.2.1 H7.out.2.2 HGL.out).mono ?_; rintro e w8 ⟨rfl, d, rfl⟩; have H8 : Hid (St w B b tv F m (300 + q) u (w7.drewN d) ∧ TabV (w7.drewN d) b2 tv2 u F2) := (Lib.hid ⟨⟨H7.out.1.1.tab.upd ((Upd.refl (fun _ => False) w7).drewN d) (fun _ _ f => f), H7.out.1.1.ok, H7.out.1.1.next, H7.out.1.1.len, below_drewN H7.out.1.1.below d, H7.out.1.1.size⟩, H7.out.1.2.upd ((Upd.refl (fun _ => False) w7).drewN d) (fun _ _ f => f)⟩))
            | (go_at_call 17; refine (next_calls _ b tv u F H8.out.1.tab).mono ?_; rintro e w9 ⟨rfl, rfl⟩)
            | (go_at_call 17; refine (next_calls _ b2 tv2 u F2 H8.out.2).mono ?_; rintro e w9 ⟨rfl, rfl⟩))
          go_ret
          exact ⟨rfl, H8.out.1.below⟩
end Go.Proofs.Ytbffcogpicaloaa.tableBack
