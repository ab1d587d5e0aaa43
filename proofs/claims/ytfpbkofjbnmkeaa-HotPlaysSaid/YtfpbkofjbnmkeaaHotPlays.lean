/- What this text proves: the walk of HotPlays. No conditions. -/
import Derived.Test.YtfpbkofjbnmkeaaHotActs
import Derived.Test.YtfpbkofjbnmkeaaHotBoth
import Derived.Test.YtfpbkofjbnmkeaaHeld
namespace Go.Proofs.Ytfpbkofjbnmkeaa.hotPlays
open Go Go.RowKit Go.Lib
open Go.Proofs Go.Proofs.Ytfpbkofjbnmkeaa
set_option linter.unusedVariables false
set_option linter.unusedSimpArgs false
theorem infoU8 : (Try.prog.info? 5).map (fun i => (i.zero, i.size, i.bytes)) = some (some (.int .u8 0), 1, 1) := by kernel_rfl
theorem sizeU8 (w : World) : (sizeOf 5).run Try.prog w = .ok 1 w := by kernel_rfl
theorem by_set (ys : List Int) (q : Nat) (z : Int) : (By ys).set q (.int .u8 z) = By (ys.set q z) := by unfold By; rw [List.map_set]
theorem getH_room (h : Hot) (a : Int) : (getH h a).room = h.room ∧ (getH h a).k = h.k := by unfold getH; split <;> exact ⟨rfl, rfl⟩
theorem dropH_room (h : Hot) (a : Int) : (dropH h a).room = h.room ∧ (dropH h a).k = h.k := by unfold dropH; split <;> exact ⟨rfl, rfl⟩
set_option maxRecDepth 20000 in
set_option maxHeartbeats 8000000 in
theorem walk_in (n kk : Int) (acts : List HAct) (v : Value) (w : World) (hr0 : 0 ≤ n) (hr1 : n ≤ 4096) (hk0 : 0 ≤ kk) (hk1 : kk ≤ 4096)
    (hv : Reads w 3 v acts.length (acts.flatMap HAct.cells)) (hl : acts.length ≤ maxLen) (hg : ∀ a ∈ acts, a.Good w) :
    Calls Try.prog 4 #[.int .i64 n, .int .i64 kk, v] w fun e w' => e = .returned (.bool true) ∧ Below w.heap.size w w' := by
  obtain ⟨B, hB⟩ : ∃ B, B = w.heap.size := ⟨_, rfl⟩
  rw [← hB]
  have HV := Lib.hid hv; clear hv
  have HG := Lib.hid hg; clear hg
  obtain ⟨va, vc, hva⟩ := HV.out.len
  subst hva
  have HB := Lib.hid hB; clear hB
  obtain ⟨i0, hi, hz0, hz1, hz2⟩ := info_parts infoU8
  go_enter Try.func4, Try.ntmps4
  go_wp2_with fail
  refine (shown_calls w).mono ?_
  rintro e w0 ⟨rfl, hu0⟩
  have HU0 := Lib.hid hu0; clear hu0
  go_wp2_with fail
  refine (new_in w0 n kk (by omega) (by omega) (by omega) (by omega)).mono ?_
  rintro e w1 ⟨b, rfl, I1⟩
  have HI1 := Lib.hid I1; clear I1
  go_wp2_with fail
  refine (rnew_in w0 w1 b n kk hr0 hr1 HI1.out).mono ?_
  rintro e w2 ⟨r, rfl, B2⟩
  have HB2 := Lib.hid B2; clear B2 HI1
  go_wp2_with fail
  have hu02 : Upd (fun _ => False) w w2 := HU0.out.trans HB2.out.since (fun _ _ f => f)
  refine (few_calls w2 _ acts (HV.out.upd hu02 (fun _ _ f => f)) hl (fun a ha => (HG.out a ha).upd hu02)).mono ?_
  rintro e w3 ⟨v1, k0, rfl, hred, hk1', hk2, hbs, rfl⟩
  obtain ⟨acts', hacts⟩ : ∃ acts', acts' = acts.take k0 := ⟨_, rfl⟩
  have hlen : acts'.length = k0 := by rw [hacts, List.length_take]; omega
  rw [← hacts] at hred hbs
  rw [← hlen] at hred
  have HV2 : Hid (∀ W, Upd (fun _ => False) w W → Reads W 3 v1 acts'.length (acts'.flatMap HAct.cells)) := Lib.hid (fun W hW => hred W (HV.out.upd hW (fun _ _ f => f)))
  have hle : acts'.length ≤ 200 := by omega
  have HG2 : Hid (∀ a ∈ acts', a.Good w ∧ a.bs.length ≤ 20000) := Lib.hid (fun a ha => ⟨HG.out a (List.mem_of_mem_take (by rw [← hacts]; exact ha)), hbs a ha⟩)
  obtain ⟨va1, vc1, hva1⟩ := (hred w HV.out).len
  subst hva1
  clear hred hacts hlen HV HG hbs hk1' hk2 hu02
  go_wp2_with fail
  go_loopg [62] acts'.length (fun g i wr => ∃ (k : Nat) (h : Hot) (d : Doc), k + g = acts'.length ∧ i = .int .i64 k ∧ Hid (Both w0 wr b r h d (fun _ => False) ∧ h.room = n ∧ h.k = kk))
  case atStart => exact ⟨0, _, _, by simp, rfl, Lib.hid ⟨HB2.out, rfl, rfl⟩⟩
  case round =>
    obtain ⟨k, h, d, hk, rfl, HC⟩ := hrel
    obtain ⟨wo, hwo⟩ : ∃ wo, wo = wr := ⟨_, rfl⟩
    subst hwo
    have hsince : Upd (fun _ => False) w wo := HU0.out.trans HC.out.1.since (fun _ _ f => f)
    have HSI := Lib.hid hsince; clear hsince
    by_cases hlt : k < acts'.length
    · obtain ⟨a, hak⟩ : ∃ a, acts'[k] = a := ⟨_, rfl⟩
      have hga := HG2.out a (by rw [← hak]; exact List.getElem_mem _)
      have hc := hacts_cells hlt hak
      obtain ⟨sa, sc, hsv⟩ := hga.1.reads.len
      rw [hsv] at hc
      have hrv : Reads w 1 (.slice sa a.bs.length sc) a.bs.length (By a.bs) := by rw [← hsv]; exact hga.1.reads
      have hlv : a.bs.length ≠ 0 → ∀ q, (Value.slice sa a.bs.length sc).ownBlock = some q → q < w.heap.size := by rw [← hsv]; exact hga.1.lt
      have HK := Lib.hid hc; have HX := Lib.hid hlt; have HGA := Lib.hid hga; have HRV := Lib.hid (And.intro hrv hlv)
      have hkd := wf_u8 hga.1.kind
      have HR : Hid (Reads wo 3 (.slice va1 acts'.length vc1) acts'.length (acts'.flatMap HAct.cells)) := Lib.hid (HV2.out wo HSI.out)
      obtain ⟨c, hcc⟩ : ∃ c, c = wo.heap.size := ⟨_, rfl⟩
      have HCC := Lib.hid hcc
      clear hc hak hga hsv hrv hlv hcc
      have h3 : a.kind % 3 = 0 ∨ a.kind % 3 = 1 ∨ a.kind % 3 = 2 := by omega
      rcases h3 with h3 | h3 | h3
      · obtain ⟨wa, hwa⟩ : ∃ wa, wa = wo.alloc (.cells #[.int .u8 a.kind, .int .u32 a.addr, .slice sa a.bs.length sc] 32) := ⟨_, rfl⟩
        have hsza : wa.heap.size = wo.heap.size + 1 := by rw [hwa, size_alloc]
        have huA : Upd (fun _ => False) wo wa := by rw [hwa]; exact (Upd.refl _ wo).alloc _
        have hgA : wa.heap[c]? = some (.cells #[.int .u8 a.kind, .int .u32 a.addr, .slice sa a.bs.length sc] 32 (0, 0)) := by rw [hwa, HCC.out]; exact heap_alloc_last wo _
        have hm := World.ownsRow_made (e := 5) (size := 1) wa #[] 0 (Nat.le_refl _) (Nat.zero_le _) rfl
        have hra : Reads (wa.alloc (.cells #[] 5)) 1 (.slice sa a.bs.length sc) a.bs.length (By a.bs) := (HRV.out.1.upd (HSI.out.trans huA (fun _ _ f => f)) (fun _ _ f => f)).upd ((Upd.refl (fun _ => False) wa).alloc _) (fun _ _ f => f)
        rw [hsza] at hm
        have HA := Lib.hid (And.intro hsza (And.intro huA hgA))
        have HWA := Lib.hid hwa
        rw [hwa] at hm hra
        have HM := Lib.hid hm; have HRA := Lib.hid hra
        have hbl := HGA.out.2
        clear hwa hsza huA hgA hm hra
        go_wp2_with (first
          | ((with_reducible change wpList _ _ _ (⟨_, Op.indexAddr _ _ _, _, _, _, _⟩ :: _) _ _); refine wpl_indexg rfl _ _ _ rfl 32 3 Try.underlying22 sizeHAct (by decide) _ _ _ HR.out rfl k rfl HX.out ?_; intro bk off _ hcell; have c0 := hcell 0 _ HK.out.1; have c1 := hcell 1 _ HK.out.2.1; have c2 := hcell 2 _ HK.out.2.2; clear hcell; simp only [Nat.add_zero] at c0)
          | ((with_reducible change wpList _ _ _ (⟨_, Op.call { callee := Callee.builtin Builtin.append, args := _, argTypes := _ }, _, _, _, _⟩ :: _) _ _); refine wpl_append rfl _ _ 30 rfl (wo.heap.size + 1) 5 i0 (.int .u8 0) 1 1 Try.underlying30 hi hz0 hz1 hz2 rfl (by decide) _ _ _ HM.out rfl _ _ _ HRA.out rfl (ints_oneCell .u8 a.bs) (by unfold maxLen; omega) (by omega) (by rw [size_alloc, size_alloc]; omega) ?_
             intro v4 w4 hown4 hg4 _
             have hu4 : Upd (fun g => wo.heap.size + 1 ≤ g) wa w4 := by
               rw [HWA.out]
               exact ((Upd.refl _ _).alloc _).grown hg4 (fun g hg _ => by simp [Value.ownBlock] at hg; omega)
             have HO4 := Lib.hid (And.intro hown4 hu4)
             clear hown4 hg4 hu4))
        rw [← HCC.out]
        have ho4 : w4.ownsRow (wo.heap.size + 1) 5 1 v4 a.bs.length (By a.bs) := by simpa using HO4.out.1
        obtain ⟨n5, hn5⟩ : ∃ n5, n5 = a.bs.length := ⟨_, rfl⟩
        have hnb : n5 ≤ 100000 := by omega
        obtain ⟨a5, c5, hv5⟩ := (owns_reads ho4).len
        rw [← hn5] at hv5
        subst hv5
        have huo4 : Upd (fun _ => False) wo w4 := HA.out.2.1.trans HO4.out.2 (fun i hi f => by omega)
        have hg4 := HO4.out.2.at HA.out.2.2 (by rw [HCC.out]; omega)
        have hcl := lt_of_at hg4
        have hB4 : Both w0 w4 b r h d (fun q => q = c ∨ (Value.slice a5 n5 c5).ownBlock = some q) := (HC.out.1.other (w' := w4) huo4).less (fun q hq => .inr (by
          rcases hq with f | f
          · rw [f, HCC.out] at *; exact ⟨Nat.le_refl _, hcl⟩
          · have := ho4.lt q f; exact ⟨by omega, this.2⟩))
        have k1 : w4.cell? ⟨c, 1, none⟩ = some (.int .u32 a.addr) := cell_at hg4 1
        have k2 : w4.cell? ⟨c, 2, none⟩ = some (.slice sa a.bs.length sc) := cell_at hg4 2
        have k3 : Reads w4 1 (.slice sa a.bs.length sc) a.bs.length (By a.bs) := HRV.out.1.upd (HSI.out.trans huo4 (fun _ _ f => f)) (fun _ _ f => f)
        obtain ⟨bs0, hbs0⟩ : ∃ bs0, bs0 = wo.heap.size + 1 := ⟨_, rfl⟩
        rw [← hbs0] at ho4
        obtain ⟨rb, hrb⟩ : ∃ rb, rb = (offerH h a.addr a.bs).1 := ⟨_, rfl⟩
        have HRB := Lib.hid hrb; clear hrb
        obtain ⟨h1, hh1⟩ : ∃ h1, h1 = (offerH h a.addr a.bs).2 := ⟨_, rfl⟩
        obtain ⟨d1, hd1⟩ : ∃ d1, d1 = (offerD d a.addr a.bs).2 := ⟨_, rfl⟩
        have HHD := Lib.hid (And.intro hh1 hd1)
        have HJR := Lib.hid (show h1.room = n ∧ h1.k = kk from ⟨by rw [hh1, (offer_room h a.addr a.bs).1]; exact HC.out.2.1, by rw [hh1, (offer_room h a.addr a.bs).2]; exact HC.out.2.2⟩)
        have hgl : h.gl.length ≤ 4096 := by
          obtain ⟨FD, I, _⟩ := HC.out.1.has
          exact glist_len I
        have hro : Reads w4.drew 1 (.slice a5 n5 c5) n5 (By a.bs) := by
          have := owns_reads ho4
          rw [← hn5] at this
          exact this.upd (S := fun _ => False) (Upd.refl _ w4).drew (fun _ _ f => f)
        have HD := Lib.hid (both_offer (hB4.upd (Upd.refl _ w4).drew) a.addr HGA.out.1.addr hro (fun _ q hq => .inr (.inr hq)) (by omega))
        rw [← HRB.out, ← HHD.out.1] at HD
        have HO5A := Lib.hid (And.intro hn5.symm (And.intro ho4 hgl))
        clear hh1 hd1 hro hgl ho4 hB4 hg4 hcl huo4 hbs0 hbl hn5
        cases rb
        all_goals
          refine wp_region_held_drew (S := fun w' => w'.cell? ⟨c, 1, none⟩ = some (.int .u32 a.addr) ∧ w'.cell? ⟨c, 2, none⟩ = some (.slice sa a.bs.length sc) ∧ Reads w' 1 (.slice sa a.bs.length sc) a.bs.length (By a.bs)) rfl ⟨k1, k2, k3⟩ (fun hHeld => ?_)
          first
            | (refine held_on 0 rfl (by kernel_rfl) (fun _ _ _ h => h) (by rfl) (by assumption) (v := ?_) ?_ ?_
               rotate_left
               · intro w hS; (try dsimp only at hS); first | (go_simp; done) | (go_simp; with_reducible rfl)
               try simp only [Act.put, List.setIfInBounds_toArray, List.set_cons_zero, List.set_cons_succ])
            | (refine held_off 0 rfl (by kernel_rfl) (fun _ _ _ h => h) (by rfl) (by assumption) ?_
               try simp only [Act.put, List.setIfInBounds_toArray, List.set_cons_zero, List.set_cons_succ])
            | (go_outline; fail "take 0")
          first
            | (refine held_on 1 rfl (by kernel_rfl) (fun _ _ _ h => h) (by rfl) (by assumption) (v := ?_) ?_ ?_
               rotate_left
               · intro w hS; (try dsimp only at hS); first | (go_simp; done) | (go_simp; with_reducible rfl)
               try simp only [Act.put, List.setIfInBounds_toArray, List.set_cons_zero, List.set_cons_succ])
            | (refine held_off 1 rfl (by kernel_rfl) (fun _ _ _ h => h) (by rfl) (by assumption) ?_
               try simp only [Act.put, List.setIfInBounds_toArray, List.set_cons_zero, List.set_cons_succ])
            | (go_outline; fail "take 1")
          first
            | (refine held_on 2 rfl (by kernel_rfl) (fun _ _ _ h => h) (by rfl) (by assumption) (v := ?_) ?_ ?_
               rotate_left
               · intro w hS; (try dsimp only at hS); first | (go_simp; done) | (go_simp; with_reducible rfl)
               try simp only [Act.put, List.setIfInBounds_toArray, List.set_cons_zero, List.set_cons_succ])
            | (refine held_off 2 rfl (by kernel_rfl) (fun _ _ _ h => h) (by rfl) (by assumption) ?_
               try simp only [Act.put, List.setIfInBounds_toArray, List.set_cons_zero, List.set_cons_succ])
            | (go_outline; fail "take 2")
          first
            | (refine held_on 3 rfl (by kernel_rfl) (fun _ _ _ h => h) (by rfl) (by assumption) (v := ?_) ?_ ?_
               rotate_left
               · intro w hS; (try dsimp only at hS); first | (go_simp; done) | (go_simp; with_reducible rfl)
               try simp only [Act.put, List.setIfInBounds_toArray, List.set_cons_zero, List.set_cons_succ])
            | (refine held_off 3 rfl (by kernel_rfl) (fun _ _ _ h => h) (by rfl) (by assumption) ?_
               try simp only [Act.put, List.setIfInBounds_toArray, List.set_cons_zero, List.set_cons_succ])
            | (go_outline; fail "take 3")
          first
            | (refine held_on 5 rfl (by kernel_rfl) (fun _ _ _ h => h) (by rfl) (by assumption) (v := ?_) ?_ ?_
               rotate_left
               · intro w hS; (try dsimp only at hS); first | (go_simp; done) | (go_simp; with_reducible rfl)
               try simp only [Act.put, List.setIfInBounds_toArray, List.set_cons_zero, List.set_cons_succ])
            | (refine held_off 5 rfl (by kernel_rfl) (fun _ _ _ h => h) (by rfl) (by assumption) ?_
               try simp only [Act.put, List.setIfInBounds_toArray, List.set_cons_zero, List.set_cons_succ])
            | (go_outline; fail "take 5")
          first
            | (refine held_on 6 rfl (by kernel_rfl) (fun _ _ _ h => h) (by rfl) (by assumption) (v := ?_) ?_ ?_
               rotate_left
               · intro w hS; (try dsimp only at hS); first | (go_simp; done) | (go_simp; with_reducible rfl)
               try simp only [Act.put, List.setIfInBounds_toArray, List.set_cons_zero, List.set_cons_succ])
            | (refine held_off 6 rfl (by kernel_rfl) (fun _ _ _ h => h) (by rfl) (by assumption) ?_
               try simp only [Act.put, List.setIfInBounds_toArray, List.set_cons_zero, List.set_cons_succ])
            | (go_outline; fail "take 6")
          first
            | (refine held_on 7 rfl (by kernel_rfl) (fun _ _ _ h => h) (by rfl) (by assumption) (v := ?_) ?_ ?_
               rotate_left
               · intro w hS; (try dsimp only at hS); first | (go_simp; done) | (go_simp; with_reducible rfl)
               try simp only [Act.put, List.setIfInBounds_toArray, List.set_cons_zero, List.set_cons_succ])
            | (refine held_off 7 rfl (by kernel_rfl) (fun _ _ _ h => h) (by rfl) (by assumption) ?_
               try simp only [Act.put, List.setIfInBounds_toArray, List.set_cons_zero, List.set_cons_succ])
            | (go_outline; fail "take 7")
          first
            | (refine held_on 8 rfl (by kernel_rfl) (fun _ _ _ h => h) (by rfl) (by assumption) (v := ?_) ?_ ?_
               rotate_left
               · intro w hS; (try dsimp only at hS); first | (go_simp; done) | (go_simp; with_reducible rfl)
               try simp only [Act.put, List.setIfInBounds_toArray, List.set_cons_zero, List.set_cons_succ])
            | (refine held_off 8 rfl (by kernel_rfl) (fun _ _ _ h => h) (by rfl) (by assumption) ?_
               try simp only [Act.put, List.setIfInBounds_toArray, List.set_cons_zero, List.set_cons_succ])
            | (go_outline; fail "take 8")
          first
            | (refine held_on 9 rfl (by kernel_rfl) (fun _ _ _ h => h) (by rfl) (by assumption) (v := ?_) ?_ ?_
               rotate_left
               · intro w hS; (try dsimp only at hS); first | (go_simp; done) | (go_simp; with_reducible rfl)
               try simp only [Act.put, List.setIfInBounds_toArray, List.set_cons_zero, List.set_cons_succ])
            | (refine held_off 9 rfl (by kernel_rfl) (fun _ _ _ h => h) (by rfl) (by assumption) ?_
               try simp only [Act.put, List.setIfInBounds_toArray, List.set_cons_zero, List.set_cons_succ])
            | (go_outline; fail "take 9")
          refine held_on 10 rfl (by kernel_rfl) (fun _ _ _ h => h) (by rfl) (by assumption) (v := .string (strOfNums a.bs)) (fun w hS => by have hcv := conv_string hS.2.2; first | (go_simp; done) | (go_simp; with_reducible rfl)) ?_
          try simp only [Act.put, List.setIfInBounds_toArray, List.set_cons_zero, List.set_cons_succ]
          refine wpAnyH_ready (rs := [4]) (by kernel_rfl) (by simp) (AllReadyH.cons rfl (fun K hK => ?_) AllReadyH.nil)
          go_simp
          refine HD.out.mono ?_
          rintro e w5 ⟨rfl, H5, hu5⟩
          have k5 : w5.cell? ⟨c, 1, none⟩ = some (.int .u32 a.addr) ∧ w5.cell? ⟨c, 2, none⟩ = some (.slice sa a.bs.length sc) ∧ Reads w5 1 (.slice sa a.bs.length sc) a.bs.length (By a.bs) := ⟨hu5.cell k1 (fun f => f (.inl rfl)), hu5.cell k2 (fun f => f (.inl rfl)), HRV.out.1.upd (HU0.out.trans H5.since (fun _ _ f => f)) (fun _ _ f => f)⟩
          have HU5 := Lib.hid hu5
          have HH5 := Lib.hid (both_roffer HC.out.1.good HC.out.1.agree HO5A.out.2.2 (by rw [HC.out.2.2]; exact hk0) a.addr HGA.out.1.addr (bs := a.bs) (by have := HGA.out.2; omega) (by rw [← HHD.out.1]; exact H5))
          rw [← HRB.out, ← HHD.out.1, ← HHD.out.2] at HH5
          clear H5 hu5
          go_wp2_with fail
          refine hK.out _ _ k5 (fun hHeld => ?_)
          clear hK K
          refine wpAnyH_ready (rs := [11]) (by kernel_rfl) (by simp) (AllReadyH.cons rfl (fun K hK => ?_) AllReadyH.nil)
          go_simp
          refine HH5.out.mono ?_
          rintro e w6 ⟨rfl, B6, hu6⟩
          have k6 : w6.cell? ⟨c, 1, none⟩ = some (.int .u32 a.addr) ∧ w6.cell? ⟨c, 2, none⟩ = some (.slice sa a.bs.length sc) ∧ Reads w6 1 (.slice sa a.bs.length sc) a.bs.length (By a.bs) := ⟨hu6.cell k5.1 (fun f => f (.inl rfl)), hu6.cell k5.2.1 (fun f => f (.inl rfl)), HRV.out.1.upd (HU0.out.trans B6.since (fun _ _ f => f)) (fun _ _ f => f)⟩
          have ho6 := ownsRow_upd (ownsRow_upd HO5A.out.2.1 (S := fun _ => False) (Upd.refl _ w4).drew (fun _ _ f => f)) (HU5.out.trans (S := fun k => ¬ (k = c ∨ (Value.slice a5 n5 c5).ownBlock = some k)) hu6 (fun _ _ f => f)) (fun q hq f => f (.inr hq))
          rw [HO5A.out.1] at ho6
          have HO5 := Lib.hid (And.intro HO5A.out.1 (And.intro ho6 B6))
          clear B6 hu6 ho6 k5 k1 k2 k3
          go_wp2_with fail
          refine hK.out _ _ k6 (fun hHeld => ?_)
          clear hK K
          first
            | (refine held_on 12 rfl (by kernel_rfl) (fun _ _ _ h => h) (by rfl) (by assumption) (v := ?_) ?_ ?_
               rotate_left
               · intro w hS; (try dsimp only at hS); first | (go_simp; done) | (go_simp; with_reducible rfl)
               try simp only [Act.put, List.setIfInBounds_toArray, List.set_cons_zero, List.set_cons_succ])
            | (refine held_off 12 rfl (by kernel_rfl) (fun _ _ _ h => h) (by rfl) (by assumption) ?_
               try simp only [Act.put, List.setIfInBounds_toArray, List.set_cons_zero, List.set_cons_succ])
            | (go_outline; fail "take 12")
          refine wpAnyH_done (by kernel_rfl) ?_ _
          go_wp2_with fail
          go_loopg [99] n5 (fun g i wz => ∃ (q : Nat) (ys : List Int), q + g = n5 ∧ i = .int .i64 q ∧ Hid (ys.length = n5 ∧ wz.ownsRow bs0 5 1 (.slice a5 n5 c5) n5 (By ys) ∧ Both w0 wz b r h1 d1 (fun q => q = c ∨ (Value.slice a5 n5 c5).ownBlock = some q)))
          case atStart => exact ⟨0, _, by simp, rfl, Lib.hid ⟨HO5.out.1, HO5.out.2.1, HO5.out.2.2⟩⟩
          case round =>
            obtain ⟨q, ys, hq, rfl, HQ⟩ := hrel
            by_cases hqx : q < n5
            · obtain ⟨g5, c5', hv5, _, _, _⟩ := owns_pos HQ.out.2.1 (by omega)
              injection hv5 with e1 e2 e3
              subst e1 e3
              have hql : q < ys.length := by rw [HQ.out.1]; exact hqx
              obtain ⟨y, hy⟩ : ∃ y, y = ys[q] := ⟨_, rfl⟩
              have hcell := owns_cell HQ.out.2.1 (j := q) (u := .int .u8 y) (by rw [hy]; simp [hql])
              have hfz := owns_free HQ.out.2.1 q
              have hidx := fun w => run_index_own (P := Try.prog) (size := 1) (c := c5) (g := g5) Try.underlying30 sizeU8 hqx w
              simp only [Nat.mul_one] at hidx
              have HQX := Lib.hid (And.intro hqx hq)
              clear hy hql hq
              go_wp2_with fail
              go_roundg (gk - 1)
              case measure => have := HQX.out; omega
              case rel =>
                obtain ⟨z, hz⟩ : ∃ z, z = bits BinOp.xor .u8 y 85 := ⟨_, rfl⟩
                rw [← hz]
                have hset := ownsRow_set HQ.out.2.1 q (.int .u8 z)
                rw [by_set] at hset
                have hus : Upd (fun k => k = c ∨ (Value.slice (some ⟨g5, 0, none⟩) n5 c5).ownBlock = some k) wr (wr.setCell ⟨g5, q, none⟩ (.int .u8 z)) := (Upd.refl _ wr).setCell (p := ⟨g5, q, none⟩) (fun _ => .inr rfl) _
                exact ⟨q + 1, ys.set q z, by have := HQX.out; omega, by go_num, Lib.hid ⟨by rw [List.length_set]; exact HQ.out.1, hset, (HQ.out.2.2.other hus).less (fun _ f => .inl f)⟩⟩
            · have HLAST := Lib.hid (show Both w0 wr b r h1 d1 (fun _ => False) ∧ h1.room = n ∧ h1.k = kk from ⟨HQ.out.2.2.less (fun _ f => f.elim), HJR.out⟩)
              have hnq : ¬ ((q : Int) < (n5 : Int)) := by omega
              have HJ := HLAST
              clear HLAST
              go_wp2_with fail
              refine (both_all HJ.out.1).mono ?_
              rintro e w8 ⟨v8, rfl, ho8, B8, hb8⟩
              obtain ⟨a8, c8, hv8⟩ := (owns_reads ho8).len
              subst hv8
              have HO8 := Lib.hid (And.intro (owns_reads ho8) B8)
              clear ho8 B8 hb8
              go_wp2_with fail
              refine (both_rall HO8.out.2).mono ?_
              rintro e w9 ⟨v9, rfl, ho9, B9, hb9⟩
              obtain ⟨a9, c9, hv9⟩ := (owns_reads ho9).len
              subst hv9
              have HO9 := Lib.hid (And.intro (owns_reads ho9) (And.intro B9 (HO8.out.1.keep (fun q _ hq => hb9.block q hq))))
              clear ho9 B9 hb9
              go_wp2_with fail
              have hsame := same_calls w9 _ _ h1.xs h1.xs HO9.out.2.2 HO9.out.1 (by have h1 := HJ.out.1.good.len; have h2 := HJ.out.1.good.room1; unfold maxLen; omega)
              rw [decide_eq_true rfl] at hsame
              refine hsame.mono ?_
              rintro e w10 ⟨rfl, dn, rfl⟩
              clear hsame
              have HF := Lib.hid (HO9.out.2.1.upd ((Upd.refl (fun _ => False) w9).drewN dn))
              go_wp2_with fail
              go_roundg (acts'.length - (k + 1))
              case measure => have := HX.out; omega
              case rel => exact ⟨k + 1, h1, d1, by have := HX.out; omega, by go_num, Lib.hid ⟨HF.out, HJ.out.2⟩⟩
      · go_wp2_with (first
          | ((with_reducible change wpList _ _ _ (⟨_, Op.indexAddr _ _ _, _, _, _, _⟩ :: _) _ _); refine wpl_indexg rfl _ _ _ rfl 32 3 Try.underlying22 sizeHAct (by decide) _ _ _ HR.out rfl k rfl HX.out ?_; intro bk off _ hcell; have c0 := hcell 0 _ HK.out.1; have c1 := hcell 1 _ HK.out.2.1; have c2 := hcell 2 _ HK.out.2.2; clear hcell; simp only [Nat.add_zero] at c0))
        refine calls_world fun W hW => ?_
        have huW : Upd (fun _ => False) wo W := by rw [hW]; exact (Upd.refl _ wo).alloc _
        have hgW : W.heap[c]? = some (.cells #[.int .u8 a.kind, .int .u32 a.addr, .slice sa a.bs.length sc] 32 (0, 0)) := by rw [hW, HCC.out]; exact heap_alloc_last wo _
        have hBW : Both w0 W b r h d (fun q => q = c) := (HC.out.1.other (w' := W) (huW.mono (fun _ _ f => f.elim))).less (fun q hq => .inr ⟨by rw [hq, HCC.out]; exact Nat.le_refl _, by rw [hq]; exact lt_of_at hgW⟩)
        have HW := Lib.hid (And.intro huW (And.intro hgW hBW))
        rw [← HCC.out]
        clear hW huW hgW hBW
        refine (both_get HW.out.2.2 a.addr HGA.out.1.addr).mono ?_
        rintro e w5 ⟨v5, rfl, ho5, H5, hu5⟩
        have k5 : w5.cell? ⟨c, 1, none⟩ = some (.int .u32 a.addr) := hu5.cell (cell_at HW.out.2.1 1) (fun f => f rfl)
        have HH5 := Lib.hid (both_rget HC.out.1.good HC.out.1.agree a.addr H5)
        have hnb : ((h.m a.addr).getD []).length ≤ 100000 := by
          cases hm : h.m a.addr with
          | none => simp
          | some bs => exact HC.out.1.good.bytes _ _ hm
        obtain ⟨bs5, hbs5⟩ : ∃ bs5, bs5 = (h.m a.addr).getD [] := ⟨_, rfl⟩
        obtain ⟨is5, his5⟩ : ∃ is5, is5 = (h.m a.addr).isSome := ⟨_, rfl⟩
        rw [← hbs5, ← his5] at HH5
        rw [← hbs5] at ho5
        rw [← his5]
        obtain ⟨h1, hh1⟩ : ∃ h1, h1 = getH h a.addr := ⟨_, rfl⟩
        obtain ⟨d1, hd1⟩ : ∃ d1, d1 = getD' d a.addr := ⟨_, rfl⟩
        rw [← hh1, ← hd1] at HH5
        have HJR := Lib.hid (show h1.room = n ∧ h1.k = kk from ⟨by rw [hh1, (getH_room h a.addr).1]; exact HC.out.2.1, by rw [hh1, (getH_room h a.addr).2]; exact HC.out.2.2⟩)
        obtain ⟨n5, hn5⟩ : ∃ n5, n5 = bs5.length := ⟨_, rfl⟩
        obtain ⟨bs0, hbs0⟩ : ∃ bs0, bs0 = W.heap.size := ⟨_, rfl⟩
        rw [← hn5, ← hbs0] at ho5
        rw [← hbs5, ← hn5] at hnb
        obtain ⟨a5, c5, hv5⟩ := (owns_reads ho5).len
        subst hv5
        have HO5A := Lib.hid (And.intro hn5.symm ho5)
        clear ho5 hu5 H5 hbs5 his5 hh1 hd1 hn5 hbs0
        cases is5
        all_goals
          go_wp2_with fail
          refine HH5.out.mono ?_
          rintro e w6 ⟨rfl, B6, hu6⟩
          have ho6 := ownsRow_upd HO5A.out.2 hu6 (fun q hq f => f (.inr hq))
          have HO5 := Lib.hid (And.intro HO5A.out.1 (And.intro ho6 B6))
          have hcv : (convert 30 9 (.slice a5 n5 c5)).run Try.prog w6 = .ok (.string (strOfNums bs5)) w6 := conv_string (owns_reads ho6)
          clear ho6 B6 hu6
          go_wp2_with fail
          go_loopg [136] n5 (fun g i wz => ∃ (q : Nat) (ys : List Int), q + g = n5 ∧ i = .int .i64 q ∧ Hid (ys.length = n5 ∧ wz.ownsRow bs0 5 1 (.slice a5 n5 c5) n5 (By ys) ∧ Both w0 wz b r h1 d1 (fun q => q = c ∨ (Value.slice a5 n5 c5).ownBlock = some q)))
          case atStart => exact ⟨0, _, by simp, rfl, Lib.hid ⟨HO5.out.1, HO5.out.2.1, HO5.out.2.2⟩⟩
          case round =>
            obtain ⟨q, ys, hq, rfl, HQ⟩ := hrel
            by_cases hqx : q < n5
            · obtain ⟨g5, c5', hv5, _, _, _⟩ := owns_pos HQ.out.2.1 (by omega)
              injection hv5 with e1 e2 e3
              subst e1 e3
              have hql : q < ys.length := by rw [HQ.out.1]; exact hqx
              obtain ⟨y, hy⟩ : ∃ y, y = ys[q] := ⟨_, rfl⟩
              have hcell := owns_cell HQ.out.2.1 (j := q) (u := .int .u8 y) (by rw [hy]; simp [hql])
              have hfz := owns_free HQ.out.2.1 q
              have hidx := fun w => run_index_own (P := Try.prog) (size := 1) (c := c5) (g := g5) Try.underlying30 sizeU8 hqx w
              simp only [Nat.mul_one] at hidx
              have HQX := Lib.hid (And.intro hqx hq)
              clear hy hql hq
              go_wp2_with fail
              go_roundg (gk - 1)
              case measure => have := HQX.out; omega
              case rel =>
                obtain ⟨z, hz⟩ : ∃ z, z = bits BinOp.xor .u8 y 85 := ⟨_, rfl⟩
                rw [← hz]
                have hset := ownsRow_set HQ.out.2.1 q (.int .u8 z)
                rw [by_set] at hset
                have hus : Upd (fun k => k = c ∨ (Value.slice (some ⟨g5, 0, none⟩) n5 c5).ownBlock = some k) wr (wr.setCell ⟨g5, q, none⟩ (.int .u8 z)) := (Upd.refl _ wr).setCell (p := ⟨g5, q, none⟩) (fun _ => .inr rfl) _
                exact ⟨q + 1, ys.set q z, by have := HQX.out; omega, by go_num, Lib.hid ⟨by rw [List.length_set]; exact HQ.out.1, hset, (HQ.out.2.2.other hus).less (fun _ f => .inl f)⟩⟩
            · have HLAST := Lib.hid (show Both w0 wr b r h1 d1 (fun _ => False) ∧ h1.room = n ∧ h1.k = kk from ⟨HQ.out.2.2.less (fun _ f => f.elim), HJR.out⟩)
              have hnq : ¬ ((q : Int) < (n5 : Int)) := by omega
              have HJ := HLAST
              clear HLAST
              go_wp2_with fail
              refine (both_all HJ.out.1).mono ?_
              rintro e w8 ⟨v8, rfl, ho8, B8, hb8⟩
              obtain ⟨a8, c8, hv8⟩ := (owns_reads ho8).len
              subst hv8
              have HO8 := Lib.hid (And.intro (owns_reads ho8) B8)
              clear ho8 B8 hb8
              go_wp2_with fail
              refine (both_rall HO8.out.2).mono ?_
              rintro e w9 ⟨v9, rfl, ho9, B9, hb9⟩
              obtain ⟨a9, c9, hv9⟩ := (owns_reads ho9).len
              subst hv9
              have HO9 := Lib.hid (And.intro (owns_reads ho9) (And.intro B9 (HO8.out.1.keep (fun q _ hq => hb9.block q hq))))
              clear ho9 B9 hb9
              go_wp2_with fail
              have hsame := same_calls w9 _ _ h1.xs h1.xs HO9.out.2.2 HO9.out.1 (by have h1 := HJ.out.1.good.len; have h2 := HJ.out.1.good.room1; unfold maxLen; omega)
              rw [decide_eq_true rfl] at hsame
              refine hsame.mono ?_
              rintro e w10 ⟨rfl, dn, rfl⟩
              clear hsame
              have HF := Lib.hid (HO9.out.2.1.upd ((Upd.refl (fun _ => False) w9).drewN dn))
              go_wp2_with fail
              go_roundg (acts'.length - (k + 1))
              case measure => have := HX.out; omega
              case rel => exact ⟨k + 1, h1, d1, by have := HX.out; omega, by go_num, Lib.hid ⟨HF.out, HJ.out.2⟩⟩
      · go_wp2_with (first
          | ((with_reducible change wpList _ _ _ (⟨_, Op.indexAddr _ _ _, _, _, _, _⟩ :: _) _ _); refine wpl_indexg rfl _ _ _ rfl 32 3 Try.underlying22 sizeHAct (by decide) _ _ _ HR.out rfl k rfl HX.out ?_; intro bk off _ hcell; have c0 := hcell 0 _ HK.out.1; have c1 := hcell 1 _ HK.out.2.1; have c2 := hcell 2 _ HK.out.2.2; clear hcell; simp only [Nat.add_zero] at c0))
        refine wp_world fun W hW => ?_
        have huW : Upd (fun _ => False) wo W := by rw [hW]; exact (Upd.refl _ wo).alloc _
        have hgW : W.heap[c]? = some (.cells #[.int .u8 a.kind, .int .u32 a.addr, .slice sa a.bs.length sc] 32 (0, 0)) := by rw [hW, HCC.out]; exact heap_alloc_last wo _
        have hBW : Both w0 W b r h d (fun q => q = c) := (HC.out.1.other (w' := W) (huW.mono (fun _ _ f => f.elim))).less (fun q hq => .inr ⟨by rw [hq, HCC.out]; exact Nat.le_refl _, by rw [hq]; exact lt_of_at hgW⟩)
        have HW := Lib.hid (And.intro huW (And.intro hgW hBW))
        rw [← HCC.out]
        clear hW huW hgW hBW
        have k1 : W.cell? ⟨c, 1, none⟩ = some (.int .u32 a.addr) := cell_at HW.out.2.1 1
        obtain ⟨rb, hrb⟩ : ∃ rb, rb = decide (a.addr ∈ h.xs) := ⟨_, rfl⟩
        have HRB := Lib.hid hrb; clear hrb
        have HD := Lib.hid (both_drop (HW.out.2.2.upd (Upd.refl _ W).drew) a.addr HGA.out.1.addr)
        rw [← HRB.out] at HD
        cases rb
        all_goals
          refine wp_region_held_drew (S := fun w' => w'.cell? ⟨c, 1, none⟩ = some (.int .u32 a.addr)) rfl k1 (fun hHeld => ?_)
          first
            | (refine held_on 0 rfl (by kernel_rfl) (fun _ _ _ h => h) (by rfl) (by assumption) (v := ?_) ?_ ?_
               rotate_left
               · intro w hS; (try dsimp only at hS); first | (go_simp; done) | (go_simp; with_reducible rfl)
               try simp only [Act.put, List.setIfInBounds_toArray, List.set_cons_zero, List.set_cons_succ])
            | (refine held_off 0 rfl (by kernel_rfl) (fun _ _ _ h => h) (by rfl) (by assumption) ?_
               try simp only [Act.put, List.setIfInBounds_toArray, List.set_cons_zero, List.set_cons_succ])
            | (go_outline; fail "take 0")
          first
            | (refine held_on 1 rfl (by kernel_rfl) (fun _ _ _ h => h) (by rfl) (by assumption) (v := ?_) ?_ ?_
               rotate_left
               · intro w hS; (try dsimp only at hS); first | (go_simp; done) | (go_simp; with_reducible rfl)
               try simp only [Act.put, List.setIfInBounds_toArray, List.set_cons_zero, List.set_cons_succ])
            | (refine held_off 1 rfl (by kernel_rfl) (fun _ _ _ h => h) (by rfl) (by assumption) ?_
               try simp only [Act.put, List.setIfInBounds_toArray, List.set_cons_zero, List.set_cons_succ])
            | (go_outline; fail "take 1")
          first
            | (refine held_on 2 rfl (by kernel_rfl) (fun _ _ _ h => h) (by rfl) (by assumption) (v := ?_) ?_ ?_
               rotate_left
               · intro w hS; (try dsimp only at hS); first | (go_simp; done) | (go_simp; with_reducible rfl)
               try simp only [Act.put, List.setIfInBounds_toArray, List.set_cons_zero, List.set_cons_succ])
            | (refine held_off 2 rfl (by kernel_rfl) (fun _ _ _ h => h) (by rfl) (by assumption) ?_
               try simp only [Act.put, List.setIfInBounds_toArray, List.set_cons_zero, List.set_cons_succ])
            | (go_outline; fail "take 2")
          first
            | (refine held_on 4 rfl (by kernel_rfl) (fun _ _ _ h => h) (by rfl) (by assumption) (v := ?_) ?_ ?_
               rotate_left
               · intro w hS; (try dsimp only at hS); first | (go_simp; done) | (go_simp; with_reducible rfl)
               try simp only [Act.put, List.setIfInBounds_toArray, List.set_cons_zero, List.set_cons_succ])
            | (refine held_off 4 rfl (by kernel_rfl) (fun _ _ _ h => h) (by rfl) (by assumption) ?_
               try simp only [Act.put, List.setIfInBounds_toArray, List.set_cons_zero, List.set_cons_succ])
            | (go_outline; fail "take 4")
          first
            | (refine held_on 5 rfl (by kernel_rfl) (fun _ _ _ h => h) (by rfl) (by assumption) (v := ?_) ?_ ?_
               rotate_left
               · intro w hS; (try dsimp only at hS); first | (go_simp; done) | (go_simp; with_reducible rfl)
               try simp only [Act.put, List.setIfInBounds_toArray, List.set_cons_zero, List.set_cons_succ])
            | (refine held_off 5 rfl (by kernel_rfl) (fun _ _ _ h => h) (by rfl) (by assumption) ?_
               try simp only [Act.put, List.setIfInBounds_toArray, List.set_cons_zero, List.set_cons_succ])
            | (go_outline; fail "take 5")
          first
            | (refine held_on 6 rfl (by kernel_rfl) (fun _ _ _ h => h) (by rfl) (by assumption) (v := ?_) ?_ ?_
               rotate_left
               · intro w hS; (try dsimp only at hS); first | (go_simp; done) | (go_simp; with_reducible rfl)
               try simp only [Act.put, List.setIfInBounds_toArray, List.set_cons_zero, List.set_cons_succ])
            | (refine held_off 6 rfl (by kernel_rfl) (fun _ _ _ h => h) (by rfl) (by assumption) ?_
               try simp only [Act.put, List.setIfInBounds_toArray, List.set_cons_zero, List.set_cons_succ])
            | (go_outline; fail "take 6")
          refine wpAnyH_ready (rs := [3]) (by kernel_rfl) (by simp) (AllReadyH.cons rfl (fun K hK => ?_) AllReadyH.nil)
          go_simp
          refine HD.out.mono ?_
          rintro e w5 ⟨rfl, H5, hu5⟩
          have k5 : w5.cell? ⟨c, 1, none⟩ = some (.int .u32 a.addr) := hu5.cell k1 (fun f => f rfl)
          have HH5 := Lib.hid (both_rdrop HC.out.1.good HC.out.1.agree a.addr H5)
          rw [← HRB.out] at HH5
          clear H5 hu5
          go_wp2_with fail
          refine hK.out _ _ k5 (fun hHeld => ?_)
          clear hK K
          refine wpAnyH_ready (rs := [7]) (by kernel_rfl) (by simp) (AllReadyH.cons rfl (fun K hK => ?_) AllReadyH.nil)
          go_simp
          refine HH5.out.mono ?_
          rintro e w6 ⟨rfl, H6, hu6⟩
          have k6 : w6.cell? ⟨c, 1, none⟩ = some (.int .u32 a.addr) := hu6.cell k5 (fun f => f rfl)
          obtain ⟨h1, hh1⟩ : ∃ h1, h1 = dropH h a.addr := ⟨_, rfl⟩
          obtain ⟨d1, hd1⟩ : ∃ d1, d1 = dropD d a.addr := ⟨_, rfl⟩
          rw [← hh1, ← hd1] at H6
          have HJ := Lib.hid (show Both w0 w6 b r h1 d1 (fun _ => False) ∧ h1.room = n ∧ h1.k = kk from ⟨H6.less (fun _ f => f.elim), by rw [hh1, (dropH_room h a.addr).1]; exact HC.out.2.1, by rw [hh1, (dropH_room h a.addr).2]; exact HC.out.2.2⟩)
          clear H6 hu6 hh1 hd1 k5 k1
          go_wp2_with fail
          refine hK.out _ _ k6 (fun hHeld => ?_)
          clear hK K
          first
            | (refine held_on 8 rfl (by kernel_rfl) (fun _ _ _ h => h) (by rfl) (by assumption) (v := ?_) ?_ ?_
               rotate_left
               · intro w hS; (try dsimp only at hS); first | (go_simp; done) | (go_simp; with_reducible rfl)
               try simp only [Act.put, List.setIfInBounds_toArray, List.set_cons_zero, List.set_cons_succ])
            | (refine held_off 8 rfl (by kernel_rfl) (fun _ _ _ h => h) (by rfl) (by assumption) ?_
               try simp only [Act.put, List.setIfInBounds_toArray, List.set_cons_zero, List.set_cons_succ])
            | (go_outline; fail "take 8")
          refine wpAnyH_done (by kernel_rfl) ?_ _
          go_wp2_with fail
          refine (both_all HJ.out.1).mono ?_
          rintro e w8 ⟨v8, rfl, ho8, B8, hb8⟩
          obtain ⟨a8, c8, hv8⟩ := (owns_reads ho8).len
          subst hv8
          have HO8 := Lib.hid (And.intro (owns_reads ho8) B8)
          clear ho8 B8 hb8
          go_wp2_with fail
          refine (both_rall HO8.out.2).mono ?_
          rintro e w9 ⟨v9, rfl, ho9, B9, hb9⟩
          obtain ⟨a9, c9, hv9⟩ := (owns_reads ho9).len
          subst hv9
          have HO9 := Lib.hid (And.intro (owns_reads ho9) (And.intro B9 (HO8.out.1.keep (fun q _ hq => hb9.block q hq))))
          clear ho9 B9 hb9
          go_wp2_with fail
          have hsame := same_calls w9 _ _ h1.xs h1.xs HO9.out.2.2 HO9.out.1 (by have h1 := HJ.out.1.good.len; have h2 := HJ.out.1.good.room1; unfold maxLen; omega)
          rw [decide_eq_true rfl] at hsame
          refine hsame.mono ?_
          rintro e w10 ⟨rfl, dn, rfl⟩
          clear hsame
          have HF := Lib.hid (HO9.out.2.1.upd ((Upd.refl (fun _ => False) w9).drewN dn))
          go_wp2_with fail
          go_roundg (acts'.length - (k + 1))
          case measure => have := HX.out; omega
          case rel => exact ⟨k + 1, h1, d1, by have := HX.out; omega, by go_num, Lib.hid ⟨HF.out, HJ.out.2⟩⟩
    · have hb := HSI.out
      have : ¬ ((k : Int) < (acts'.length : Int)) := by omega
      go_wp2_with fail
      go_ret
      exact ⟨rfl, by rw [HB.out]; exact hb.below (Nat.le_refl _) (fun _ f => f.elim)⟩
set_option maxHeartbeats 1000000 in
theorem walk_out (n kk : Int) (v : Value) (w : World) (hr : (n < 0 ∨ 4096 < n) ∨ (kk < 0 ∨ 4096 < kk)) :
    Calls Try.prog 4 #[.int .i64 n, .int .i64 kk, v] w fun e w' => e = .returned (.bool true) ∧ Below w.heap.size w w' := by
  have hd : (decide (n < 0) || decide (4096 < n) || decide (kk < 0) || decide (4096 < kk)) = true := by
    simp only [Bool.or_eq_true, decide_eq_true_eq]
    omega
  go_enter Try.func4, Try.ntmps4
  go_wp2_with fail
  refine (shown_calls w).mono ?_
  rintro e w0 ⟨rfl, hu0⟩
  go_wp2_with fail
  refine (hnew_bad w0 n kk hr).mono ?_
  rintro e w1 ⟨rfl, hu1⟩
  have HB := Lib.hid ((hu0.trans hu1 (fun _ _ f => f)).below (Nat.le_refl _) (fun _ f => f.elim))
  clear hu0 hu1
  go_wp2_with fail
  all_goals
    go_ret
    exact ⟨rfl, HB.out⟩
theorem walk (n kk : Int) (acts : List HAct) (v : Value) (w : World)
    (hv : Reads w 3 v acts.length (acts.flatMap HAct.cells)) (hl : acts.length ≤ maxLen) (hg : ∀ a ∈ acts, a.Good w) :
    Calls Try.prog 4 #[.int .i64 n, .int .i64 kk, v] w fun e w' => e = .returned (.bool true) ∧ Below w.heap.size w w' := by
  by_cases h : (0 ≤ n ∧ n ≤ 4096) ∧ (0 ≤ kk ∧ kk ≤ 4096)
  · exact walk_in n kk acts v w h.1.1 h.1.2 h.2.1 h.2.2 hv hl hg
  · exact walk_out n kk v w (by omega)
end Go.Proofs.Ytfpbkofjbnmkeaa.hotPlays
