/- What this text proves: the walk of HotFirst. No conditions. -/
import Derived.Test.YtfpbkofjbnmkeaaHotActs
import Derived.Test.YtfpbkofjbnmkeaaGhostRef
namespace Go.Proofs.Ytfpbkofjbnmkeaa.hotFirst
open Go Go.RowKit Go.Lib
open Go.Proofs Go.Proofs.Ytfpbkofjbnmkeaa
set_option linter.unusedVariables false
set_option linter.unusedSimpArgs false
def fil (a : Int) (xs : List Int) : List Int := xs.filter (fun x => x != a)
theorem fil_snoc (a : Int) (xs : List Int) (k : Nat) (hk : k < xs.length) : ∃ x, (xs.map (Value.int .u32))[k]? = some (.int .u32 x) ∧ fil a (xs.take (k + 1)) = fil a (xs.take k) ++ (if x = a then [] else [x]) := by
  refine ⟨xs[k], by simp [hk], ?_⟩
  unfold fil
  rw [List.take_succ_eq_append_getElem hk, List.filter_append]
  congr 1
  by_cases h : xs[k] = a <;> simp [h]
theorem fil_erase {a : Int} {xs : List Int} (h : xs.Nodup) : fil a xs = xs.erase a := by
  unfold fil
  rw [h.erase_eq_filter]
set_option maxRecDepth 20000 in
set_option maxHeartbeats 8000000 in
theorem walk (room known : Int) (acts : List HAct) (v : Value) (addr : Int) (w : World) (hr0 : 0 ≤ room) (hr1 : room ≤ 255) (hk0 : 0 ≤ known) (hk1 : known ≤ 255)
    (hv : Reads w 3 v acts.length (acts.flatMap HAct.cells)) (hl : acts.length ≤ maxLen) (hg : ∀ a ∈ acts, a.Good w) (ha : (Lit.int .u32 addr).wf = true) :
    Calls Try.prog 7 #[.int .u8 room, .int .u8 known, v, .int .u32 addr] w fun e w' => e = .returned (.bool true) ∧ Below w.heap.size w w' := by
  obtain ⟨B, hB⟩ : ∃ B, B = w.heap.size := ⟨_, rfl⟩
  rw [← hB]
  have HV := Lib.hid hv; clear hv
  have HG := Lib.hid hg; clear hg
  obtain ⟨n, hn⟩ : ∃ n, n = room % 21 := ⟨_, rfl⟩
  obtain ⟨kk, hkk⟩ : ∃ kk, kk = known % 101 := ⟨_, rfl⟩
  have hnb : 0 ≤ n ∧ n ≤ 20 := by omega
  have hkb : 0 ≤ kk ∧ kk ≤ 100 := by omega
  obtain ⟨va, vc, hva⟩ := HV.out.len
  subst hva
  have HN := Lib.hid (And.intro hn hkk); clear hn hkk
  have HB := Lib.hid hB; clear hB
  go_enter Try.func7, Try.ntmps7
  go_wp2_with fail
  refine (shown_calls w).mono ?_
  rintro e w0 ⟨rfl, hu0⟩
  have HU0 := Lib.hid hu0; clear hu0
  go_wp2_with fail
  rw [← HN.out.1, ← HN.out.2]
  refine (new_in w0 n kk (by omega) (by omega) (by omega) (by omega)).mono ?_
  rintro e w1 ⟨b, rfl, I1⟩
  have HI1 := Lib.hid I1; clear I1
  go_wp2_with fail
  have hu01 : Upd (fun _ => False) w w1 := HU0.out.trans HI1.out.since (fun _ _ f => f)
  refine (few_calls w1 _ acts (HV.out.upd hu01 (fun _ _ f => f)) hl (fun a ha => (HG.out a ha).upd hu01)).mono ?_
  rintro e w2 ⟨v1, k0, rfl, hred, hk1', hk2, hbs, rfl⟩
  obtain ⟨acts', hacts⟩ : ∃ acts', acts' = acts.take k0 := ⟨_, rfl⟩
  have hlen : acts'.length = k0 := by rw [hacts, List.length_take]; omega
  rw [← hacts] at hred hbs
  rw [← hlen] at hred
  have HV2 : Hid (∀ W, Upd (fun _ => False) w W → Reads W 3 v1 acts'.length (acts'.flatMap HAct.cells)) := Lib.hid (fun W hW => hred W (HV.out.upd hW (fun _ _ f => f)))
  have hle : acts'.length ≤ 200 := by omega
  have HG2 : Hid (∀ a ∈ acts', a.Good w ∧ a.bs.length ≤ 20000) := Lib.hid (fun a ha => ⟨HG.out a (List.mem_of_mem_take (by rw [← hacts]; exact ha)), hbs a ha⟩)
  obtain ⟨va1, vc1, hva1⟩ := (hred w HV.out).len
  subst hva1
  clear hred hacts hlen HV HG hbs hk1' hk2 hu01
  go_wp2_with fail
  go_loopg [40] acts'.length (fun g i wr => ∃ (k : Nat) (h : Hot), k + g = acts'.length ∧ i = .int .i64 k ∧ Hid (InH w0 wr b h (fun _ => False) ∧ h.Good ∧ h.room = n ∧ h.k = kk))
  case atStart => exact ⟨0, _, by simp, rfl, Lib.hid ⟨HI1.out, new_good n kk (by omega) (by omega), rfl, rfl⟩⟩
  case round =>
    obtain ⟨k, h, hk, rfl, HC⟩ := hrel
    have hsince : Upd (fun _ => False) w wr := HU0.out.trans HC.out.1.since (fun _ _ f => f)
    have HSI := Lib.hid hsince; clear hsince
    by_cases hlt : k < acts'.length
    · obtain ⟨a, hak⟩ : ∃ a, acts'[k] = a := ⟨_, rfl⟩
      have hga := HG2.out a (by rw [← hak]; exact List.getElem_mem _)
      have hc := hacts_cells hlt hak
      obtain ⟨sa, sc, hsv⟩ := hga.1.reads.len
      rw [hsv] at hc
      have hrv : Reads w 1 (.slice sa a.bs.length sc) a.bs.length (By a.bs) := by rw [← hsv]; exact hga.1.reads
      have hlv : a.bs.length ≠ 0 → ∀ q, (Value.slice sa a.bs.length sc).ownBlock = some q → q < w.heap.size := by rw [← hsv]; exact hga.1.lt
      have HK := Lib.hid hc; have HX := Lib.hid hlt; have HGA := Lib.hid hga; have HRV := Lib.hid (And.intro hrv hlv)
      have hkd := wf_u8 hga.1.kind
      have HR : Hid (Reads wr 3 (.slice va1 acts'.length vc1) acts'.length (acts'.flatMap HAct.cells)) := Lib.hid (HV2.out wr HSI.out)
      clear hc hak hga hsv hrv hlv
      have h3 : a.kind % 3 = 0 ∨ a.kind % 3 = 1 ∨ a.kind % 3 = 2 := by omega
      rcases h3 with h3 | h3 | h3
      · go_wp2_with (first
          | ((with_reducible change wpList _ _ _ (⟨_, Op.indexAddr _ _ _, _, _, _, _⟩ :: _) _ _); refine wpl_indexg rfl _ _ _ rfl 32 3 Try.underlying22 sizeHAct (by decide) _ _ _ HR.out rfl k rfl HX.out ?_; intro bk off _ hcell; have c0 := hcell 0 _ HK.out.1; have c1 := hcell 1 _ HK.out.2.1; have c2 := hcell 2 _ HK.out.2.2; clear hcell; simp only [Nat.add_zero] at c0))
        refine calls_world fun W hW => ?_
        have huW : Upd (fun _ => False) wr W := by rw [hW]; exact (Upd.refl _ wr).alloc _
        have HUW := Lib.hid huW
        clear hW huW
        refine (offer_in (HC.out.1.upd HUW.out) HC.out.2.1 a.addr HGA.out.1.addr (HRV.out.1.upd (HSI.out.trans HUW.out (fun _ _ f => f)) (fun _ _ f => f)) (fun h0 q hq => .inl (Nat.lt_of_lt_of_le (HRV.out.2 h0 q hq) HU0.out.size)) (by have := HGA.out.2; omega)).mono ?_
        rintro e w3 ⟨rfl, I3, _⟩
        have HI3 := Lib.hid (show InH w0 w3 b (offerH h a.addr a.bs).2 (fun _ => False) ∧ (offerH h a.addr a.bs).2.Good ∧ (offerH h a.addr a.bs).2.room = n ∧ (offerH h a.addr a.bs).2.k = kk from ⟨I3, offer_good HC.out.2.1 HGA.out.1.addr (by have := HGA.out.2; omega), (offer_room h a.addr a.bs).1.trans HC.out.2.2.1, (offer_room h a.addr a.bs).2.trans HC.out.2.2.2⟩)
        clear I3
        go_wp2_with fail
        go_roundg (acts'.length - (k + 1))
        case measure => have := HX.out; omega
        case rel => exact ⟨k + 1, _, by have := HX.out; omega, by go_num, HI3⟩
      · go_wp2_with (first
          | ((with_reducible change wpList _ _ _ (⟨_, Op.indexAddr _ _ _, _, _, _, _⟩ :: _) _ _); refine wpl_indexg rfl _ _ _ rfl 32 3 Try.underlying22 sizeHAct (by decide) _ _ _ HR.out rfl k rfl HX.out ?_; intro bk off _ hcell; have c0 := hcell 0 _ HK.out.1; have c1 := hcell 1 _ HK.out.2.1; have c2 := hcell 2 _ HK.out.2.2; clear hcell; simp only [Nat.add_zero] at c0))
        refine calls_world fun W hW => ?_
        have huW : Upd (fun _ => False) wr W := by rw [hW]; exact (Upd.refl _ wr).alloc _
        have HUW := Lib.hid huW
        clear hW huW
        cases hm : h.m a.addr with
        | none =>
          refine (getin_none (HC.out.1.upd HUW.out) a.addr HGA.out.1.addr hm).mono ?_
          rintro e w3 ⟨rfl, I3, _⟩
          have HI3 := Lib.hid (show InH w0 w3 b h (fun _ => False) ∧ h.Good ∧ h.room = n ∧ h.k = kk from ⟨I3, HC.out.2⟩)
          clear I3 hm
          go_wp2_with fail
          go_roundg (acts'.length - (k + 1))
          case measure => have := HX.out; omega
          case rel => exact ⟨k + 1, h, by have := HX.out; omega, by go_num, HI3⟩
        | some bs =>
          refine (getin_some (HC.out.1.upd HUW.out) HC.out.2.1 a.addr HGA.out.1.addr hm).mono ?_
          rintro e w3 ⟨v3, rfl, _, I3, _⟩
          have HI3 := Lib.hid (show InH w0 w3 b { h with xs := frontL h.xs a.addr } (fun _ => False) ∧ ({ h with xs := frontL h.xs a.addr } : Hot).Good ∧ h.room = n ∧ h.k = kk from ⟨I3.less (fun _ f => f.elim), front_good HC.out.2.1 ((HC.out.2.1.keys a.addr).2 (by rw [hm]; rfl)), HC.out.2.2⟩)
          clear I3 hm
          go_wp2_with fail
          go_roundg (acts'.length - (k + 1))
          case measure => have := HX.out; omega
          case rel => exact ⟨k + 1, _, by have := HX.out; omega, by go_num, HI3⟩
      · go_wp2_with (first
          | ((with_reducible change wpList _ _ _ (⟨_, Op.indexAddr _ _ _, _, _, _, _⟩ :: _) _ _); refine wpl_indexg rfl _ _ _ rfl 32 3 Try.underlying22 sizeHAct (by decide) _ _ _ HR.out rfl k rfl HX.out ?_; intro bk off _ hcell; have c0 := hcell 0 _ HK.out.1; have c1 := hcell 1 _ HK.out.2.1; have c2 := hcell 2 _ HK.out.2.2; clear hcell; simp only [Nat.add_zero] at c0))
        refine calls_world fun W hW => ?_
        have huW : Upd (fun _ => False) wr W := by rw [hW]; exact (Upd.refl _ wr).alloc _
        have HUW := Lib.hid huW
        clear hW huW
        refine (drop_in (HC.out.1.upd HUW.out) HC.out.2.1 a.addr HGA.out.1.addr).mono ?_
        rintro e w3 ⟨rfl, I3, _⟩
        have HI3 := Lib.hid (show InH w0 w3 b (dropH h a.addr) (fun _ => False) ∧ (dropH h a.addr).Good ∧ (dropH h a.addr).room = n ∧ (dropH h a.addr).k = kk from ⟨I3, drop_good' HC.out.2.1 a.addr, (drop_room h a.addr).1.trans HC.out.2.2.1, (drop_room h a.addr).2.trans HC.out.2.2.2⟩)
        clear I3
        go_wp2_with fail
        go_roundg (acts'.length - (k + 1))
        case measure => have := HX.out; omega
        case rel => exact ⟨k + 1, _, by have := HX.out; omega, by go_num, HI3⟩
    · have hnl : ¬ ((k : Int) < (acts'.length : Int)) := by omega
      obtain ⟨i0, hi, hz0, hz1, hz2⟩ := info_parts infoU
      go_wp2_with fail
      refine (all_in HC.out.1 HC.out.2.1).mono ?_
      rintro e w3 ⟨v3, rfl, ho3, I3, hb3⟩
      obtain ⟨xs, hxs⟩ : ∃ xs, xs = h.xs := ⟨_, rfl⟩
      rw [← hxs] at ho3
      have hxl : xs.length ≤ 20 := by
        have h1 := HC.out.2.1.len
        have h2 := HC.out.2.2.1
        rw [hxs]
        omega
      obtain ⟨a3, c3, hv3⟩ := (owns_reads ho3).len
      subst hv3
      have HI3 := Lib.hid (And.intro I3 (And.intro ho3 hb3)); have HXS := Lib.hid hxs
      clear I3 ho3 hb3 hxs
      have hfr : ∀ k, (Value.slice a3 xs.length c3).ownBlock = some k → fresh wr w3 k := fun k hk => HI3.out.2.1.lt k hk
      have HFR := Lib.hid hfr; clear hfr
      go_wp2_with fail
      cases hm : h.m addr with
      | none =>
        refine (getin_none HI3.out.1 addr ha hm).mono ?_
        rintro e w4 ⟨rfl, I4, hu4⟩
        have hnm : addr ∉ xs := by rw [HXS.out]; intro f; have := (HC.out.2.1.keys addr).1 f; rw [hm] at this; cases this
        obtain ⟨ys, hys⟩ : ∃ ys, ys = h.xs := ⟨_, rfl⟩
        have HGY : Hid (h.Good ∧ ys.length ≤ 20) := Lib.hid ⟨HC.out.2.1, by rw [hys, ← HXS.out]; exact hxl⟩
        have HNM := Lib.hid (And.intro hnm hys)
        have H3 := Lib.hid ((owns_reads HI3.out.2.1).upd hu4 (fun k hk f => f (.inr (HFR.out k hk))))
        have HI4 := Lib.hid I4
        clear I4 hu4 hm hnm hys
        go_wp2_with fail
        go_loopg [17, 81] xs.length (fun m rest i wz => ∃ q : Nat, q + m = xs.length ∧ i = .int .i64 q ∧ Hid (wz.ownsRow w4.heap.size 23 1 rest ([] ++ fil addr (xs.take q)).length (U ([] ++ fil addr (xs.take q))) ∧ Below w4.heap.size w4 wz) ∧ ∃ sa sc, rest = .slice sa ([] ++ fil addr (xs.take q)).length sc)
        case atStart => exact ⟨0, by simp, rfl, Lib.hid ⟨by simpa [fil] using World.ownsRow_nil w4 _ _ _, Below.refl _ _⟩, _, _, rfl⟩
        case round =>
          obtain ⟨q, hq, rfl, HO, ra, rc, hrs⟩ := hrel
          by_cases hqx : q < xs.length
          · have HQ := Lib.hid hqx
            obtain ⟨x, hx, hfs⟩ := fil_snoc addr xs q hqx
            have HF := Lib.hid hfs; have HXX := Lib.hid hx; clear hfs hx
            have HRR : Hid (Reads wr 1 (.slice a3 xs.length c3) xs.length (U xs)) := Lib.hid (H3.out.below HO.out.2 (Nat.le_refl _))
            have hll : ([] ++ fil addr (xs.take q)).length ≤ 5000 := by
              have h1 : (fil addr (xs.take q)).length ≤ (xs.take q).length := List.length_filter_le _ _
              simp at h1 ⊢
              omega
            by_cases hxa : x = addr
            · have hb1 : (x != addr) = false := by simp [hxa]
              have HXA := Lib.hid hxa; clear hxa
              subst hrs
              go_wp2_with (first
                | ((with_reducible change wpList _ _ _ (⟨_, Op.indexAddr _ _ _, _, _, _, _⟩ :: _) _ _); refine wpl_indexg rfl _ _ _ rfl 23 1 Try.underlying44 sizeU32 (by decide) _ _ _ HRR.out rfl q rfl HQ.out ?_; intro bk off _ hcell; have c0 := hcell 0 (.int .u32 x) (by rw [Nat.mul_one, Nat.add_zero]; exact HXX.out); clear hcell; simp only [Nat.add_zero] at c0))
              go_roundg (gk - 1)
              case measure => omega
              case rel =>
                have e : fil addr (xs.take (q + 1)) = fil addr (xs.take q) := by rw [HF.out, if_pos HXA.out, List.append_nil]
                exact ⟨q + 1, by have := HQ.out; omega, by go_num, by rw [e]; exact HO, by rw [e]; exact ⟨_, _, rfl⟩⟩
            · have hb1 : (x != addr) = true := by simpa using hxa
              have HXA := Lib.hid hxa; clear hxa
              have hwsz := HO.out.2.size
              subst hrs
              go_wp2_with (first
                | ((with_reducible change wpList _ _ _ (⟨_, Op.indexAddr _ _ _, _, _, _, _⟩ :: _) _ _); refine wpl_indexg rfl _ _ _ rfl 23 1 Try.underlying44 sizeU32 (by decide) _ _ _ HRR.out rfl q rfl HQ.out ?_; intro bk off _ hcell; have c0 := hcell 0 (.int .u32 x) (by rw [Nat.mul_one, Nat.add_zero]; exact HXX.out); clear hcell; simp only [Nat.add_zero] at c0)
                | ((with_reducible change wpList _ _ _ (⟨_, Op.call { callee := Callee.builtin Builtin.append, args := _, argTypes := _ }, _, _, _, _⟩ :: _) _ _); refine wpl_append rfl _ _ 44 rfl w4.heap.size 23 i0 (.int .u32 0) 1 4 Try.underlying44 hi hz0 hz1 hz2 rfl (by decide) _ _ _ (HO.out.1.alloc _) rfl _ _ _ (owns_reads (owns_one wr (.int .u32 x) 23)) rfl (ints_oneCell .u32 [x]) (by unfold maxLen; omega) (by omega) (by simp; omega) ?_; intro v5 w5 hown5 hg5 _; have hb5 := grown_below HO.out.1 hg5 HO.out.2 hwsz; have HW5 := Lib.hid (And.intro hown5 hb5); clear hown5 hb5 hg5))
              go_roundg (gk - 1)
              case measure => omega
              case rel =>
                have e : fil addr (xs.take (q + 1)) = fil addr (xs.take q) ++ [x] := by rw [HF.out, if_neg HXA.out]
                have e2 : [] ++ fil addr (xs.take (q + 1)) = ([] ++ fil addr (xs.take q)) ++ [x] := by rw [e, List.append_assoc]
                have ho : w5.ownsRow w4.heap.size 23 1 v5 ([] ++ fil addr (xs.take (q + 1))).length (U ([] ++ fil addr (xs.take (q + 1)))) := by rw [e2]; simpa using HW5.out.1
                exact ⟨q + 1, by have := HQ.out; omega, by go_num, Lib.hid ⟨ho, HW5.out.2⟩, (owns_reads ho).len⟩
          · have hnq : ¬ ((q : Int) < (xs.length : Int)) := by omega
            have hq' : xs.take q = xs := List.take_of_length_le (by omega)
            have hwant : [] ++ fil addr xs = ys := by
              rw [List.nil_append, fil_erase (by rw [HXS.out]; exact HC.out.2.1.once), List.erase_of_not_mem HNM.out.1, HNM.out.2, HXS.out]
            have hylen : ys.length = xs.length := by
              rw [HNM.out.2, HXS.out]
            have hO2 := HO.out
            rw [hq', hwant] at hO2
            rw [hq', hwant] at hrs
            subst hrs
            have HO2 := Lib.hid hO2
            have hbe : ((ys.length : Int) == (xs.length : Int)) = true := by simp; omega
            have hIz := HI4.out.other (w' := wr) ((below_upd HO2.out.2).mono (fun i hi f => absurd f (by omega)))
            have HIZ := Lib.hid hIz
            have hsz := HO2.out.2.size
            clear hO2 hIz hwant hq' HO hylen
            go_wp2_with fail
            refine (all_in (show InH w0 wr b h _ from HIZ.out) HGY.out.1).mono ?_
            rintro e w6 ⟨v6, rfl, ho6, I6, hb6⟩
            obtain ⟨a6, c6, hv6⟩ := (owns_reads ho6).len
            subst hv6
            have HO6 := Lib.hid (And.intro (owns_reads ho6) (And.intro I6.since hb6))
            clear ho6 I6 hb6
            go_wp2_with fail
            have hs1 : Reads w6 1 (.slice a6 h.xs.length c6) ys.length (U ys) := by rw [HNM.out.2]; exact HO6.out.1
            have hs2 : Reads w6 1 (.slice ra ys.length rc) ys.length (U ys) := (owns_reads HO2.out.1).below HO6.out.2.2 (Nat.le_refl _)
            have hs3 : ys.length ≤ maxLen := Nat.le_trans HGY.out.2 (by unfold maxLen; decide)
            refine (same_calls w6 _ _ ys ys hs1 hs2 hs3).mono ?_
            rintro e w7 ⟨rfl, d, rfl⟩
            have hdd : decide (ys = ys) = true := decide_eq_true rfl
            go_wp2_with fail
            go_ret
            have hb0 : Below B w w0 := HU0.out.below (by rw [HB.out]; exact Nat.le_refl _) (fun _ f => f.elim)
            have hb7 : Below B w w6 := hb0.trans (HO6.out.2.1.below (by rw [HB.out]; exact HU0.out.size) (fun _ f => f.elim))
            exact ⟨rfl, below_drewN hb7 _⟩
      | some bs =>
        refine (getin_some HI3.out.1 HC.out.2.1 addr ha hm).mono ?_
        rintro e w4 ⟨v4, rfl, _, I4, hu4⟩
        have hnm : addr ∈ xs := by rw [HXS.out]; exact (HC.out.2.1.keys addr).2 (by rw [hm]; rfl)
        obtain ⟨ys, hys⟩ : ∃ ys, ys = frontL h.xs addr := ⟨_, rfl⟩
        have HGY : Hid (({ h with xs := frontL h.xs addr } : Hot).Good ∧ ys.length ≤ 20) := Lib.hid ⟨front_good HC.out.2.1 (by rw [← HXS.out]; exact hnm), by rw [hys, ← HXS.out, len_frontL_mem hnm]; exact hxl⟩
        have HNM := Lib.hid (And.intro hnm hys)
        have H3 := Lib.hid ((owns_reads HI3.out.2.1).upd hu4 (fun k hk f => f (.inr (HFR.out k hk))))
        have HI4 := Lib.hid I4
        clear I4 hu4 hm hnm hys
        go_wp2_with (first
          | ((with_reducible change wpList _ _ _ (⟨_, Op.call { callee := Callee.builtin Builtin.append, args := _, argTypes := _ }, _, _, _, _⟩ :: _) _ _); refine wpl_append rfl _ _ 44 rfl w4.heap.size 23 i0 (.int .u32 0) 1 4 Try.underlying44 hi hz0 hz1 hz2 rfl (by decide) _ 0 [] (World.ownsRow_nil _ _ _ _) rfl _ _ _ (owns_reads (owns_one w4 (.int .u32 addr) 23)) rfl (ints_oneCell .u32 [addr]) (by unfold maxLen; omega) (by omega) (by simp) ?_
             intro v5 w5 hown5 hg5 _
             have hb5 : Below w4.heap.size w4 w5 := ((Below.refl _ w4).alloc (Nat.le_refl _) _).grown hg5 (by simp) (fun g hg => by simp [Value.ownBlock] at hg)
             obtain ⟨a5, c5, hv5⟩ := (owns_reads hown5).len
             subst hv5
             have HW5 := Lib.hid (And.intro hown5 hb5)
             clear hown5 hb5 hg5))
        go_loopg [17, 81] xs.length (fun m rest i wz => ∃ q : Nat, q + m = xs.length ∧ i = .int .i64 q ∧ Hid (wz.ownsRow w4.heap.size 23 1 rest ([addr] ++ fil addr (xs.take q)).length (U ([addr] ++ fil addr (xs.take q))) ∧ Below w4.heap.size w4 wz) ∧ ∃ sa sc, rest = .slice sa ([addr] ++ fil addr (xs.take q)).length sc)
        case atStart => exact ⟨0, by simp, rfl, Lib.hid ⟨by simpa [fil] using HW5.out.1, HW5.out.2⟩, _, _, rfl⟩
        case round =>
          obtain ⟨q, hq, rfl, HO, ra, rc, hrs⟩ := hrel
          by_cases hqx : q < xs.length
          · have HQ := Lib.hid hqx
            obtain ⟨x, hx, hfs⟩ := fil_snoc addr xs q hqx
            have HF := Lib.hid hfs; have HXX := Lib.hid hx; clear hfs hx
            have HRR : Hid (Reads wr 1 (.slice a3 xs.length c3) xs.length (U xs)) := Lib.hid (H3.out.below HO.out.2 (Nat.le_refl _))
            have hll : ([addr] ++ fil addr (xs.take q)).length ≤ 5000 := by
              have h1 : (fil addr (xs.take q)).length ≤ (xs.take q).length := List.length_filter_le _ _
              simp at h1 ⊢
              omega
            by_cases hxa : x = addr
            · have hb1 : (x != addr) = false := by simp [hxa]
              have HXA := Lib.hid hxa; clear hxa
              subst hrs
              go_wp2_with (first
                | ((with_reducible change wpList _ _ _ (⟨_, Op.indexAddr _ _ _, _, _, _, _⟩ :: _) _ _); refine wpl_indexg rfl _ _ _ rfl 23 1 Try.underlying44 sizeU32 (by decide) _ _ _ HRR.out rfl q rfl HQ.out ?_; intro bk off _ hcell; have c0 := hcell 0 (.int .u32 x) (by rw [Nat.mul_one, Nat.add_zero]; exact HXX.out); clear hcell; simp only [Nat.add_zero] at c0))
              go_roundg (gk - 1)
              case measure => omega
              case rel =>
                have e : fil addr (xs.take (q + 1)) = fil addr (xs.take q) := by rw [HF.out, if_pos HXA.out, List.append_nil]
                exact ⟨q + 1, by have := HQ.out; omega, by go_num, by rw [e]; exact HO, by rw [e]; exact ⟨_, _, rfl⟩⟩
            · have hb1 : (x != addr) = true := by simpa using hxa
              have HXA := Lib.hid hxa; clear hxa
              have hwsz := HO.out.2.size
              subst hrs
              go_wp2_with (first
                | ((with_reducible change wpList _ _ _ (⟨_, Op.indexAddr _ _ _, _, _, _, _⟩ :: _) _ _); refine wpl_indexg rfl _ _ _ rfl 23 1 Try.underlying44 sizeU32 (by decide) _ _ _ HRR.out rfl q rfl HQ.out ?_; intro bk off _ hcell; have c0 := hcell 0 (.int .u32 x) (by rw [Nat.mul_one, Nat.add_zero]; exact HXX.out); clear hcell; simp only [Nat.add_zero] at c0)
                | ((with_reducible change wpList _ _ _ (⟨_, Op.call { callee := Callee.builtin Builtin.append, args := _, argTypes := _ }, _, _, _, _⟩ :: _) _ _); refine wpl_append rfl _ _ 44 rfl w4.heap.size 23 i0 (.int .u32 0) 1 4 Try.underlying44 hi hz0 hz1 hz2 rfl (by decide) _ _ _ (HO.out.1.alloc _) rfl _ _ _ (owns_reads (owns_one wr (.int .u32 x) 23)) rfl (ints_oneCell .u32 [x]) (by unfold maxLen; omega) (by omega) (by simp; omega) ?_; intro v5 w5 hown5 hg5 _; have hb5 := grown_below HO.out.1 hg5 HO.out.2 hwsz; have HW5 := Lib.hid (And.intro hown5 hb5); clear hown5 hb5 hg5))
              go_roundg (gk - 1)
              case measure => omega
              case rel =>
                have e : fil addr (xs.take (q + 1)) = fil addr (xs.take q) ++ [x] := by rw [HF.out, if_neg HXA.out]
                have e2 : [addr] ++ fil addr (xs.take (q + 1)) = ([addr] ++ fil addr (xs.take q)) ++ [x] := by rw [e, List.append_assoc]
                have ho : w5.ownsRow w4.heap.size 23 1 v5 ([addr] ++ fil addr (xs.take (q + 1))).length (U ([addr] ++ fil addr (xs.take (q + 1)))) := by rw [e2]; simpa using HW5.out.1
                exact ⟨q + 1, by have := HQ.out; omega, by go_num, Lib.hid ⟨ho, HW5.out.2⟩, (owns_reads ho).len⟩
          · have hnq : ¬ ((q : Int) < (xs.length : Int)) := by omega
            have hq' : xs.take q = xs := List.take_of_length_le (by omega)
            have hwant : [addr] ++ fil addr xs = ys := by
              rw [fil_erase (by rw [HXS.out]; exact HC.out.2.1.once), HNM.out.2, HXS.out]; rfl
            have hylen : ys.length = xs.length := by
              rw [HNM.out.2, ← HXS.out, len_frontL_mem HNM.out.1]
            have hO2 := HO.out
            rw [hq', hwant] at hO2
            rw [hq', hwant] at hrs
            subst hrs
            have HO2 := Lib.hid hO2
            have hbe : ((ys.length : Int) == (xs.length : Int)) = true := by simp; omega
            have hIz := HI4.out.other (w' := wr) ((below_upd HO2.out.2).mono (fun i hi f => absurd f (by omega)))
            have HIZ := Lib.hid hIz
            have hsz := HO2.out.2.size
            clear hO2 hIz hwant hq' HO hylen
            go_wp2_with fail
            refine (all_in (show InH w0 wr b { h with xs := frontL h.xs addr } _ from HIZ.out) HGY.out.1).mono ?_
            rintro e w6 ⟨v6, rfl, ho6, I6, hb6⟩
            obtain ⟨a6, c6, hv6⟩ := (owns_reads ho6).len
            subst hv6
            have HO6 := Lib.hid (And.intro (owns_reads ho6) (And.intro I6.since hb6))
            clear ho6 I6 hb6
            go_wp2_with fail
            have hs1 : Reads w6 1 (.slice a6 (frontL h.xs addr).length c6) ys.length (U ys) := by rw [HNM.out.2]; exact HO6.out.1
            have hs2 : Reads w6 1 (.slice ra ys.length rc) ys.length (U ys) := (owns_reads HO2.out.1).below HO6.out.2.2 (Nat.le_refl _)
            have hs3 : ys.length ≤ maxLen := Nat.le_trans HGY.out.2 (by unfold maxLen; decide)
            refine (same_calls w6 _ _ ys ys hs1 hs2 hs3).mono ?_
            rintro e w7 ⟨rfl, d, rfl⟩
            have hdd : decide (ys = ys) = true := decide_eq_true rfl
            go_wp2_with fail
            go_ret
            have hb0 : Below B w w0 := HU0.out.below (by rw [HB.out]; exact Nat.le_refl _) (fun _ f => f.elim)
            have hb7 : Below B w w6 := hb0.trans (HO6.out.2.1.below (by rw [HB.out]; exact HU0.out.size) (fun _ f => f.elim))
            exact ⟨rfl, below_drewN hb7 _⟩
end Go.Proofs.Ytfpbkofjbnmkeaa.hotFirst
