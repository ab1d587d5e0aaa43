/- What this text proves: the walk of GhostRoom. No conditions. -/
import Derived.Test.YtikdejiiklpepaaGhostLaws
namespace Go.Proofs.Ytikdejiiklpepaa.ghostRoom
open Go Go.RowKit
open Go.Proofs Go.Proofs.Ytikdejiiklpepaa

def hadMap (xs : List Int) : List (Value × Value) := xs.map (fun x => (.int .u32 x, .bool true))
theorem had_none {xs : List Int} {x : Int} (h : x ∉ xs) : alook (hadMap xs) (.int .u32 x) = none := by
  classical
  simp only [alook, Option.map_eq_none_iff, List.find?_eq_none, hadMap, List.mem_map, decide_eq_true_eq]
  rintro p ⟨n, hn, rfl⟩ e
  injection e with _ e
  exact h (by rw [← e]; exact hn)
theorem had_put {xs : List Int} {x : Int} (h : x ∉ xs) : aput (hadMap xs) (.int .u32 x) (.bool true) = hadMap (xs ++ [x]) := by
  rw [aput_none (had_none h)]
  simp [hadMap]
theorem had_step {xs : List Int} {q : Nat} (hq : q < xs.length) (hnd : xs.Nodup) : ∃ x, x ∈ xs ∧ (xs.map (Value.int .u32))[q]? = some (.int .u32 x) ∧ x ∉ xs.take q ∧ xs.take (q + 1) = xs.take q ++ [x] := by
  refine ⟨xs[q], List.getElem_mem _, by simp [hq], fun h => ?_, List.take_succ_eq_append_getElem hq⟩
  obtain ⟨i, hi, hie⟩ := List.getElem_of_mem h
  simp only [List.length_take] at hi
  rw [List.getElem_take] at hie
  have := (List.getElem_inj hnd).1 hie
  omega
theorem zBool (w : World) : (zeroValue 4).run Try.prog w = .ok (.bool false) w := by kernel_rfl
/-- behind some rounds over all. -/
def HadRel (w4 : World) (bm : Nat) (xs : List Int) (m : Nat) (i : Value) (wr : World) : Prop :=
  ∃ k : Nat, k + m = xs.length ∧ i = .int .i64 k ∧ MapAt wr Try.prog 33 bm (hadMap (xs.take k)) ∧ Upd (· = bm) w4 wr

set_option maxHeartbeats 4000000 in
theorem walk (room : Int) (acts : List (Bool × Int)) (v : Value) (w : World) (hr0 : 0 ≤ room) (hr1 : room ≤ 255)
    (hv : Reads w 2 v acts.length (acts.flatMap actCells)) (hl : acts.length ≤ maxLen) (hw : ∀ p ∈ acts, (Lit.int .u32 p.2).wf = true) :
    Calls Try.prog 4 #[.int .u8 room, v] w fun e w' => e = .returned (.bool true) ∧ Below w.heap.size w w' := by
  obtain ⟨B, hB⟩ : ∃ B, B = w.heap.size := ⟨_, rfl⟩
  rw [← hB]
  have HV := Lib.hid hv; clear hv
  have HW := Lib.hid hw; clear hw
  obtain ⟨n, hn⟩ : ∃ n, n = room % 31 := ⟨_, rfl⟩
  have hn0 : 0 ≤ n := by omega
  have hn1 : n ≤ 30 := by omega
  obtain ⟨va, vc, hva⟩ := HV.out.len
  subst hva
  have HN := Lib.hid hn; clear hn
  have HB := Lib.hid hB; clear hB
  go_enter Try.func4, Try.ntmps4
  go_wp2_with fail
  refine (shown15_calls w).mono ?_
  rintro e w0 ⟨rfl, hb0⟩
  rw [← HB.out] at hb0
  go_wp2_with fail
  rw [← HN.out]
  have hs0 : B ≤ w0.heap.size := by have := hb0.size; rw [HB.out]; exact this
  refine (new_from B w0 n (by omega) (by omega) hs0).mono ?_
  rintro e w1 ⟨l, rfl, hg1, hb⟩
  have hb1 := hb0.trans hb; have hs1 := Nat.le_trans hs0 hb.size; clear hb hb0 hs0
  go_wp2_with fail
  have hv1 : Reads w1 2 (.slice va acts.length vc) acts.length (acts.flatMap actCells) := HV.out.below hb1 (by rw [HB.out]; exact Nat.le_refl _)
  refine (few_calls w1 _ _ _ hv1 hl).mono ?_
  rintro e w1 ⟨v1, rfl, hsl, rfl⟩
  have hv2 := hsl.1 _ _ HV.out
  clear hsl hv1
  simp only [Nat.zero_mul, List.drop_zero, Nat.sub_zero] at hv2
  rw [flatMap_take actCells 2 (fun _ => rfl)] at hv2
  obtain ⟨acts', hacts⟩ : ∃ acts', acts' = acts.take (min acts.length 300) := ⟨_, rfl⟩
  rw [← hacts] at hv2
  have hlen : acts'.length = min acts.length 300 := by rw [hacts]; simp
  rw [← hlen] at hv2
  have hw' : Hid (∀ p ∈ acts', (Lit.int .u32 p.2).wf = true) := Lib.hid (fun p hp => HW.out p (List.mem_of_mem_take (by rw [← hacts]; exact hp)))
  have hle : acts'.length ≤ 300 := by omega
  obtain ⟨va1, vc1, hva1⟩ := hv2.len
  subst hva1
  have HV2 := Lib.hid hv2
  have HA : Hid (Acted w B l n acts' 0 w1) := Lib.hid ⟨hg1, hs1, hb1⟩
  clear hv2 hacts hlen HV HW hg1 hs1 hb1
  go_wp2_with fail
  go_loopg [33] acts'.length (fun m i wr => ActRel w B l n acts' m i wr)
  case atStart => exact ⟨0, by simp, rfl, HA.out⟩
  case round =>
    obtain ⟨k, hk, rfl, hacted⟩ := hrel
    have HC := Lib.hid hacted; clear hacted
    by_cases hlt : k < acts'.length
    · obtain ⟨g, b, hgb⟩ : ∃ g b, acts'[k] = (g, b) := ⟨_, _, rfl⟩
      have HGB := Lib.hid hgb; clear hgb
      have hwb : Hid ((Lit.int .u32 b).wf = true) := Lib.hid (by have := hw'.out acts'[k] (List.getElem_mem _); rw [HGB.out] at this; exact this)
      have HX := Lib.hid hlt
      have HR : Hid (Reads wr 2 (.slice va1 acts'.length vc1) acts'.length (acts'.flatMap actCells)) := Lib.hid (HV2.out.below HC.out.below (by rw [HB.out]; exact Nat.le_refl _))
      have HK := Lib.hid (acts_cells hlt HGB.out)
      have hmm := @run_makeMap Try.prog
      obtain ⟨xs, hxs⟩ : ∃ xs, xs = play n (acts'.take (k + 1)) := ⟨_, rfl⟩
      have HXS := Lib.hid hxs; clear hxs
      cases g
      · have hc := Lib.hid (fun o => HC.out.ask HX.out HGB.out hwb.out o)
        go_wp2_with (first
          | ((with_reducible change wpList _ _ _ (⟨_, Op.indexAddr _ _ _, _, _, _, _⟩ :: _) _ _); refine wpl_index rfl _ _ _ rfl 35 2 Try.underlying22 sizeAct (by decide) _ _ _ HR.out rfl k rfl HX.out ?_; intro bk off _ hcell; have c0 := hcell 0 _ HK.out.1; have c1 := hcell 1 _ HK.out.2; clear hcell; simp only [Nat.add_zero] at c0)
          | (go_at_call 13; refine (hc.out _).mono ?_; rintro e w2 ⟨⟨r, rfl⟩, hacted, hu2⟩; have HA2 := Lib.hid hacted; have HU2 := Lib.hid hu2; clear hacted hu2 c0 c1)
          | (go_at_call 16; refine (all_calls _ l n xs (from_ B w2) (by rw [HXS.out]; exact HA2.out.list.upd ((Upd.refl (fun _ => False) w2).alloc _) (fun _ _ f => f))).mono ?_; rintro e w4 ⟨v4, rfl, ho4, hb4⟩; obtain ⟨a4, c4, hv4⟩ := (owns_reads ho4).len; subst hv4; have HO4 := Lib.hid ho4; have HB4 := Lib.hid hb4; clear ho4 hb4))
        have h24 : Below (w2.alloc (.map #[] 0)).heap.size (w2.alloc (.map #[] 0)) w4 := HB4.out
        have hm4 : MapAt w4 Try.prog 33 w2.heap.size (hadMap (xs.take 0)) := (MapAt.made w2 Try.prog 33).of_block (h24.block _ (by simp))
        have hsz := (HA2.out.list).size
        have hxl : (xs.length : Int) ≤ n := by rw [HXS.out]; exact hsz.1
        have hvr : wr.heap.size < w2.heap.size := by have := HU2.out.size; simp at this; omega
        have d0 : w4.cell? ⟨wr.heap.size, 0, none⟩ = some (.bool false) := by
          rw [h24.cell (p := ⟨wr.heap.size, 0, none⟩) (by simp; omega)]
          exact (World.cell?_alloc_lt _ _ _ hvr).trans (HU2.out.cell (World.cell?_alloc_new _ _ _ _) (fun f => by have := f.2; simp at this))
        have d1 : w4.cell? ⟨wr.heap.size, 1, none⟩ = some (.int .u32 b) := by
          rw [h24.cell (p := ⟨wr.heap.size, 1, none⟩) (by simp; omega)]
          exact (World.cell?_alloc_lt _ _ _ hvr).trans (HU2.out.cell (World.cell?_alloc_new _ _ _ _) (fun f => by have := f.2; simp at this))
        have HM4 := Lib.hid hm4; clear hm4
        have H24 := Lib.hid h24; clear h24
        have hnd : Hid xs.Nodup := Lib.hid (by rw [HXS.out]; exact HA2.out.list.once)
        have hxw : Hid (∀ x ∈ xs, (Lit.int .u32 x).wf = true) := Lib.hid (by rw [HXS.out]; exact HA2.out.list.wf)
        clear hsz
        obtain ⟨wo, rfl⟩ : ∃ wo : World, wo = wr := ⟨_, rfl⟩
        go_loopg [52] xs.length (fun m i wr' => HadRel w4 w2.heap.size xs m i wr')
        case atStart => exact ⟨0, by simp, rfl, HM4.out, Upd.refl _ _⟩
        case round =>
          obtain ⟨q, hq, rfl, hmap, hu⟩ := hrel
          have ho := ownsRow_upd HO4.out hu (fun g hg e => by have := (HO4.out.lt g hg).1; simp at this; omega)
          by_cases hqx : q < xs.length
          · have HQ := Lib.hid hqx
            obtain ⟨x, hx, hxg, hxn, hxt⟩ := had_step hqx hnd.out
            have hxw' := hxw.out x hx
            obtain ⟨ob, oo, ⟨rfl, _⟩, hxc⟩ := (owns_reads ho).elem q hqx hxg
            have HM := Lib.hid hmap; have HUU := Lib.hid hu; have HXN := Lib.hid hxn; have HXT := Lib.hid hxt
            clear hmap hu ho hx hxg hxn hxt
            go_wp2_with (first
              | (at_lookup; refine wpl_lookup rfl _ _ 40 rfl 33 4 kU32 Try.underlying40 _ (zBool _) w2.heap.size _ HM.out rfl _ _ (Maps.keyOf_int_mk Try.underlying33 hxw') rfl none (had_none HXN.out) ?_)
              | (at_mapUpdate; refine wpl_mapUpdate rfl _ _ _ 40 rfl 33 4 kU32 Try.underlying40 w2.heap.size _ HM.out rfl _ (.bool true) _ (Maps.keyOf_int_mk Try.underlying33 hxw') rfl rfl ?_; intro w6 hm6 hu6))
            go_roundg (xs.length - (q + 1))
            case measure => have := HQ.out; omega
            case rel => exact ⟨q + 1, by have := HQ.out; omega, by go_num, by rw [HXT.out, ← had_put HXN.out]; exact hm6, HUU.out.trans hu6 (fun _ _ h => h)⟩
          · have : ¬ ((q : Int) < (xs.length : Int)) := by omega
            have hqx' : xs.take q = xs := List.take_of_length_le (by omega)
            rw [hqx'] at hmap
            have hng : ¬ n < (xs.length : Int) := by omega
            have hgt : decide (n < (xs.length : Int)) = false := by simpa using hng
            have e0 : wr.cell? ⟨wo.heap.size, 0, none⟩ = some (.bool false) := hu.cell d0 (fun e => by simp at e; omega)
            have e1 : wr.cell? ⟨wo.heap.size, 1, none⟩ = some (.int .u32 b) := hu.cell d1 (fun e => by simp at e; omega)
            have hfin : Hid (Acted w B l n acts' (k + 1) wr) := Lib.hid (by
              have hA := HA2.out
              have hs4 := H24.out.size
              have hsq := hu.size
              simp only [World.size_alloc] at hs4
              have hsA := hA.size
              have hup : Upd (fun j => w2.heap.size ≤ j) w2 wr := (((Upd.refl _ w2).alloc _).trans (below_upd H24.out) (fun j _ hj => by simp at hj; omega)).trans hu (fun j _ hj => by have hj' : j = w2.heap.size := hj; omega)
              exact ⟨(hA.list.upd hup (fun j hj => Nat.not_le.2 hj.2)).grow (fun j hj => ⟨hj.1, Nat.lt_of_lt_of_le hj.2 hup.size⟩) (fun j hj => hj.2), Nat.le_trans hsA hup.size, hA.below.trans (hup.below hsA (fun j hj => Nat.le_trans hsA hj))⟩)
            clear hmap hu ho
            go_wp2_with fail
            go_roundg (acts'.length - (k + 1))
            case measure => have := HX.out; omega
            case rel => exact ⟨k + 1, by have := HX.out; omega, by go_num, hfin.out⟩
      · have hc := Lib.hid (fun o => HC.out.drop HX.out HGB.out hwb.out o)
        go_wp2_with (first
          | ((with_reducible change wpList _ _ _ (⟨_, Op.indexAddr _ _ _, _, _, _, _⟩ :: _) _ _); refine wpl_index rfl _ _ _ rfl 35 2 Try.underlying22 sizeAct (by decide) _ _ _ HR.out rfl k rfl HX.out ?_; intro bk off _ hcell; have c0 := hcell 0 _ HK.out.1; have c1 := hcell 1 _ HK.out.2; clear hcell; simp only [Nat.add_zero] at c0)
          | (go_at_call 11; refine (hc.out _).mono ?_; rintro e w2 ⟨⟨r, rfl⟩, hacted, hu2⟩; have HA2 := Lib.hid hacted; have HU2 := Lib.hid hu2; clear hacted hu2 c0 c1)
          | (go_at_call 16; refine (all_calls _ l n xs (from_ B w2) (by rw [HXS.out]; exact HA2.out.list.upd ((Upd.refl (fun _ => False) w2).alloc _) (fun _ _ f => f))).mono ?_; rintro e w4 ⟨v4, rfl, ho4, hb4⟩; obtain ⟨a4, c4, hv4⟩ := (owns_reads ho4).len; subst hv4; have HO4 := Lib.hid ho4; have HB4 := Lib.hid hb4; clear ho4 hb4))
        have h24 : Below (w2.alloc (.map #[] 0)).heap.size (w2.alloc (.map #[] 0)) w4 := HB4.out
        have hm4 : MapAt w4 Try.prog 33 w2.heap.size (hadMap (xs.take 0)) := (MapAt.made w2 Try.prog 33).of_block (h24.block _ (by simp))
        have hsz := (HA2.out.list).size
        have hxl : (xs.length : Int) ≤ n := by rw [HXS.out]; exact hsz.1
        have hvr : wr.heap.size < w2.heap.size := by have := HU2.out.size; simp at this; omega
        have d0 : w4.cell? ⟨wr.heap.size, 0, none⟩ = some (.bool true) := by
          rw [h24.cell (p := ⟨wr.heap.size, 0, none⟩) (by simp; omega)]
          exact (World.cell?_alloc_lt _ _ _ hvr).trans (HU2.out.cell (World.cell?_alloc_new _ _ _ _) (fun f => by have := f.2; simp at this))
        have d1 : w4.cell? ⟨wr.heap.size, 1, none⟩ = some (.int .u32 b) := by
          rw [h24.cell (p := ⟨wr.heap.size, 1, none⟩) (by simp; omega)]
          exact (World.cell?_alloc_lt _ _ _ hvr).trans (HU2.out.cell (World.cell?_alloc_new _ _ _ _) (fun f => by have := f.2; simp at this))
        have HM4 := Lib.hid hm4; clear hm4
        have H24 := Lib.hid h24; clear h24
        have hnd : Hid xs.Nodup := Lib.hid (by rw [HXS.out]; exact HA2.out.list.once)
        have hxw : Hid (∀ x ∈ xs, (Lit.int .u32 x).wf = true) := Lib.hid (by rw [HXS.out]; exact HA2.out.list.wf)
        clear hsz
        obtain ⟨wo, rfl⟩ : ∃ wo : World, wo = wr := ⟨_, rfl⟩
        go_loopg [52] xs.length (fun m i wr' => HadRel w4 w2.heap.size xs m i wr')
        case atStart => exact ⟨0, by simp, rfl, HM4.out, Upd.refl _ _⟩
        case round =>
          obtain ⟨q, hq, rfl, hmap, hu⟩ := hrel
          have ho := ownsRow_upd HO4.out hu (fun g hg e => by have := (HO4.out.lt g hg).1; simp at this; omega)
          by_cases hqx : q < xs.length
          · have HQ := Lib.hid hqx
            obtain ⟨x, hx, hxg, hxn, hxt⟩ := had_step hqx hnd.out
            have hxw' := hxw.out x hx
            obtain ⟨ob, oo, ⟨rfl, _⟩, hxc⟩ := (owns_reads ho).elem q hqx hxg
            have HM := Lib.hid hmap; have HUU := Lib.hid hu; have HXN := Lib.hid hxn; have HXT := Lib.hid hxt
            clear hmap hu ho hx hxg hxn hxt
            go_wp2_with (first
              | (at_lookup; refine wpl_lookup rfl _ _ 40 rfl 33 4 kU32 Try.underlying40 _ (zBool _) w2.heap.size _ HM.out rfl _ _ (Maps.keyOf_int_mk Try.underlying33 hxw') rfl none (had_none HXN.out) ?_)
              | (at_mapUpdate; refine wpl_mapUpdate rfl _ _ _ 40 rfl 33 4 kU32 Try.underlying40 w2.heap.size _ HM.out rfl _ (.bool true) _ (Maps.keyOf_int_mk Try.underlying33 hxw') rfl rfl ?_; intro w6 hm6 hu6))
            go_roundg (xs.length - (q + 1))
            case measure => have := HQ.out; omega
            case rel => exact ⟨q + 1, by have := HQ.out; omega, by go_num, by rw [HXT.out, ← had_put HXN.out]; exact hm6, HUU.out.trans hu6 (fun _ _ h => h)⟩
          · have : ¬ ((q : Int) < (xs.length : Int)) := by omega
            have hqx' : xs.take q = xs := List.take_of_length_le (by omega)
            rw [hqx'] at hmap
            have hng : ¬ n < (xs.length : Int) := by omega
            have hgt : decide (n < (xs.length : Int)) = false := by simpa using hng
            have e0 : wr.cell? ⟨wo.heap.size, 0, none⟩ = some (.bool true) := hu.cell d0 (fun e => by simp at e; omega)
            have e1 : wr.cell? ⟨wo.heap.size, 1, none⟩ = some (.int .u32 b) := hu.cell d1 (fun e => by simp at e; omega)
            have hfin : Hid (Acted w B l n acts' (k + 1) wr) := Lib.hid (by
              have hA := HA2.out
              have hs4 := H24.out.size
              have hsq := hu.size
              simp only [World.size_alloc] at hs4
              have hsA := hA.size
              have hup : Upd (fun j => w2.heap.size ≤ j) w2 wr := (((Upd.refl _ w2).alloc _).trans (below_upd H24.out) (fun j _ hj => by simp at hj; omega)).trans hu (fun j _ hj => by have hj' : j = w2.heap.size := hj; omega)
              exact ⟨(hA.list.upd hup (fun j hj => Nat.not_le.2 hj.2)).grow (fun j hj => ⟨hj.1, Nat.lt_of_lt_of_le hj.2 hup.size⟩) (fun j hj => hj.2), Nat.le_trans hsA hup.size, hA.below.trans (hup.below hsA (fun j hj => Nat.le_trans hsA hj))⟩)
            have hna : b ∉ xs := by
              rw [HXS.out, play_snoc _ _ _ HX.out, HGB.out]; exact fun h => ((HC.out.list.once).mem_erase_iff.1 h).1 rfl
            have hlk := hmap.look kU32 Try.underlying40 (zBool _) (Maps.keyOf_int_mk Try.underlying33 hwb.out) false
            rw [had_none hna] at hlk
            simp only [Bool.false_eq_true, if_false, Option.getD_none] at hlk
            clear hmap hu ho
            go_wp2_with fail
            go_roundg (acts'.length - (k + 1))
            case measure => have := HX.out; omega
            case rel => exact ⟨k + 1, by have := HX.out; omega, by go_num, hfin.out⟩
    · have : ¬ ((k : Int) < (acts'.length : Int)) := by omega
      have hb := HC.out.below
      go_wp2_with fail
      go_ret
      exact ⟨rfl, hb⟩
end Go.Proofs.Ytikdejiiklpepaa.ghostRoom
