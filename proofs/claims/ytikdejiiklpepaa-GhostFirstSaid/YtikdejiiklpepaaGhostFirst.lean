/- What this text proves: the walk of GhostFirst. No conditions. -/
import Derived.Test.YtikdejiiklpepaaGhostLaws
namespace Go.Proofs.Ytikdejiiklpepaa.ghostFirst
open Go Go.RowKit
open Go.Proofs Go.Proofs.Ytikdejiiklpepaa

def fil (a : Int) (xs : List Int) : List Int := xs.filter (fun x => x != a)
theorem fil_snoc (a : Int) (xs : List Int) (k : Nat) (hk : k < xs.length) : ∃ x, (xs.map (Value.int .u32))[k]? = some (.int .u32 x) ∧ fil a (xs.take (k + 1)) = fil a (xs.take k) ++ (if x = a then [] else [x]) := by
  refine ⟨xs[k], by simp [hk], ?_⟩
  unfold fil
  rw [List.take_succ_eq_append_getElem hk, List.filter_append]
  congr 1
  by_cases h : xs[k] = a <;> simp [h]
theorem fil_erase {a : Int} {xs : List Int} (h : xs.Nodup) : fil a xs = xs.erase a := by
  unfold fil
  rw [h.erase_eq_filter]
/-- behind some rounds of the loop over what was there. -/
def RestRel (w4 : World) (a : Int) (xs : List Int) (m : Nat) (rest i : Value) (wr : World) : Prop :=
  ∃ k : Nat, k + m = xs.length ∧ i = .int .i64 k ∧ wr.ownsRow w4.heap.size 33 1 rest (fil a (xs.take k)).length ((fil a (xs.take k)).map (.int .u32)) ∧ Below w4.heap.size w4 wr

set_option maxHeartbeats 4000000 in
theorem walk (room a : Int) (acts : List (Bool × Int)) (v : Value) (w : World) (hr0 : 0 ≤ room) (hr1 : room ≤ 255) (ha : (Lit.int .u32 a).wf = true)
    (hv : Reads w 2 v acts.length (acts.flatMap actCells)) (hl : acts.length ≤ maxLen) (hw : ∀ p ∈ acts, (Lit.int .u32 p.2).wf = true) :
    Calls Try.prog 7 #[.int .u8 room, v, .int .u32 a] w fun e w' => e = .returned (.bool true) ∧ Below w.heap.size w w' := by
  obtain ⟨B, hB⟩ : ∃ B, B = w.heap.size := ⟨_, rfl⟩
  rw [← hB]
  have HV := Lib.hid hv; clear hv
  have HW := Lib.hid hw; clear hw
  obtain ⟨n, hn⟩ : ∃ n, n = room % 30 + 1 := ⟨_, rfl⟩
  have hn0 : 1 ≤ n := by omega
  have hn1 : n ≤ 30 := by omega
  obtain ⟨va, vc, hva⟩ := HV.out.len
  subst hva
  have HN := Lib.hid hn; clear hn
  have HB := Lib.hid hB; clear hB
  go_enter Try.func7, Try.ntmps7
  go_wp2_with fail
  refine (shown15_calls w).mono ?_
  rintro e w0 ⟨rfl, hb0⟩
  rw [← HB.out] at hb0
  go_wp2_with fail
  rw [← HN.out]
  have hs0 : B ≤ w0.heap.size := by have := hb0.size; rw [HB.out]; exact this
  refine (new_from B w0 n (by omega) (by omega) hs0).mono ?_
  rintro e w1 ⟨l, rfl, hg1, hb⟩
  have hb1 := hb0.trans hb; have hs1 := Nat.le_trans hs0 hb.size; clear hb hb0 hs0
  go_wp2_with fail
  have hv1 : Reads w1 2 (.slice va acts.length vc) acts.length (acts.flatMap actCells) := HV.out.below hb1 (by rw [HB.out]; exact Nat.le_refl _)
  refine (few_calls w1 _ _ _ hv1 hl).mono ?_
  rintro e w1 ⟨v1, rfl, hsl, rfl⟩
  have hv2 := hsl.1 _ _ HV.out
  clear hsl hv1
  simp only [Nat.zero_mul, List.drop_zero, Nat.sub_zero] at hv2
  rw [flatMap_take actCells 2 (fun _ => rfl)] at hv2
  obtain ⟨acts', hacts⟩ : ∃ acts', acts' = acts.take (min acts.length 300) := ⟨_, rfl⟩
  rw [← hacts] at hv2
  have hlen : acts'.length = min acts.length 300 := by rw [hacts]; simp
  rw [← hlen] at hv2
  have hw' : Hid (∀ p ∈ acts', (Lit.int .u32 p.2).wf = true) := Lib.hid (fun p hp => HW.out p (List.mem_of_mem_take (by rw [← hacts]; exact hp)))
  have hle : acts'.length ≤ 300 := by omega
  obtain ⟨va1, vc1, hva1⟩ := hv2.len
  subst hva1
  have HV2 := Lib.hid hv2
  have HA : Hid (Acted w B l n acts' 0 w1) := Lib.hid ⟨hg1, hs1, hb1⟩
  clear hv2 hacts hlen HV HW hg1 hs1 hb1
  go_wp2_with fail
  go_loopg [39] acts'.length (fun m i wr => ActRel w B l n acts' m i wr)
  case atStart => exact ⟨0, by simp, rfl, HA.out⟩
  case round =>
    obtain ⟨k, hk, rfl, hacted⟩ := hrel
    have HC := Lib.hid hacted; clear hacted
    by_cases hlt : k < acts'.length
    · obtain ⟨g, b, hgb⟩ : ∃ g b, acts'[k] = (g, b) := ⟨_, _, rfl⟩
      have HGB := Lib.hid hgb; clear hgb
      have hwb : Hid ((Lit.int .u32 b).wf = true) := Lib.hid (by have := hw'.out acts'[k] (List.getElem_mem _); rw [HGB.out] at this; exact this)
      have HX := Lib.hid hlt
      have HR : Hid (Reads wr 2 (.slice va1 acts'.length vc1) acts'.length (acts'.flatMap actCells)) := Lib.hid (HV2.out.below HC.out.below (by rw [HB.out]; exact Nat.le_refl _))
      have HK := Lib.hid (acts_cells hlt HGB.out)
      cases g
      · have hc := Lib.hid (fun o => HC.out.ask HX.out HGB.out hwb.out o)
        go_wp2_with (first
          | ((with_reducible change wpList _ _ _ (⟨_, Op.indexAddr _ _ _, _, _, _, _⟩ :: _) _ _); refine wpl_index rfl _ _ _ rfl 35 2 Try.underlying22 sizeAct (by decide) _ _ _ HR.out rfl k rfl HX.out ?_; intro bk off _ hcell; have c0 := hcell 0 _ HK.out.1; have c1 := hcell 1 _ HK.out.2; clear hcell; simp only [Nat.add_zero] at c0)
          | (go_at_call 13; refine (hc.out _).mono ?_; rintro e w2 ⟨⟨r, rfl⟩, hacted, _⟩))
        go_roundg (gk - 1)
        case measure => omega
        case rel => exact ⟨k + 1, by omega, by go_num, hacted⟩
      · have hc := Lib.hid (fun o => HC.out.drop HX.out HGB.out hwb.out o)
        go_wp2_with (first
          | ((with_reducible change wpList _ _ _ (⟨_, Op.indexAddr _ _ _, _, _, _, _⟩ :: _) _ _); refine wpl_index rfl _ _ _ rfl 35 2 Try.underlying22 sizeAct (by decide) _ _ _ HR.out rfl k rfl HX.out ?_; intro bk off _ hcell; have c0 := hcell 0 _ HK.out.1; have c1 := hcell 1 _ HK.out.2; clear hcell; simp only [Nat.add_zero] at c0)
          | (go_at_call 11; refine (hc.out _).mono ?_; rintro e w2 ⟨⟨r, rfl⟩, hacted, _⟩))
        go_roundg (gk - 1)
        case measure => omega
        case rel => exact ⟨k + 1, by omega, by go_num, hacted⟩
    · have : ¬ ((k : Int) < (acts'.length : Int)) := by omega
      obtain ⟨hg, hs, hb⟩ := HC.out
      generalize play n (acts'.take k) = xs at hg
      clear HC hw' HV2 HA
      go_wp2_with fail
      refine (all_calls wr l n xs _ hg).mono ?_
      rintro e w2 ⟨v2, rfl, ho2, hb'⟩
      have hg2 := hg.upd (below_upd hb') (fun k hk => Nat.not_le.2 (hg.lt k hk))
      have hb2 := hb.trans (hb'.mono hs); have hs2 := Nat.le_trans hs hb'.size
      go_wp2_with fail
      refine (ask_calls w2 l n xs _ a ha hg2).mono ?_
      rintro e w3 ⟨rfl, hg3, hu3⟩
      have hnd := hg2.once
      have hsz := hg2.size
      obtain ⟨ys, hys⟩ : ∃ ys, ys = askList n xs a := ⟨_, rfl⟩
      rw [← hys] at hg3
      have hb3 := hb2.trans (hu3.below hs2 (fun _ f => f.1)); have hs3 := Nat.le_trans hs2 hu3.size
      have ho3 := ownsRow_upd ho2 hu3 (fun k hk f => by have := (ho2.lt k hk).1; have := f.2; omega)
      go_wp2_with fail
      refine (all_calls w3 l n _ _ hg3).mono ?_
      rintro e w4 ⟨v4, rfl, ho4, hb'4⟩
      have hb4 := hb3.trans (hb'4.mono hs3); have hs4 := Nat.le_trans hs3 hb'4.size
      have ho24 := ownsRow_upd ho3 (below_upd hb'4) (fun k hk => Nat.not_le.2 ((ho3.lt k hk).2))
      have hln : (xs.length : Int) ≤ 30 := by omega
      clear hg hg2 hg3 ho2 ho3 hu3 hb2 hb3 hb' hb hs2
      obtain ⟨a2, c2, hv2⟩ := (owns_reads ho24).len
      obtain ⟨a4, c4, hv4⟩ := (owns_reads ho4).len
      subst hv2 hv4
      have H24 := Lib.hid ho24; have H4 := Lib.hid ho4; clear ho24 ho4
      have HND := Lib.hid hnd; clear hnd
      have HB4 := Lib.hid hb4; clear hb4
      obtain ⟨i0, hi, hz0, hz1, hz2⟩ := info_parts infoU32
      by_cases ham : a ∈ xs
      · have hal : ys = xs.erase a := by rw [hys]; simp [askList, ham]
        have HAL : Hid (a ∈ xs ∧ ys = xs.erase a) := Lib.hid ⟨ham, hal⟩
        have hdec : decide (a ∈ xs) = true := by simpa using ham
        clear hal ham hys
        go_wp2_with fail
        go_loopg [16, 64] xs.length (fun m rest i wr => RestRel w4 a xs m rest i wr)
        case atStart => exact ⟨0, by simp, rfl, by simpa [fil] using World.ownsRow_nil w4 _ _ _, Below.refl _ _⟩
        case round =>
          obtain ⟨q, hq, rfl, hown, hbl⟩ := hrel
          by_cases hqx : q < xs.length
          · have HQ := Lib.hid hqx
            obtain ⟨x, hx, hfs⟩ := fil_snoc a xs q hqx
            have HF := Lib.hid hfs; have HXX := Lib.hid hx; clear hfs hx
            have HR : Hid (Reads wr 1 (.slice a2 xs.length c2) xs.length (xs.map (.int .u32))) := Lib.hid ((owns_reads H24.out).below hbl (Nat.le_refl _))
            have hll : (fil a (xs.take q)).length ≤ 30 := by
              have : (fil a (xs.take q)).length ≤ (xs.take q).length := List.length_filter_le _ _
              simp at this
              omega
            by_cases hxa : x = a
            · have hb1 : (x != a) = false := by simp [hxa]
              have HXA := Lib.hid hxa; clear hxa
              have HO : Hid (wr.ownsRow w4.heap.size 33 1 u16 (fil a (xs.take q)).length ((fil a (xs.take q)).map (.int .u32)) ∧ Below w4.heap.size w4 wr) := Lib.hid ⟨hown, hbl⟩
              clear hown hbl
              go_wp2_with (first
                | ((with_reducible change wpList _ _ _ (⟨_, Op.indexAddr _ _ _, _, _, _, _⟩ :: _) _ _); refine wpl_index rfl _ _ _ rfl 33 1 Try.underlying29 sizeU32 (by decide) _ _ _ HR.out rfl q rfl HQ.out ?_; intro bk off _ hcell; have c0 := hcell 0 (.int .u32 x) (by rw [Nat.mul_one, Nat.add_zero]; exact HXX.out); clear hcell; simp only [Nat.add_zero] at c0))
              go_roundg (gk - 1)
              case measure => omega
              case rel =>
                have e : fil a (xs.take (q + 1)) = fil a (xs.take q) := by rw [HF.out, if_pos HXA.out, List.append_nil]
                exact ⟨q + 1, by have := HQ.out; omega, by go_num, by rw [e]; exact HO.out.1, HO.out.2⟩
            · have hb1 : (x != a) = true := by simpa using hxa
              have HXA := Lib.hid hxa; clear hxa
              have hwsz := hbl.size
              have HO : Hid (wr.ownsRow w4.heap.size 33 1 u16 (fil a (xs.take q)).length ((fil a (xs.take q)).map (.int .u32)) ∧ Below w4.heap.size w4 wr) := Lib.hid ⟨hown, hbl⟩
              clear hown hbl
              go_wp2_with (first
                | ((with_reducible change wpList _ _ _ (⟨_, Op.indexAddr _ _ _, _, _, _, _⟩ :: _) _ _); refine wpl_index rfl _ _ _ rfl 33 1 Try.underlying29 sizeU32 (by decide) _ _ _ HR.out rfl q rfl HQ.out ?_; intro bk off _ hcell; have c0 := hcell 0 (.int .u32 x) (by rw [Nat.mul_one, Nat.add_zero]; exact HXX.out); clear hcell; simp only [Nat.add_zero] at c0)
                | ((with_reducible change wpList _ _ _ (⟨_, Op.call { callee := Callee.builtin Builtin.append, args := _, argTypes := _ }, _, _, _, _⟩ :: _) _ _); refine wpl_append rfl _ _ 29 rfl w4.heap.size 33 i0 (.int .u32 0) 1 4 Try.underlying29 hi hz0 hz1 hz2 rfl (by decide) _ _ _ (HO.out.1.alloc _) rfl _ _ _ (owns_reads (owns_one wr (.int .u32 x) 33)) rfl (ints_oneCell .u32 [x]) (by unfold maxLen; omega) (by omega) (by simp; omega) ?_; intro v5 w5 hown5 hg5 _; have hb5 := grown_below HO.out.1 hg5 HO.out.2 hwsz))
              go_roundg (gk - 1)
              case measure => omega
              case rel =>
                have e : fil a (xs.take (q + 1)) = fil a (xs.take q) ++ [x] := by rw [HF.out, if_neg HXA.out]
                exact ⟨q + 1, by have := HQ.out; omega, by go_num, by rw [e]; simpa using hown5, hb5⟩
          · have : ¬ ((q : Int) < (xs.length : Int)) := by omega
            have hq' : xs.take q = xs := List.take_of_length_le (by omega)
            rw [hq'] at hown
            rw [fil_erase HND.out, ← HAL.out.2] at hown
            have hyl : ys.length = xs.length - 1 := by rw [HAL.out.2, List.length_erase_of_mem HAL.out.1]
            have hxl : 1 ≤ xs.length := List.length_pos_of_mem HAL.out.1
            have hbe : ((ys.length : Int) == (xs.length : Int) - 1) = true := by simp; omega
            have H4' : Hid (Reads wr 1 (.slice a4 ys.length c4) ys.length (ys.map (.int .u32))) := Lib.hid ((owns_reads H4.out).below hbl (Nat.le_refl _))
            obtain ⟨a5, c5, hv5⟩ := (owns_reads hown).len
            subst hv5
            have HO : Hid (Reads wr 1 (.slice a5 ys.length c5) ys.length (ys.map (.int .u32)) ∧ Below B w wr) := Lib.hid ⟨owns_reads hown, HB4.out.trans (hbl.mono hs4)⟩
            have hy30 : ys.length ≤ 30 := by omega
            clear hown hbl hq' hyl hxl
            go_wp2_with (first
              | (go_at_call 15; refine (same_calls _ _ _ ys ys H4'.out HO.out.1 (by unfold maxLen; omega)).mono ?_; rintro e w6 ⟨rfl, d, rfl⟩))
            go_ret
            refine ⟨rfl, ?_⟩
            have := HO.out.2
            exact ⟨this.os, this.tape, this.output, this.size, this.block⟩
      · have hal : ys = (a :: xs).take n.toNat := by rw [hys]; simp [askList, ham]
        have hdec : decide (a ∈ xs) = false := by simpa using ham
        have hb4 := HB4.out
        have H24r : Hid (∀ o : Obj, Reads (w4.alloc o) 1 (.slice a2 xs.length c2) xs.length (xs.map (.int .u32))) := Lib.hid (fun o => (owns_reads H24.out).keep (fun g _ hg => Below.heap_alloc _ _ _ hg))
        obtain ⟨q, hq, hqle⟩ : ∃ q : Nat, (q = min (xs.length + 1) n.toNat) ∧ q ≤ xs.length + 1 := ⟨_, rfl, Nat.min_le_left _ _⟩
        have hq2 : ((n < xs.length + 1 ∧ (q : Int) = n) ∨ ((xs.length : Int) + 1 ≤ n ∧ q = xs.length + 1)) := by omega
        have hyq : ys = (a :: xs).take q := by
          rw [hal]
          rcases hq2 with ⟨_, h⟩ | ⟨h1, h2⟩
          · congr 1; omega
          · rw [List.take_of_length_le (by simp; omega), List.take_of_length_le (by simp; omega)]
        have HAL := Lib.hid hyq
        have hyl : Hid (ys.length = q) := Lib.hid (by rw [hyq]; simp; omega)
        clear hal ham hys hq hyq
        rcases hq2 with ⟨hlt1, hqn⟩ | ⟨hlt1, hqn⟩
        all_goals
          have HQN := Lib.hid hqn; clear hqn
          go_wp2_with (first
            | ((with_reducible change wpList _ _ _ (⟨_, Op.call { callee := Callee.builtin Builtin.append, args := _, argTypes := _ }, _, _, _, _⟩ :: _) _ _); refine wpl_append rfl _ _ 29 rfl w4.heap.size 33 i0 (.int .u32 0) 1 4 Try.underlying29 hi hz0 hz1 hz2 rfl (by decide) _ _ _ (owns_one w4 (.int .u32 a) 33) rfl _ _ _ (H24r.out _) rfl (one_u32 _) (by unfold maxLen; omega) (by omega) (by simp) ?_; intro v5 w5 hown5 hg5 _; obtain ⟨g5, c5, hv5, hle5, _, _⟩ := owns_pos hown5 (by omega); subst hv5; have hb5 : Below w4.heap.size w4 w5 := ((Below.refl _ w4).alloc (Nat.le_refl _) _).grown hg5 (by simp) (fun g hg => by simp [Value.ownBlock] at hg; omega); have HO := Lib.hid hown5; clear hown5; have HB5 := Lib.hid hb5; clear hb5 hg5))
          have hqq := HQN.out
          have hown := ownsRow_take HO.out (k := q) (by omega)
          have hr4 : Reads w5 1 (.slice a4 ys.length c4) ys.length (ys.map (.int .u32)) := (owns_reads H4.out).below HB5.out (Nat.le_refl _)
          have hr5 : Reads w5 1 (.slice (some ⟨g5, 0, none⟩) ys.length c5) ys.length (ys.map (.int .u32)) := by
            rw [hyl.out]
            have e : ys.map (Value.int .u32) = (([Value.int .u32 a] ++ xs.map (Value.int .u32)).take (q * 1)) := by rw [HAL.out, List.map_take, Nat.mul_one]; rfl
            rw [e]
            exact owns_reads hown
          have hyl' := hyl.out
          have e1 : n.toNat = ys.length ∨ 1 + xs.length = ys.length := by omega
          first
            | (rw [show n.toNat = ys.length by omega]; refine (same_calls _ _ _ ys ys hr4 hr5 (by unfold maxLen; omega)).mono ?_)
            | (rw [show 1 + xs.length = ys.length by omega]; refine (same_calls _ _ _ ys ys hr4 hr5 (by unfold maxLen; omega)).mono ?_)
          rintro e w6 ⟨rfl, d, rfl⟩
          have hfin := hb4.trans (HB5.out.mono hs4)
          clear e1 hyl' hqq hown hr4 hr5
          go_wp2_with fail
          go_ret
          exact ⟨rfl, hfin.os, hfin.tape, hfin.output, hfin.size, hfin.block⟩
end Go.Proofs.Ytikdejiiklpepaa.ghostFirst
