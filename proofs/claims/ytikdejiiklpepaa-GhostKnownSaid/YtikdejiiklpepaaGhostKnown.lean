/- What this text proves: the walk of GhostKnown. No conditions. -/
import Derived.Test.YtikdejiiklpepaaGhostLaws
namespace Go.Proofs.Ytikdejiiklpepaa.ghostKnown
open Go Go.RowKit
open Go.Proofs Go.Proofs.Ytikdejiiklpepaa

/-- an address stands behind so many others at most; or so many are too many. -/
def Behind (n : Int) (a : Int) (xs : List Int) (u : Nat) : Prop := n ≤ u ∨ ∃ pre post, xs = pre ++ a :: post ∧ pre.length ≤ u
theorem Behind.ask {n a b : Int} {xs : List Int} {u : Nat} (h : Behind n a xs u) (hn : 0 ≤ n) (hb : b ≠ a) : Behind n a (askList n xs b) (if b ∈ xs then u else u + 1) := by
  unfold askList
  rcases h with h | ⟨pre, post, rfl, hl⟩
  · left; split <;> omega
  · by_cases hm : b ∈ pre ++ a :: post
    · rw [if_pos hm, if_pos hm]
      right
      by_cases hp : b ∈ pre
      · exact ⟨pre.erase b, post, by rw [List.erase_append_left _ hp], by have := List.length_erase_of_mem hp; omega⟩
      · refine ⟨pre, post.erase b, ?_, hl⟩
        rw [List.erase_append_right _ hp, List.erase_cons_tail (by simpa using fun e => hb e.symm)]
    · rw [if_neg hm, if_neg hm]
      by_cases hc : pre.length + 1 < n
      · right
        refine ⟨b :: pre, post.take (n.toNat - (pre.length + 2)), ?_, by simp; omega⟩
        obtain ⟨q, hq⟩ : ∃ q, n.toNat = (pre.length + 2) + q := ⟨n.toNat - (pre.length + 2), by omega⟩
        rw [hq, show pre.length + 2 + q = (pre.length + (q + 1)) + 1 by omega, List.take_succ_cons, List.take_append, List.take_of_length_le (by omega), Nat.add_sub_cancel_left, List.take_succ_cons, show pre.length + (q + 1) + 1 - (pre.length + 2) = q by omega]
        rfl
      · left; omega
theorem Behind.mem {n a : Int} {xs : List Int} {u : Nat} (h : Behind n a xs u) (hu : (u : Int) < n) : a ∈ xs := by
  rcases h with h | ⟨pre, post, rfl, _⟩
  · omega
  · simp
/-- behind some rounds over the others. -/
def KnownRel (w : World) (B l : Nat) (n a : Int) (others : List Int) (m : Nat) (un i : Value) (wr : World) : Prop :=
  ∃ (k u : Nat) (xs : List Int), k + m = others.length ∧ i = .int .i64 k ∧ un = .int .i64 u ∧ u ≤ k ∧ GList wr l n xs (from_ B wr) ∧ B ≤ wr.heap.size ∧ Below B w wr ∧ Behind n a xs u

set_option maxHeartbeats 4000000 in
theorem walk (room a : Int) (acts : List (Bool × Int)) (v : Value) (others : List Int) (vo : Value) (w : World) (hr0 : 0 ≤ room) (hr1 : room ≤ 255) (ha : (Lit.int .u32 a).wf = true)
    (hv : Reads w 2 v acts.length (acts.flatMap actCells)) (hl : acts.length ≤ maxLen) (hw : ∀ p ∈ acts, (Lit.int .u32 p.2).wf = true)
    (hvo : Reads w 1 vo others.length (others.map (.int .u32))) (hlo : others.length ≤ maxLen) (hwo : ∀ x ∈ others, (Lit.int .u32 x).wf = true) :
    Calls Try.prog 5 #[.int .u8 room, v, .int .u32 a, vo] w fun e w' => e = .returned (.bool true) ∧ Below w.heap.size w w' := by
  obtain ⟨B, hB⟩ : ∃ B, B = w.heap.size := ⟨_, rfl⟩
  rw [← hB]
  have HV := Lib.hid hv; clear hv
  have HW := Lib.hid hw; clear hw
  have HVO := Lib.hid hvo; clear hvo
  have HWO := Lib.hid hwo; clear hwo
  obtain ⟨oa, oc, hoa⟩ := HVO.out.len
  subst hoa
  unfold maxLen at hlo
  obtain ⟨n, hn⟩ : ∃ n, n = room % 30 + 1 := ⟨_, rfl⟩
  have hn0 : 1 ≤ n := by omega
  have hn1 : n ≤ 30 := by omega
  obtain ⟨va, vc, hva⟩ := HV.out.len
  subst hva
  have HN := Lib.hid hn; clear hn
  have HB := Lib.hid hB; clear hB
  go_enter Try.func5, Try.ntmps5
  go_wp2_with fail
  refine (shown15_calls w).mono ?_
  rintro e w0 ⟨rfl, hb0⟩
  rw [← HB.out] at hb0
  go_wp2_with fail
  rw [← HN.out]
  have hs0 : B ≤ w0.heap.size := by have := hb0.size; rw [HB.out]; exact this
  refine (new_from B w0 n (by omega) (by omega) hs0).mono ?_
  rintro e w1 ⟨l, rfl, hg1, hb⟩
  have hb1 := hb0.trans hb; have hs1 := Nat.le_trans hs0 hb.size; clear hb hb0 hs0
  go_wp2_with fail
  have hv1 : Reads w1 2 (.slice va acts.length vc) acts.length (acts.flatMap actCells) := HV.out.below hb1 (by rw [HB.out]; exact Nat.le_refl _)
  refine (few_calls w1 _ _ _ hv1 hl).mono ?_
  rintro e w1 ⟨v1, rfl, hsl, rfl⟩
  have hv2 := hsl.1 _ _ HV.out
  clear hsl hv1
  simp only [Nat.zero_mul, List.drop_zero, Nat.sub_zero] at hv2
  rw [flatMap_take actCells 2 (fun _ => rfl)] at hv2
  obtain ⟨acts', hacts⟩ : ∃ acts', acts' = acts.take (min acts.length 300) := ⟨_, rfl⟩
  rw [← hacts] at hv2
  have hlen : acts'.length = min acts.length 300 := by rw [hacts]; simp
  rw [← hlen] at hv2
  have hw' : Hid (∀ p ∈ acts', (Lit.int .u32 p.2).wf = true) := Lib.hid (fun p hp => HW.out p (List.mem_of_mem_take (by rw [← hacts]; exact hp)))
  have hle : acts'.length ≤ 300 := by omega
  obtain ⟨va1, vc1, hva1⟩ := hv2.len
  subst hva1
  have HV2 := Lib.hid hv2
  have HA : Hid (Acted w B l n acts' 0 w1) := Lib.hid ⟨hg1, hs1, hb1⟩
  clear hv2 hacts hlen HV HW hg1 hs1 hb1
  go_wp2_with fail
  go_loopg [36] acts'.length (fun m i wr => ActRel w B l n acts' m i wr)
  case atStart => exact ⟨0, by simp, rfl, HA.out⟩
  case round =>
    obtain ⟨k, hk, rfl, hacted⟩ := hrel
    have HC := Lib.hid hacted; clear hacted
    by_cases hlt : k < acts'.length
    · obtain ⟨g, b, hgb⟩ : ∃ g b, acts'[k] = (g, b) := ⟨_, _, rfl⟩
      have HGB := Lib.hid hgb; clear hgb
      have hwb : Hid ((Lit.int .u32 b).wf = true) := Lib.hid (by have := hw'.out acts'[k] (List.getElem_mem _); rw [HGB.out] at this; exact this)
      have HX := Lib.hid hlt
      have HR : Hid (Reads wr 2 (.slice va1 acts'.length vc1) acts'.length (acts'.flatMap actCells)) := Lib.hid (HV2.out.below HC.out.below (by rw [HB.out]; exact Nat.le_refl _))
      have HK := Lib.hid (acts_cells hlt HGB.out)
      cases g
      · have hc := Lib.hid (fun o => HC.out.ask HX.out HGB.out hwb.out o)
        go_wp2_with (first
          | ((with_reducible change wpList _ _ _ (⟨_, Op.indexAddr _ _ _, _, _, _, _⟩ :: _) _ _); refine wpl_index rfl _ _ _ rfl 35 2 Try.underlying22 sizeAct (by decide) _ _ _ HR.out rfl k rfl HX.out ?_; intro bk off _ hcell; have c0 := hcell 0 _ HK.out.1; have c1 := hcell 1 _ HK.out.2; clear hcell; simp only [Nat.add_zero] at c0)
          | (go_at_call 13; refine (hc.out _).mono ?_; rintro e w2 ⟨⟨r, rfl⟩, hacted, _⟩))
        go_roundg (gk - 1)
        case measure => omega
        case rel => exact ⟨k + 1, by omega, by go_num, hacted⟩
      · have hc := Lib.hid (fun o => HC.out.drop HX.out HGB.out hwb.out o)
        go_wp2_with (first
          | ((with_reducible change wpList _ _ _ (⟨_, Op.indexAddr _ _ _, _, _, _, _⟩ :: _) _ _); refine wpl_index rfl _ _ _ rfl 35 2 Try.underlying22 sizeAct (by decide) _ _ _ HR.out rfl k rfl HX.out ?_; intro bk off _ hcell; have c0 := hcell 0 _ HK.out.1; have c1 := hcell 1 _ HK.out.2; clear hcell; simp only [Nat.add_zero] at c0)
          | (go_at_call 11; refine (hc.out _).mono ?_; rintro e w2 ⟨⟨r, rfl⟩, hacted, _⟩))
        go_roundg (gk - 1)
        case measure => omega
        case rel => exact ⟨k + 1, by omega, by go_num, hacted⟩
    · have : ¬ ((k : Int) < (acts'.length : Int)) := by omega
      obtain ⟨hg, hs, hb⟩ := HC.out
      generalize play n (acts'.take k) = xs at hg
      clear HC hw' HV2 HA
      go_wp2_with fail
      refine (drop_from B wr l n xs a ha hg hs).mono ?_
      rintro e w2 ⟨rfl, hg2, hb'⟩
      have hb2 := hb.trans hb'; have hs2 := Nat.le_trans hs hb'.size
      have hnd := hg.once
      have hna : a ∉ xs.erase a := fun h => (hnd.mem_erase_iff.1 h).1 rfl
      have hdec : decide (a ∈ xs.erase a) = false := by simpa using hna
      generalize xs.erase a = ys at hg2 hna hdec
      go_wp2_with fail
      refine (ask_from B w2 l n ys a ha hg2 hs2).mono ?_
      rintro e w3 ⟨rfl, hg3, hb'⟩
      have hb3 := hb2.trans hb'; have hs3 := Nat.le_trans hs2 hb'.size
      have hal : askList n ys a = a :: ys.take (n.toNat - 1) := by
        rw [askList, if_neg hna, show n.toNat = (n.toNat - 1) + 1 by omega, List.take_succ_cons, Nat.add_sub_cancel]
      rw [hal] at hg3
      have hbeh : Behind n a (a :: ys.take (n.toNat - 1)) 0 := .inr ⟨[], _, rfl, Nat.le_refl _⟩
      have HK : Hid (GList w3 l n (a :: ys.take (n.toNat - 1)) (from_ B w3) ∧ B ≤ w3.heap.size ∧ Below B w w3 ∧ Behind n a (a :: ys.take (n.toNat - 1)) 0) := Lib.hid ⟨hg3, hs3, hb3, hbeh⟩
      clear hg hg2 hg3 hb hb' hb2 hb3 hs hs2 hs3 hnd hna hal hbeh
      go_wp2_with fail
      go_loopg [15, 59] others.length (fun m un i wr => KnownRel w B l n a others m un i wr)
      case atStart => exact ⟨0, 0, _, by simp, rfl, rfl, Nat.le_refl _, HK.out.1, HK.out.2.1, HK.out.2.2.1, HK.out.2.2.2⟩
      case round =>
        clear HK
        obtain ⟨q, u, xs, hq, rfl, rfl, huq, hg, hs, hb, hbeh⟩ := hrel
        by_cases hqx : q < others.length
        · have HQ := Lib.hid hqx
          obtain ⟨x, hx⟩ := elem_u32 hqx
          have hxw := HWO.out x hx.1
          obtain ⟨ob, oo, ⟨rfl, _⟩, hxc⟩ := (HVO.out.below hb (by rw [HB.out]; exact Nat.le_refl _)).elem q hqx hx.2
          clear hx
          by_cases hq3 : (q : Int) < 300
          · have hd3 : decide ((q : Int) < 300) = true := by simpa using hq3
            by_cases hxa : x = a
            · have hb1 : (x != a) = false := by simp [hxa]
              have HH : Hid (KnownRel w B l n a others (others.length - (q + 1)) (.int .i64 u) (.int .i64 ((q + 1 : Nat) : Int)) wr) := Lib.hid ⟨q + 1, u, xs, by omega, rfl, rfl, by omega, hg, hs, hb, hbeh⟩
              clear hg hs hb hbeh hxa hxw
              go_wp2_with fail
              go_roundg (others.length - (q + 1))
              case measure => have := HQ.out; omega
              case rel => exact HH.out
            · have hb1 : (x != a) = true := by simpa using hxa
              have hbn := hbeh.ask (by omega) hxa
              have hask := Lib.hid (ask_from B wr l n xs x hxw hg hs)
              have HS := Lib.hid hs
              have HBL := Lib.hid hb
              clear hg hs hb hbeh hxa
              by_cases hm : x ∈ xs
              · rw [if_pos hm] at hbn
                have hdec : decide (x ∈ xs) = true := by simpa using hm
                have HBN := Lib.hid hbn; clear hbn hm
                go_wp2_with (first | (go_at_call 13; refine hask.out.mono ?_; rintro e w5 ⟨rfl, hg5, hb5⟩))
                go_roundg (others.length - (q + 1))
                case measure => have := HQ.out; omega
                case rel => exact ⟨q + 1, u, _, by have := HQ.out; omega, by go_num, rfl, by omega, hg5, Nat.le_trans HS.out hb5.size, HBL.out.trans hb5, HBN.out⟩
              · rw [if_neg hm] at hbn
                have hdec : decide (x ∈ xs) = false := by simpa using hm
                have HBN := Lib.hid hbn; clear hbn hm
                go_wp2_with (first | (go_at_call 13; refine hask.out.mono ?_; rintro e w5 ⟨rfl, hg5, hb5⟩))
                go_roundg (others.length - (q + 1))
                case measure => have := HQ.out; omega
                case rel => exact ⟨q + 1, u + 1, _, by have := HQ.out; omega, by go_num, by go_num, by omega, hg5, Nat.le_trans HS.out hb5.size, HBL.out.trans hb5, HBN.out⟩
          · have hd3 : decide ((q : Int) < 300) = false := by simpa using hq3
            have HH : Hid (KnownRel w B l n a others (others.length - (q + 1)) (.int .i64 u) (.int .i64 ((q + 1 : Nat) : Int)) wr) := Lib.hid ⟨q + 1, u, xs, by omega, rfl, rfl, by omega, hg, hs, hb, hbeh⟩
            clear hg hs hb hbeh hxw
            go_wp2_with fail
            go_roundg (others.length - (q + 1))
            case measure => have := HQ.out; omega
            case rel => exact HH.out
        · have : ¬ ((q : Int) < (others.length : Int)) := by omega
          by_cases hun : n ≤ (u : Int)
          · have hd4 : decide (n ≤ (u : Int)) = true := by simpa using hun
            have HBL := Lib.hid hb
            clear hg hs hb hbeh
            go_wp2_with fail
            go_ret
            exact ⟨rfl, HBL.out⟩
          · have hd4 : decide (n ≤ (u : Int)) = false := by simpa using hun
            have hm := hbeh.mem (by omega)
            have hask := ask_from B wr l n xs a ha hg hs
            rw [show decide (a ∈ xs) = true by simpa using hm] at hask
            have HASK := Lib.hid hask
            have HBL := Lib.hid hb
            clear hg hs hb hbeh hask hm
            go_wp2_with (first | (go_at_call 13; refine HASK.out.mono ?_; rintro e w5 ⟨rfl, hg5, hb5⟩))
            go_ret
            exact ⟨rfl, HBL.out.trans hb5⟩
end Go.Proofs.Ytikdejiiklpepaa.ghostKnown
