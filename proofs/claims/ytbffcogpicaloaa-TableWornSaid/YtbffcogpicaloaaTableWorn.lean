/- What this text proves: the walk of TableWorn. No conditions. -/
import Derived.Test.YtbffcogpicaloaaTableLaws
namespace Go.Proofs.Ytbffcogpicaloaa.tableWorn
open Go Go.RowKit
open Go.Proofs Go.Proofs.Ytbffcogpicaloaa

/-- n free segments, of which the first s were erased once more than the others. -/
def rowsW (n q s : Nat) : List Seg := (List.range n).map fun i => ⟨0, 0, if i < s then (q : Int) + 1 else q⟩
theorem rowsW_len (n q s : Nat) : (rowsW n q s).length = n := by simp [rowsW]
theorem rowsW_at {n q s i : Nat} (h : i < n) : (rowsW n q s).getD i .zero = ⟨0, 0, if i < s then (q : Int) + 1 else q⟩ := by
  rw [getD_at (by rw [rowsW_len]; exact h)]
  simp [rowsW]
theorem rowsW_zero (n : Nat) : rowsW n 0 0 = List.replicate n .zero := by
  apply List.ext_getElem
  · simp [rowsW]
  · intro i h1 h2
    simp [rowsW, Seg.zero]
theorem rowsW_full (n q : Nat) : rowsW n q n = rowsW n (q + 1) 0 := by
  apply List.ext_getElem
  · simp [rowsW]
  · intro i h1 h2
    have : i < n := by simpa [rowsW] using h1
    simp [rowsW, this]
theorem rowsW_set (n q s : Nat) : (rowsW n q s).set s ⟨0, 0, (q : Int) + 1⟩ = rowsW n q (s + 1) := by
  apply List.ext_getElem
  · simp [rowsW]
  · intro i h1 h2
    rw [List.getElem_set]
    by_cases e : s = i
    · subst e
      simp [rowsW]
    · simp only [if_neg e, rowsW, List.getElem_map, List.getElem_range]
      have : (i < s) ↔ (i < s + 1) := by omega
      simp only [this]
theorem pickW {n s : Nat} (q : Nat) (h : s < n) : ∀ k, k ≤ n → pickN (rowsW n q s) k = if k = 0 then -1 else if k ≤ s then 0 else (s : Int)
  | 0, _ => rfl
  | k + 1, hk => by
    have ih := pickW q h k (by omega)
    unfold pickN
    rw [ih, rowsW_at (by omega)]
    by_cases h0 : k = 0
    · subst h0
      by_cases hs : 1 ≤ s
      · simp [hs]
      · have : s = 0 := by omega
        subst this
        simp
    · by_cases h1 : k ≤ s
      · have e0 : (rowsW n q s).getD 0 .zero = ⟨0, 0, if 0 < s then (q : Int) + 1 else q⟩ := rowsW_at (by omega)
        simp only [h0, if_false, h1, if_true, Int.toNat_zero, e0]
        by_cases h2 : k < s
        · have : 0 < s := by omega
          simp only [h2, if_true, this]
          rw [if_neg (by omega), if_neg (by omega), if_pos (by omega)]
        · have hks : k = s := by omega
          subst hks
          rw [if_pos (by simp; omega), if_neg (by omega), if_neg (by omega)]
      · have e0 : (rowsW n q s).getD s .zero = ⟨0, 0, if s < s then (q : Int) + 1 else q⟩ := rowsW_at h
        simp only [h0, if_false, h1, Int.toNat_natCast, e0]
        rw [if_neg (by simp; omega), if_neg (by omega), if_neg (by omega)]
def tW (n q s r : Nat) : Tab := ⟨rowsW n q s, (r : Int) + 1, -1⟩
def tO (n q s r : Nat) : Tab := ⟨(rowsW n q s).set s ⟨1, (r : Int) + 1, (q : Int) + 1⟩, (r : Int) + 1 + 1, s⟩
def tS (n q s r : Nat) : Tab := ⟨(rowsW n q s).set s ⟨2, (r : Int) + 1, (q : Int) + 1⟩, (r : Int) + 1 + 1, -1⟩
theorem openW {n q s r : Nat} (h : s < n) (hq : q < 1000) : openT (tW n q s r) = (((s : Int), (r : Int) + 1, 0), tO n q s r) := by
  have hp : pickN (tW n q s r).rows (tW n q s r).rows.length = s := by
    show pickN (rowsW n q s) (rowsW n q s).length = s
    rw [rowsW_len, pickW q h n (Nat.le_refl _), if_neg (by omega), if_neg (by omega)]
  have e0 : (tW n q s r).rows.getD s .zero = ⟨0, 0, (q : Int)⟩ := by
    show (rowsW n q s).getD s .zero = _
    rw [rowsW_at h, if_neg (by omega)]
  simp only [openT, hp, Int.toNat_natCast, e0, opened]
  rw [if_neg (by simp [tW]), if_neg (by omega), if_pos (by omega)]
  rfl
theorem sealW {n q s r : Nat} (h : s < n) : sealT (tO n q s r) = (0, tS n q s r) := by
  have e0 : ((rowsW n q s).set s ⟨1, (r : Int) + 1, (q : Int) + 1⟩).getD s .zero = ⟨1, (r : Int) + 1, (q : Int) + 1⟩ := by
    rw [getD_at (by simpa [rowsW_len] using h)]
    simp
  simp only [sealT, tO, Int.toNat_natCast, e0]
  rw [if_neg (by omega), List.set_set]
  rfl
theorem releaseW {n q s r : Nat} (h : s < n) : releaseT (tS n q s r) s = (0, tW n q (s + 1) (r + 1)) := by
  have e0 : ((rowsW n q s).set s ⟨2, (r : Int) + 1, (q : Int) + 1⟩).getD s .zero = ⟨2, (r : Int) + 1, (q : Int) + 1⟩ := by
    rw [getD_at (by simpa [rowsW_len] using h)]
    simp
  simp only [releaseT, tS, Int.toNat_natCast, e0]
  rw [if_neg (by simp [rowsW_len]; omega), if_neg (by decide), List.set_set, rowsW_set]
  simp [tW]
/-- behind r rounds. -/
def after (n r : Nat) : Tab := tW n (r / n) (r % n) r
theorem after_next {n r : Nat} (h : 0 < n) : tW n (r / n) (r % n + 1) (r + 1) = after n (r + 1) := by
  unfold after
  have hm := Nat.mod_lt r h
  have hd := Nat.div_add_mod r n
  by_cases e : r % n + 1 = n
  · have h1 : r + 1 = n * (r / n + 1) := by rw [Nat.mul_add]; omega
    have h2 : (r + 1) / n = r / n + 1 := by rw [h1, Nat.mul_div_cancel_left _ h]
    have h3 : (r + 1) % n = 0 := by rw [h1, Nat.mul_mod_right]
    rw [h2, h3, e]
    simp only [tW, rowsW_full]
  · have h1 : r + 1 = n * (r / n) + (r % n + 1) := by omega
    have h2 : (r + 1) / n = r / n := by rw [h1, Nat.mul_add_div h, Nat.div_eq_of_lt (a := r % n + 1) (by omega)]; omega
    have h3 : (r + 1) % n = r % n + 1 := by rw [h1, Nat.mul_add_mod, Nat.mod_eq_of_lt (by omega)]
    rw [h2, h3]

structure St (w : World) (B b : Nat) (v : Value) (F : Nat → Prop) (t : Tab) (wr : World) : Prop where
  tab : TabV wr b v t F
  good : t.Good
  below : Below B w wr
  size : B ≤ wr.heap.size
theorem goodW (n r : Nat) (hn : n ≤ 256) (hr : r ≤ 1000) : (after n r).Good :=
  ⟨.inl rfl, by simp [after, tW]; omega, fun s hs => by
    simp only [after, tW, rowsW, List.mem_map, List.mem_range] at hs
    obtain ⟨i, _, rfl⟩ := hs
    have hq : r / n ≤ r := Nat.div_le_self r n
    generalize r / n = q at hq
    refine ⟨by simp, by simp, ?_⟩
    simp only
    split <;> omega, by simp [after, tW, rowsW]; omega⟩
def loW (q s k : Nat) : Int := if k = 0 then 4294967295 else if k ≤ s then (q : Int) + 1 else q
def hiW (q s k : Nat) : Int := if k = 0 then 0 else if s = 0 then (q : Int) else (q : Int) + 1
def allW (q s k : Nat) : Int := ((k * q + min k s : Nat) : Int)
def wkW (q s k : Nat) : Int := if k < s then (q : Int) + 1 else q
theorem loW_succ (q s k : Nat) (hq : q < 1000) : min (loW q s k) (wkW q s k) = loW q s (k + 1) := by
  simp only [loW, wkW]
  repeat' split
  all_goals omega
theorem hiW_succ (q s k : Nat) : max (hiW q s k) (wkW q s k) = hiW q s (k + 1) := by
  simp only [hiW, wkW]
  repeat' split
  all_goals omega
theorem allW_succ (q s k : Nat) : allW q s k + wkW q s k = allW q s (k + 1) := by
  have e : (k + 1) * q = k * q + q := by rw [Nat.add_mul, Nat.one_mul]
  simp only [allW, wkW, e]
  generalize k * q = z
  split <;> omega
theorem allW_le {q s k m r : Nat} (hk : k ≤ m) (hr : m * q + s = r) : 0 ≤ allW q s k ∧ allW q s k ≤ r := by
  have : k * q ≤ m * q := Nat.mul_le_mul_right _ hk
  simp only [allW]
  omega
def Rel2 (w : World) (q s n g : Nat) (lo hi all i : Value) (wr : World) : Prop := ∃ k : Nat, k + g = n ∧ i = .int .i64 k ∧ lo = .int .u32 (loW q s k) ∧ hi = .int .u32 (hiW q s k) ∧ all = .int .u32 (allW q s k) ∧ Upd (fun _ => False) w wr
def Rel1 (w : World) (B b : Nat) (v : Value) (F : Nat → Prop) (n m g : Nat) (i : Value) (wr : World) : Prop := ∃ k : Nat, k + g = m ∧ i = .int .i64 k ∧ St w B b v F (after n k) wr

set_option maxRecDepth 10000 in
set_option maxHeartbeats 4000000 in
theorem walk (n times : Int) (w : World) (hn0 : 0 ≤ n) (hn1 : n ≤ 255) (ht0 : 0 ≤ times) (ht1 : times ≤ 255) :
    Calls Try.prog 3 #[.int .u8 n, .int .u8 times] w fun e w' => e = .returned (.bool true) ∧ Below w.heap.size w w' := by
  obtain ⟨m, hm⟩ : ∃ m : Nat, (m : Int) = n % 100 + 1 := ⟨(n % 100 + 1).toNat, by omega⟩
  have hm0 : 0 < m ∧ m ≤ 100 := by omega
  have HM := Lib.hid hm; clear hm
  obtain ⟨r, rfl⟩ : ∃ r : Nat, times = r := ⟨times.toNat, by omega⟩
  obtain ⟨B, hB⟩ : ∃ B, B = w.heap.size := ⟨_, rfl⟩
  rw [← hB]
  have HB := Lib.hid hB; clear hB
  go_enter Try.func3, Try.ntmps3
  go_wp2_with fail
  refine (shown11_calls w).mono ?_
  rintro e w0 ⟨rfl, hb0⟩
  rw [← HB.out] at hb0
  have hs0 : B ≤ w0.heap.size := by have := hb0.size; rw [HB.out]; exact this
  go_wp2_with fail
  rw [← HM.out]
  refine (new_calls w0 m (by omega)).mono ?_
  rintro e w1 ⟨b, tv, rfl, hT, hu⟩
  have HS : Hid (St w B b tv (fresh w0 w1) (after m 0) w1 ∧ ∀ k, fresh w0 w1 k → B ≤ k) := Lib.hid ⟨⟨by
    have e : after m 0 = newT m := by simp [after, tW, newT, Nat.zero_div, rowsW_zero]
    rw [e]; exact hT, goodW m 0 (by omega) (by omega), hb0.trans (hu.below hs0 (fun _ f => f.elim)), Nat.le_trans hs0 hu.size⟩, fun k hk => Nat.le_trans hs0 hk.1⟩
  generalize fresh w0 w1 = F at HS
  clear hT hu hb0 hs0
  have HM0 := Lib.hid hm0; clear hm0
  go_wp2_with fail
  go_loopg [35] r (fun g i wr => Rel1 w B b tv F m r g i wr)
  case atStart => exact ⟨0, by simp, rfl, HS.out.1⟩
  case round =>
    obtain ⟨k, hk, rfl, hst⟩ := hrel
    have HC := Lib.hid hst; clear hst
    have HF := Lib.hid HS.out.2; clear HS
    by_cases hlt : k < r
    · have hs : k % m < m := Nat.mod_lt _ HM0.out.1
      have hq : k / m < 1000 := by have := Nat.div_le_self k m; omega
      have HE := Lib.hid (And.intro (openW (r := k) hs hq) (And.intro (sealW (q := k / m) (r := k) hs) ((releaseW (q := k / m) (r := k) hs).trans (by rw [after_next HM0.out.1]))))
      have hnx : (after m k).next + 1 < 9223372036854775808 := by simp [after, tW]; omega
      have g1 := HC.out.good.open hnx
      have GO : Hid ((tO m (k / m) (k % m) k).Good) := Lib.hid (by rw [show after m k = tW m (k / m) (k % m) k from rfl, HE.out.1] at g1; exact g1.1)
      have GS : Hid ((tS m (k / m) (k % m) k).Good) := Lib.hid (by have := GO.out.seal; rw [HE.out.2.1] at this; exact this.1)
      clear g1 hnx
      go_wp2_with fail
      refine (open_at HC.out.tab HC.out.good HE.out.1).mono ?_
      rintro e w2 ⟨rfl, hT2, hu2⟩
      have hb2 := below_new HC.out.below hu2 HC.out.size HF.out; have hs2 := Nat.le_trans HC.out.size hu2.size; clear hu2
      have H2 := Lib.hid (And.intro hT2 (And.intro hb2 hs2)); clear hT2 hb2 hs2
      go_wp2_with (first
        | (go_at_call 12; refine (seal_at H2.out.1 GO.out HE.out.2.1).mono ?_; rintro e w3 ⟨rfl, hT3, hu3⟩; have hb3 := below_new H2.out.2.1 hu3 H2.out.2.2 HF.out; have hs3 := Nat.le_trans H2.out.2.2 hu3.size; clear hu3; have H3 := Lib.hid (And.intro hT3 (And.intro hb3 hs3)); clear hT3 hb3 hs3)
        | (go_at_call 13; refine (release_at H3.out.1 HE.out.2.2).mono ?_; rintro e w4 ⟨rfl, hT4, hu4⟩; have hb4 := below_new H3.out.2.1 hu4 H3.out.2.2 HF.out; have hs4 := Nat.le_trans H3.out.2.2 hu4.size; clear hu4; have H4 := Lib.hid (And.intro hT4 (And.intro hb4 hs4)); clear hT4 hb4 hs4))
      go_roundg (r - (k + 1))
      case measure => omega
      case rel => exact ⟨k + 1, by omega, by go_num, ⟨H4.out.1, goodW m (k + 1) (by have := HM0.out; omega) (by omega), H4.out.2.1, H4.out.2.2⟩⟩
    · obtain rfl : k = r := by omega
      obtain ⟨q, hq⟩ : ∃ q, q = k / m := ⟨_, rfl⟩
      obtain ⟨s, hs⟩ : ∃ s, s = k % m := ⟨_, rfl⟩
      have hqs : m * q + s = k ∧ s < m ∧ q < 1000 := by rw [hq, hs]; exact ⟨Nat.div_add_mod k m, Nat.mod_lt _ HM0.out.1, by have := Nat.div_le_self k m; omega⟩
      have hrows : (after m k).rows = rowsW m q s := by rw [hq, hs]; rfl
      have HQ := Lib.hid (And.intro hqs hrows); clear hqs hrows hq hs
      go_wp2_with fail
      refine (rows_calls _ b tv _ F HC.out.tab HC.out.good.len).mono ?_
      rintro e w2 ⟨v2, rfl, ho2, hb2⟩
      rw [HQ.out.2, rowsW_len] at ho2
      obtain ⟨g2, c2, hv2, _, _, hg2⟩ := owns_pos ho2 HM0.out.1
      subst hv2
      have H2 : Hid (TabV w2 b tv (after m k) F ∧ Below B w w2 ∧ B ≤ w2.heap.size) := Lib.hid ⟨HC.out.tab.upd (below_upd hb2) (fun i hi => Nat.not_le.2 (HC.out.tab.lt i hi)), HC.out.below.trans (hb2.mono HC.out.size), Nat.le_trans HC.out.size hb2.size⟩
      have HO2 := Lib.hid ho2; clear ho2 hb2
      have HG2 := Lib.hid hg2; clear hg2
      go_wp2_with fail
      go_loopg [12, 13, 14, 60] m (fun g lo hi all i wr => Rel2 w2 q s m g lo hi all i wr)
      case atStart => exact ⟨0, by simp, rfl, rfl, rfl, by simp [allW], Upd.refl _ _⟩
      case round =>
        obtain ⟨z, hz, rfl, rfl, rfl, rfl, hu⟩ := hrel
        have HU := Lib.hid hu; clear hu
        by_cases hzlt : z < m
        · have hro := ownsRow_upd HO2.out HU.out (fun _ _ f => f)
          have hzl : z < (rowsW m q s).length := by rw [rowsW_len]; exact hzlt
          have eW : (rowsW m q s).getD z .zero = ⟨0, 0, wkW q s z⟩ := rowsW_at hzlt
          have d0 := owns_cell hro (Seg.at_ (j := 0) hzl (by omega) |>.trans (by rw [eW]; rfl))
          have d1 := owns_cell hro (Seg.at_ (j := 1) hzl (by omega) |>.trans (by rw [eW]; rfl))
          have d2 := owns_cell hro (Seg.at_ (j := 2) hzl (by omega) |>.trans (by rw [eW]; rfl))
          clear hro eW hzl
          simp only [Nat.add_zero] at d0
          obtain ⟨wk, hwk⟩ : ∃ wk, wk = wkW q s z := ⟨_, rfl⟩
          obtain ⟨lo, hlo⟩ : ∃ lo, lo = loW q s z := ⟨_, rfl⟩
          obtain ⟨hi, hhi⟩ : ∃ hi, hi = hiW q s z := ⟨_, rfl⟩
          obtain ⟨al, hal⟩ : ∃ al, al = allW q s z := ⟨_, rfl⟩
          rw [← hlo, ← hhi, ← hal]
          rw [← hwk] at d2
          have hb1 : 0 ≤ al ∧ al + wk ≤ 255 ∧ 0 ≤ wk := by
            have h1 := allW_le (q := q) (s := s) (k := z) (Nat.le_of_lt hzlt) HQ.out.1.1
            have h2 := allW_le (q := q) (s := s) (k := z + 1) hzlt HQ.out.1.1
            rw [← allW_succ] at h2
            rw [hal, hwk]
            refine ⟨h1.1, by omega, ?_⟩
            simp only [wkW]; split <;> omega
          have HW := Lib.hid (And.intro hwk (And.intro hlo (And.intro hhi hal))); clear hwk hlo hhi hal
          have hzX := Lib.hid hzlt
          have hzb : z < 100 := by have := HM0.out; omega
          go_wp2_with (first
            | ((with_reducible change wpList _ _ _ (⟨_, Op.indexAddr _ _ _, _, _, _, _⟩ :: _) _ _); refine wpl_index_own rfl _ _ _ rfl 36 3 Try.underlying33 sizeSeg _ _ _ rfl z rfl hzX.out ?_))
          go_region
          all_goals go_wp2_with fail
          all_goals
            go_roundg (m - (z + 1))
            case measure => have := hzX.out; omega
            case rel =>
              refine ⟨z + 1, by have := hzX.out; omega, by go_num, ?_, ?_, ?_, ?_⟩
              · congr 1
                rw [← loW_succ q s z HQ.out.1.2.2, ← HW.out.1, ← HW.out.2.1]
                omega
              · congr 1
                rw [← hiW_succ q s z, ← HW.out.1, ← HW.out.2.2.1]
                omega
              · congr 1
                rw [← allW_succ q s z, ← HW.out.1, ← HW.out.2.2.2]
              · exact (HU.out.alloc _).drew
        · obtain rfl : z = m := by omega
          have hbw : Hid (TabV wr b tv (after z k) F ∧ Below B w wr ∧ B ≤ wr.heap.size) := Lib.hid ⟨H2.out.1.upd HU.out (fun _ _ f => f), H2.out.2.1.trans (HU.out.below H2.out.2.2 (fun _ f => f.elim)), Nat.le_trans H2.out.2.2 HU.out.size⟩
          have hl1 : loW q s z = q := by have := HQ.out.1.2.1; have := HM0.out; simp only [loW]; rw [if_neg (by omega), if_neg (by omega)]
          have hl2 : hiW q s z = if s = 0 then (q : Int) else (q : Int) + 1 := by have := HM0.out; simp only [hiW]; rw [if_neg (by omega)]
          have hl3 : allW q s z = k := by
            have h1 := HQ.out.1
            simp only [allW]
            rw [Nat.min_eq_right (by omega), h1.1]
          rw [hl1, hl2, hl3]
          obtain ⟨hi, hhi⟩ : ∃ hi : Int, hi = if s = 0 then (q : Int) else (q : Int) + 1 := ⟨_, rfl⟩
          rw [← hhi]
          have hh : 0 ≤ hi - q ∧ hi - q ≤ 1 := by rw [hhi]; split <;> omega
          have hq3 := HQ.out.1.2.2
          have HHI := Lib.hid hhi
          clear hl1 hl2 hl3 hhi
          have hrl : (after z k).rows.length = z := by rw [HQ.out.2, rowsW_len]
          go_wp2_with (first
            | (go_at_call 14; refine (rows_calls _ b tv _ F hbw.out.1 HC.out.good.len).mono ?_; rintro e w4 ⟨v4, rfl, ho4, hb4⟩; rw [hrl] at ho4; obtain ⟨a4, c4, hv4⟩ := (owns_reads ho4).len; subst hv4; have HB4 := Lib.hid hb4; clear ho4 hb4))
          go_ret
          exact ⟨rfl, hbw.out.2.1.trans (HB4.out.mono hbw.out.2.2)⟩
end Go.Proofs.Ytbffcogpicaloaa.tableWorn
