/- What this text proves: contracts of package pumicelaw11's shown, few, does, and how its arguments are read. Conditions: each theorem's own. -/
import Derived.Test.YtbffcogpicaloaaTable
import Derived.Deep.Slices
namespace Go.Proofs.Ytbffcogpicaloaa
open Go Go.ChangeShapes Go.WideShapes Go.ChangeAt Go.RowKit
open Go.Proofs

theorem open_at {w : World} {b : Nat} {v : Value} {t : Tab} {F : Nat → Prop} (h : TabV w b v t F) (hg : t.Good) {i n c : Int} {t' : Tab} (he : openT t = ((i, n, c), t')) :
    Calls Try.prog 11 #[.pointer (some ⟨b, 0, none⟩)] w fun e w' => e = .returned (.tuple #[.int .i64 i, .int .u64 n, .int .i64 c]) ∧ TabV w' b v t' F ∧ Upd F w w' := by
  have := open_calls w b v t F h hg
  rwa [he] at this
theorem seal_at {w : World} {b : Nat} {v : Value} {t : Tab} {F : Nat → Prop} (h : TabV w b v t F) (hg : t.Good) {c : Int} {t' : Tab} (he : sealT t = (c, t')) :
    Calls Try.prog 12 #[.pointer (some ⟨b, 0, none⟩)] w fun e w' => e = .returned (.int .i64 c) ∧ TabV w' b v t' F ∧ Upd F w w' := by
  have := seal_calls w b v t F h hg
  rwa [he] at this
theorem release_at {w : World} {b : Nat} {v : Value} {t : Tab} {F : Nat → Prop} (h : TabV w b v t F) {s c : Int} {t' : Tab} (he : releaseT t s = (c, t')) :
    Calls Try.prog 13 #[.pointer (some ⟨b, 0, none⟩), .int .i64 s] w fun e w' => e = .returned (.int .i64 c) ∧ TabV w' b v t' F ∧ Upd F w w' := by
  have := release_calls w b v t F h s
  rwa [he] at this

/-! ### plain laws -/
theorem openT_cases (t : Tab) : (∃ c, c ≠ 0 ∧ openT t = ((0, 0, c), t)) ∨
    ∃ j : Nat, j < t.rows.length ∧ (t.rows.getD j .zero).kind = 0 ∧ t.opn < 0 ∧ pickN t.rows t.rows.length = j ∧ openT t = (((j : Int), t.next, 0), ⟨t.rows.set j (opened t (t.rows.getD j .zero)), t.next + 1, j⟩) := by
  by_cases h1 : 0 ≤ t.opn
  · exact .inl ⟨3, by decide, by simp [openT, h1]⟩
  · by_cases h2 : pickN t.rows t.rows.length < 0
    · exact .inl ⟨5, by decide, by simp only [openT]; rw [if_neg h1, if_pos h2]⟩
    · rcases pickN_at t.rows t.rows.length with h3 | ⟨h3, h4, h5⟩
      · omega
      · obtain ⟨j, hj⟩ : ∃ j : Nat, pickN t.rows t.rows.length = j := ⟨_, (Int.toNat_of_nonneg h3).symm⟩
        refine .inr ⟨j, by omega, ?_, by omega, hj, ?_⟩
        · rw [hj, Int.toNat_natCast] at h5; exact h5
        · simp only [openT, hj, Int.toNat_natCast]
          rw [if_neg h1, if_neg (by omega)]
theorem Tab.Good.open {t : Tab} (h : t.Good) (hn : t.next + 1 < 9223372036854775808) : (openT t).2.Good ∧ (openT t).2.next ≤ t.next + 1 ∧ (openT t).2.rows.length = t.rows.length := by
  rcases openT_cases t with ⟨c, _, e⟩ | ⟨j, hj, hk, _, _, e⟩
  · rw [e]; exact ⟨h, by show t.next ≤ t.next + 1; omega, rfl⟩
  · rw [e]
    have hn0 := h.next
    refine ⟨⟨.inr ⟨by simp, by simpa using hj⟩, ⟨by simp; omega, by simpa using hn⟩, fun s hs => ?_, by simpa using h.len⟩, by simp, by simp⟩
    rcases mem_set_cases hs with rfl | hs
    · have hm := h.seg _ (getD_mem hj)
      simp only [opened]
      refine ⟨by omega, by omega, ?_⟩
      split <;> omega
    · exact h.seg s hs
theorem Tab.Good.seal {t : Tab} (h : t.Good) : (sealT t).2.Good ∧ (sealT t).2.next = t.next ∧ (sealT t).2.rows.length = t.rows.length := by
  unfold sealT
  split
  · exact ⟨h, rfl, rfl⟩
  · rename_i ho
    have hj : t.opn.toNat < t.rows.length := by have := h.opn; omega
    refine ⟨⟨.inl rfl, h.next, fun s hs => ?_, by simpa using h.len⟩, rfl, by simp⟩
    rcases mem_set_cases hs with rfl | hs
    · have hm := h.seg _ (getD_mem hj)
      exact ⟨by simp, hm.2⟩
    · exact h.seg s hs
theorem Tab.Good.release {t : Tab} (h : t.Good) (s : Int) : (releaseT t s).2.Good ∧ (releaseT t s).2.next = t.next ∧ (releaseT t s).2.rows.length = t.rows.length := by
  unfold releaseT
  split
  · exact ⟨h, rfl, rfl⟩
  · split
    · exact ⟨h, rfl, rfl⟩
    · rename_i h1 _
      have hj : s.toNat < t.rows.length := by omega
      refine ⟨⟨by simpa using h.opn, h.next, fun x hx => ?_, by simpa using h.len⟩, rfl, by simp⟩
      rcases mem_set_cases hx with rfl | hx
      · have hm := h.seg _ (getD_mem hj)
        exact ⟨by simp, by simp, hm.2.2⟩
      · exact h.seg x hx
theorem newT_good (n : Nat) (hn : n ≤ 256) : (newT n).Good :=
  ⟨.inl rfl, by simp [newT], fun s hs => by
    obtain ⟨_, rfl⟩ := List.mem_replicate.1 hs
    exact ⟨by decide, by decide, by decide⟩, by simp [newT]; omega⟩
/-- an act. -/
def doT (t : Tab) (a : Int × Int) : (Int × Int × Int) × Tab :=
  if a.1 % 3 = 0 then openT t else if a.1 % 3 = 1 then ((0, 0, (sealT t).1), (sealT t).2) else ((0, 0, (releaseT t a.2).1), (releaseT t a.2).2)
theorem Tab.Good.act {t : Tab} (h : t.Good) (hn : t.next + 1 < 9223372036854775808) (a : Int × Int) : (doT t a).2.Good ∧ (doT t a).2.next ≤ t.next + 1 ∧ (doT t a).2.rows.length = t.rows.length := by
  unfold doT
  split
  · exact h.open hn
  · split
    · have := h.seal; exact ⟨this.1, by simp only [this.2.1]; omega, this.2.2⟩
    · have := h.release a.2; exact ⟨this.1, by simp only [this.2.1]; omega, this.2.2⟩

/-! ### the walks -/
theorem below_new {B : Nat} {F : Nat → Prop} {w a b : World} (h : Below B w a) (hu : Upd F a b) (hB : B ≤ a.heap.size) (hF : ∀ k, F k → B ≤ k) : Below B w b := h.trans (hu.below hB hF)

def t2a : Tab := ⟨[⟨1, 1, 1⟩, ⟨0, 0, 0⟩], 2, 0⟩
def t2b : Tab := ⟨[⟨2, 1, 1⟩, ⟨0, 0, 0⟩], 2, -1⟩
def t2c : Tab := ⟨[⟨2, 1, 1⟩, ⟨1, 2, 1⟩], 3, 1⟩
def t2d : Tab := ⟨[⟨0, 0, 1⟩, ⟨1, 2, 1⟩], 3, 1⟩
def t2e : Tab := ⟨[⟨0, 0, 1⟩, ⟨2, 2, 1⟩], 3, -1⟩
def t2f : Tab := ⟨[⟨1, 3, 2⟩, ⟨2, 2, 1⟩], 4, 0⟩
theorem good_of {t : Tab} {x : Tab} (h : x.Good) (e : x = t) : t.Good := e ▸ h

set_option maxHeartbeats 1000000 in
theorem shown11_calls (w : World) : Calls Try.prog 9 #[] w fun e w' => e = .returned (.bool true) ∧ Below w.heap.size w w' := by
  have G0 := newT_good 2 (by omega)
  have E1 : openT (newT 2) = ((0, 1, 0), t2a) := rfl
  have G1 : t2a.Good := good_of (G0.open (by decide)).1 (by rw [E1])
  have E2 : openT t2a = ((0, 0, 3), t2a) := rfl
  have E3 : sealT t2a = (0, t2b) := rfl
  have G3 : t2b.Good := good_of G1.seal.1 (by rw [E3])
  have E4 : openT t2b = ((1, 2, 0), t2c) := rfl
  have G4 : t2c.Good := good_of (G3.open (by decide)).1 (by rw [E4])
  have E5 : releaseT t2c 0 = (0, t2d) := rfl
  have G5 : t2d.Good := good_of (G4.release 0).1 (by rw [E5])
  have E6 : sealT t2d = (0, t2e) := rfl
  have G6 : t2e.Good := good_of G5.seal.1 (by rw [E6])
  have E7 : openT t2e = ((0, 3, 0), t2f) := rfl
  have HE := Lib.hid (And.intro E1 (And.intro E2 (And.intro E3 (And.intro E4 (And.intro E5 (And.intro E6 E7))))))
  clear E1 E2 E3 E4 E5 E6 E7
  obtain ⟨B, hB⟩ : ∃ B, B = w.heap.size := ⟨_, rfl⟩
  rw [← hB]
  have HB := Lib.hid hB; clear hB
  go_enter Try.func9, Try.ntmps9
  go_wp2_with fail
  refine (new_calls w 2 (by omega)).mono ?_
  rintro e w1 ⟨b, v, rfl, hT, hu⟩
  have hb1 : Below B w w1 := by rw [HB.out]; exact hu.below (Nat.le_refl _) (fun _ f => f.elim)
  have hs1 : B ≤ w1.heap.size := by rw [HB.out]; exact hu.size
  have HF : Hid (∀ k, fresh w w1 k → B ≤ k) := Lib.hid (fun k hk => by rw [HB.out]; exact hk.1)
  generalize fresh w w1 = F at *
  clear hu
  go_wp2_with fail
  refine (open_at hT G0 HE.out.1).mono ?_
  rintro e w2 ⟨rfl, hT2, hu2⟩
  have hb2 := below_new hb1 hu2 hs1 HF.out; have hs2 := Nat.le_trans hs1 hu2.size; clear hu2 hb1 hs1 hT
  go_wp2_with fail
  refine (open_at hT2 G1 HE.out.2.1).mono ?_
  rintro e w3 ⟨rfl, hT3, hu3⟩
  have hb3 := below_new hb2 hu3 hs2 HF.out; have hs3 := Nat.le_trans hs2 hu3.size; clear hu3 hb2 hs2 hT2
  go_wp2_with fail
  refine (seal_at hT3 G1 HE.out.2.2.1).mono ?_
  rintro e w4 ⟨rfl, hT4, hu4⟩
  have hb4 := below_new hb3 hu4 hs3 HF.out; have hs4 := Nat.le_trans hs3 hu4.size; clear hu4 hb3 hs3 hT3
  go_wp2_with fail
  refine (open_at hT4 G3 HE.out.2.2.2.1).mono ?_
  rintro e w5 ⟨rfl, hT5, hu5⟩
  have hb5 := below_new hb4 hu5 hs4 HF.out; have hs5 := Nat.le_trans hs4 hu5.size; clear hu5 hb4 hs4 hT4
  go_wp2_with fail
  refine (release_at hT5 HE.out.2.2.2.2.1).mono ?_
  rintro e w6 ⟨rfl, hT6, hu6⟩
  have hb6 := below_new hb5 hu6 hs5 HF.out; have hs6 := Nat.le_trans hs5 hu6.size; clear hu6 hb5 hs5 hT5
  go_wp2_with fail
  refine (seal_at hT6 G5 HE.out.2.2.2.2.2.1).mono ?_
  rintro e w7 ⟨rfl, hT7, hu7⟩
  have hb7 := below_new hb6 hu7 hs6 HF.out; have hs7 := Nat.le_trans hs6 hu7.size; clear hu7 hb6 hs6 hT6
  go_wp2_with fail
  refine (open_at hT7 G6 HE.out.2.2.2.2.2.2).mono ?_
  rintro e w8 ⟨rfl, hT8, hu8⟩
  have hb8 := below_new hb7 hu8 hs7 HF.out; clear hu8 hb7 hs7 hT7
  go_wp2_with fail
  go_ret
  exact ⟨rfl, hb8⟩

theorem few_calls (w : World) (v : Value) (n : Nat) (xs : List Value) (h : Reads w 2 v n xs) (hn : n ≤ maxLen) :
    Calls Try.prog 15 #[v] w fun e w' => ∃ v', e = .returned v' ∧ Sliced 2 v n v' 0 (min n 300) ∧ w = w' := by
  obtain ⟨a, c, rfl⟩ := h.len
  unfold maxLen at hn
  have hsz : ∀ w, (sizeOf 41).run Try.prog w = .ok 2 w := fun w => by kernel_rfl
  by_cases hc : n ≤ 300
  · rw [Nat.min_eq_left hc]
    have HH := Lib.hid h; clear h
    go_enter Try.func15, Try.ntmps15
    go_wp2_with (first | ((with_reducible change wpList _ _ _ (⟨_, Op.slice _ _ _ _ _, _, _, _, _⟩ :: _) _ _); refine wpl_slice rfl _ _ _ _ rfl 41 2 Try.underlying38 hsz _ _ _ HH.out rfl 0 n (.inl ⟨rfl, rfl⟩) (.inr rfl) (Nat.zero_le _) (Nat.le_refl _) ?_; intro v1 hs1; have HS := Lib.hid hs1; clear hs1))
    go_ret
    exact ⟨v1, rfl, HS.out, rfl⟩
  · rw [Nat.min_eq_right (by omega)]
    have HH := Lib.hid h; clear h
    have h300 : (300 : Int) ≤ n := by omega
    go_enter Try.func15, Try.ntmps15
    go_wp2_with (first | ((with_reducible change wpList _ _ _ (⟨_, Op.slice _ _ _ _ _, _, _, _, _⟩ :: _) _ _); refine wpl_slice rfl _ _ _ _ rfl 41 2 Try.underlying38 hsz _ _ _ HH.out rfl 0 300 (.inl ⟨rfl, rfl⟩) (.inr rfl) (Nat.zero_le _) (by omega) ?_; intro v1 hs1; have HS := Lib.hid hs1; clear hs1))
    go_ret
    exact ⟨v1, rfl, HS.out, rfl⟩

/-- an act's cells. -/
def actCells (p : Int × Int) : List Value := [.int .u8 p.1, .int .i64 p.2]
theorem cellsAct : Try.prog.cellsOf 41 = 2 := by kernel_rfl
theorem flatAct : flatK Try.prog 5 41 = some [.int .u8, .int .i64] := by rfl
theorem sizeAct (w : World) : (sizeOf 41).run Try.prog w = .ok 2 w := by kernel_rfl

/-- Acts that came in. -/
theorem open_acts {H : Type} {enc : TypeId × Value → H} {w : World} {spare : Nat → Bool} {held : Bool} {base0 : Nat} {v : Value} {d : DataW H} {p : List MemPlace} (hok : ∃ a n c, v = .slice a n c) (h : DataW.Trod enc Try.prog w base0 spare held 38 v d p) :
    ∃ acts : List (Int × Int), Reads w 2 v acts.length (acts.flatMap actCells) ∧ acts.length ≤ maxLen ∧ ∀ p ∈ acts, (Lit.int .u8 p.1).wf = true ∧ (Lit.int .i64 p.2).wf = true := by
  obtain ⟨n, xs, h1, h2, h3, _⟩ := open_flat Try.underlying38 cellsAct flatAct hok h
  obtain ⟨l, g1, g2, g3⟩ := list_of_pieces actCells (fun p => (Lit.int .u8 p.1).wf = true ∧ (Lit.int .i64 p.2).wf = true) 2 (fun _ => rfl) n xs h1.1 (fun i hi => by
    have hf := h3 i hi
    generalize (xs.drop (i * 2)).take 2 = cs at hf ⊢
    have h2 := hf.length
    obtain ⟨x, y, rfl⟩ : ∃ x y, cs = [x, y] := by
      rcases cs with _ | ⟨x, _ | ⟨y, _ | ⟨z, r⟩⟩⟩ <;> simp at h2
      exact ⟨x, y, rfl⟩
    obtain ⟨⟨b, e1, hw1⟩, ⟨a, e2, hw2⟩, _⟩ := hf
    exact ⟨(b, a), by rw [e1, e2]; rfl, And.intro hw1 hw2⟩)
  subst g1 g2
  exact ⟨l, h1, h2, g3⟩
theorem acts_cells {acts : List (Int × Int)} {k : Nat} (hk : k < acts.length) {a b : Int} (h : acts[k] = (a, b)) : (acts.flatMap actCells)[k * 2 + 0]? = some (.int .u8 a) ∧ (acts.flatMap actCells)[k * 2 + 1]? = some (.int .i64 b) := by
  constructor
  · rw [flatMap_get actCells 2 (fun _ => rfl) acts k 0 hk (by omega), h]; rfl
  · rw [flatMap_get actCells 2 (fun _ => rfl) acts k 1 hk (by omega), h]; rfl

set_option maxHeartbeats 1000000 in
theorem does_calls (w : World) (b : Nat) (v : Value) (t : Tab) (F : Nat → Prop) (h : TabV w b v t F) (hg : t.Good) (k s : Int) (hk : (Lit.int .u8 k).wf = true) :
    Calls Try.prog 16 #[.pointer (some ⟨b, 0, none⟩), .agg #[.int .u8 k, .int .i64 s]] w fun e w' =>
      e = .returned (.tuple #[.int .i64 (doT t (k, s)).1.1, .int .u64 (doT t (k, s)).1.2.1, .int .i64 (doT t (k, s)).1.2.2]) ∧ TabV w' b v (doT t (k, s)).2 F ∧ Upd F w w' := by
  have hk0 := wf_u8 hk
  have hal := (Upd.refl (fun _ => False) w).alloc (.cells #[.int .u8 k, .int .i64 s] 41)
  have HT : Hid (TabV (w.alloc (.cells #[.int .u8 k, .int .i64 s] 41)) b v t F) := Lib.hid (h.upd hal (fun _ _ f => f))
  have HA := Lib.hid (hal.mono (S' := F) (fun _ _ f => f.elim))
  clear hal h
  by_cases h0 : k % 3 = 0
  · have e : doT t (k, s) = openT t := by simp [doT, h0]
    rw [e]
    go_enter Try.func16, Try.ntmps16
    go_wp2_with fail
    refine (open_calls _ b v t F HT.out hg).mono ?_
    rintro e w' ⟨rfl, hT, hu⟩
    have HT2 := Lib.hid hT
    have HU := Lib.hid (HA.out.trans hu (fun _ _ f => f))
    clear hT hu
    go_wp2_with fail
    go_ret3
    exact ⟨rfl, HT2.out, HU.out⟩
  · by_cases h1 : k % 3 = 1
    · have e : doT t (k, s) = ((0, 0, (sealT t).1), (sealT t).2) := by simp [doT, h1]
      rw [e]
      go_enter Try.func16, Try.ntmps16
      go_wp2_with fail
      refine (seal_calls _ b v t F HT.out hg).mono ?_
      rintro e w' ⟨rfl, hT, hu⟩
      have HT2 := Lib.hid hT
      have HU := Lib.hid (HA.out.trans hu (fun _ _ f => f))
      clear hT hu
      go_wp2_with fail
      go_ret3
      exact ⟨rfl, HT2.out, HU.out⟩
    · have e : doT t (k, s) = ((0, 0, (releaseT t s).1), (releaseT t s).2) := by simp [doT, h0, h1]
      rw [e]
      go_enter Try.func16, Try.ntmps16
      go_wp2_with fail
      refine (release_calls _ b v t F HT.out s).mono ?_
      rintro e w' ⟨rfl, hT, hu⟩
      have HT2 := Lib.hid hT
      have HU := Lib.hid (HA.out.trans hu (fun _ _ f => f))
      clear hT hu
      go_wp2_with fail
      go_ret3
      exact ⟨rfl, HT2.out, HU.out⟩
theorem does_at {w : World} {b : Nat} {v : Value} {t : Tab} {F : Nat → Prop} (h : TabV w b v t F) (hg : t.Good) {k s : Int} (hk : (Lit.int .u8 k).wf = true) {i n c : Int} {t' : Tab} (he : doT t (k, s) = ((i, n, c), t')) :
    Calls Try.prog 16 #[.pointer (some ⟨b, 0, none⟩), .agg #[.int .u8 k, .int .i64 s]] w fun e w' => e = .returned (.tuple #[.int .i64 i, .int .u64 n, .int .i64 c]) ∧ TabV w' b v t' F ∧ Upd F w w' := by
  have := does_calls w b v t F h hg k s hk
  rwa [he] at this
theorem doT_cases {t : Tab} (h : t.Good) (a : Int × Int) :
    (∃ i s c t', doT t a = ((i, s, c), t') ∧ (a.1 % 3 ≠ 0 ∨ (a.1 % 3 = 0 ∧ c ≠ 0)) ∧ t'.next = t.next) ∨
    ∃ j : Nat, a.1 % 3 = 0 ∧ j < t.rows.length ∧ (t.rows.getD j .zero).kind = 0 ∧ doT t a = (((j : Int), t.next, 0), ⟨t.rows.set j (opened t (t.rows.getD j .zero)), t.next + 1, j⟩) := by
  by_cases h0 : a.1 % 3 = 0
  · have e : doT t a = openT t := by simp [doT, h0]
    rcases openT_cases t with ⟨c, hc, e2⟩ | ⟨j, hj, hjk, _, _, e2⟩
    · exact .inl ⟨0, 0, c, t, e.trans e2, .inr ⟨h0, hc⟩, rfl⟩
    · exact .inr ⟨j, h0, hj, hjk, e.trans e2⟩
  · by_cases h1 : a.1 % 3 = 1
    · exact .inl ⟨0, 0, (sealT t).1, (sealT t).2, by simp [doT, h1], .inl h0, h.seal.2.1⟩
    · exact .inl ⟨0, 0, (releaseT t a.2).1, (releaseT t a.2).2, by simp [doT, h0, h1], .inl h0, (h.release a.2).2.1⟩
end Go.Proofs.Ytbffcogpicaloaa
