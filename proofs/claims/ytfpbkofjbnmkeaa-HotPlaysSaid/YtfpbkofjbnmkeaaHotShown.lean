/- What this text proves: the examples at the head of all statements of package pumicelaw16. No conditions. -/
import Derived.Test.YtfpbkofjbnmkeaaHotLaw
namespace Go.Proofs.Ytfpbkofjbnmkeaa
open Go Go.RowKit Go.Shelf Go.Lib
open Go.Proofs
set_option linter.unusedVariables false
set_option linter.unusedSimpArgs false

/-- the cache at b is h; all of it was made since w0, nothing of w0 has turned; the blocks of X are others'. -/
structure InF (w0 w : World) (b : Nat) (h : Hot) (X F : Nat → Prop) : Prop where
  at_ : HotAt w b h F
  since : Upd (fun _ => False) w0 w
  new : ∀ q, F q → w0.heap.size ≤ q ∧ ¬ X q
  xlt : ∀ q, X q → w0.heap.size ≤ q ∧ q < w.heap.size
def InH (w0 w : World) (b : Nat) (h : Hot) (X : Nat → Prop) : Prop := ∃ F, InF w0 w b h X F
theorem InH.since {w0 w : World} {b : Nat} {h : Hot} {X : Nat → Prop} (I : InH w0 w b h X) : Upd (fun _ => False) w0 w := by
  obtain ⟨F, I⟩ := I
  exact I.since
theorem InH.size {w0 w : World} {b : Nat} {h : Hot} {X : Nat → Prop} (I : InH w0 w b h X) : w0.heap.size ≤ w.heap.size := I.since.size
/-- others' work: it turns blocks of X and new ones, which are others' then. -/
theorem InH.other {w0 w w' : World} {b : Nat} {h : Hot} {X : Nat → Prop} (I : InH w0 w b h X) (hu : Upd X w w') : InH w0 w' b h (fun k => X k ∨ fresh w w' k) := by
  obtain ⟨F, I⟩ := I
  have hs := hu.size
  have hs0 := I.since.size
  refine ⟨F, I.at_.upd hu (fun k hk f => (I.new k hk).2 f), I.since.trans hu (fun i hi f => by have := (I.xlt i f).1; omega), fun q hq => ⟨(I.new q hq).1, ?_⟩, fun q hq => ?_⟩
  · rintro (f | f)
    · exact (I.new q hq).2 f
    · have := I.at_.lt q hq; have := f.1; omega
  · rcases hq with f | f
    · exact ⟨(I.xlt q f).1, by have := (I.xlt q f).2; omega⟩
    · exact ⟨by have := f.1; omega, f.2⟩
theorem InH.less {w0 w : World} {b : Nat} {h : Hot} {X Y : Nat → Prop} (I : InH w0 w b h X) (hs : ∀ q, Y q → X q) : InH w0 w b h Y := by
  obtain ⟨F, I⟩ := I
  exact ⟨F, I.at_, I.since, fun q hq => ⟨(I.new q hq).1, fun f => (I.new q hq).2 (hs q f)⟩, fun q hq => I.xlt q (hs q hq)⟩
theorem InH.upd {w0 w w' : World} {b : Nat} {h : Hot} {X : Nat → Prop} (I : InH w0 w b h X) (hu : Upd (fun _ => False) w w') : InH w0 w' b h X := (I.other (hu.mono (S' := X) (fun _ _ f => f.elim))).less (fun q hq => .inl hq)
theorem InF.turn {w0 w w' : World} {b : Nat} {h h' : Hot} {X F : Nat → Prop} (I : InF w0 w b h X F) (T : Turned w w' b h' F) : InH w0 w' b h' X ∧ Upd (fun k => ¬ X k) w w' := by
  obtain ⟨⟨F1, hF1, H1⟩, hu⟩ := T
  have hs := hu.size
  have hs0 := I.since.size
  refine ⟨⟨F1, H1, I.since.trans hu (fun i hi f => by have := (I.new i f).1; omega), fun q hq => ?_, fun q hq => ⟨(I.xlt q hq).1, by have := (I.xlt q hq).2; omega⟩⟩, hu.mono (fun k _ f => (I.new k f).2)⟩
  rcases hF1 q hq with f | f
  · exact I.new q f
  · exact ⟨by have := f.1; omega, fun e => by have := (I.xlt q e).2; have := f.1; omega⟩
theorem offer_in {w0 w : World} {b : Nat} {h : Hot} {X : Nat → Prop} (I : InH w0 w b h X) (g : h.Good) (a : Int) (hw : (Lit.int .u32 a).wf = true) {sv : Value} {n : Nat} {bs : List Int} (hs : Reads w 1 sv n (By bs)) (hsf : n ≠ 0 → ∀ q, sv.ownBlock = some q → q < w0.heap.size ∨ X q) (hn1 : n ≤ 100000) :
    Calls Try.prog 11 #[pt b, .int .u32 a, sv] w fun e w' => e = .returned (.bool (offerH h a bs).1) ∧ InH w0 w' b (offerH h a bs).2 X ∧ Upd (fun k => ¬ X k) w w' := by
  obtain ⟨F, I⟩ := I
  refine (offer_at I.at_ g a hw hs (fun h0 q hq f => ?_) hn1).mono ?_
  · rcases hsf h0 q hq with e | e
    · have := (I.new q f).1; omega
    · exact (I.new q f).2 e
  · rintro e w' ⟨rfl, T⟩
    exact ⟨rfl, I.turn T⟩
theorem drop_in {w0 w : World} {b : Nat} {h : Hot} {X : Nat → Prop} (I : InH w0 w b h X) (g : h.Good) (a : Int) (hw : (Lit.int .u32 a).wf = true) :
    Calls Try.prog 13 #[pt b, .int .u32 a] w fun e w' => e = .returned (.bool (decide (a ∈ h.xs))) ∧ InH w0 w' b (dropH h a) X ∧ Upd (fun k => ¬ X k) w w' := by
  obtain ⟨F, I⟩ := I
  refine (drop_h I.at_ g a hw).mono ?_
  rintro e w' ⟨rfl, T⟩
  exact ⟨rfl, I.turn T⟩
theorem getin_none {w0 w : World} {b : Nat} {h : Hot} {X : Nat → Prop} (I : InH w0 w b h X) (a : Int) (hw : (Lit.int .u32 a).wf = true) (hm : h.m a = none) :
    Calls Try.prog 12 #[pt b, .int .u32 a] w fun e w' => e = .returned (.tuple #[.slice none 0 0, .bool false]) ∧ InH w0 w' b h X ∧ Upd (fun k => ¬ X k) w w' := by
  obtain ⟨F, I⟩ := I
  refine (get_none I.at_ a hw hm).mono ?_
  rintro e w' ⟨rfl, hu⟩
  exact ⟨rfl, InH.upd ⟨F, I⟩ hu, hu.mono (fun _ _ f => f.elim)⟩
/-- what Get hands out lies apart from the cache. -/
theorem getin_some {w0 w : World} {b : Nat} {h : Hot} {X : Nat → Prop} (I : InH w0 w b h X) (g : h.Good) (a : Int) (hw : (Lit.int .u32 a).wf = true) {bs : List Int} (hm : h.m a = some bs) :
    Calls Try.prog 12 #[pt b, .int .u32 a] w fun e w' => ∃ v', e = .returned (.tuple #[v', .bool true]) ∧ w'.ownsRow w.heap.size 5 1 v' bs.length (By bs) ∧ InH w0 w' b { h with xs := frontL h.xs a } (fun k => X k ∨ v'.ownBlock = some k) ∧ Upd (fun k => ¬ X k) w w' := by
  obtain ⟨F, I⟩ := I
  have hl := g.len
  have hr := g.room1
  refine (get_some I.at_ a hw hm (g.bytes a bs hm) (by omega)).mono ?_
  rintro e w' ⟨v', F', rfl, hF', H', hu, ho, hn⟩
  obtain ⟨⟨F2, I2⟩, hx⟩ := I.turn ⟨⟨F', hF', H'⟩, hu⟩
  have hs0 := I.since.size
  refine ⟨v', rfl, ho, ⟨F', H', I2.since, fun q hq => ⟨?_, ?_⟩, fun q hq => ?_⟩, hx⟩
  · rcases hF' q hq with f | f
    · exact (I.new q f).1
    · have := f.1; omega
  · rintro (f | f)
    · rcases hF' q hq with e | e
      · exact (I.new q e).2 f
      · have := (I.xlt q f).2; have := e.1; omega
    · exact hn q f hq
  · rcases hq with f | f
    · exact I2.xlt q f
    · have := ho.lt q f
      exact ⟨by omega, this.2⟩
theorem all_in {w0 w : World} {b : Nat} {h : Hot} {X : Nat → Prop} (I : InH w0 w b h X) (g : h.Good) :
    Calls Try.prog 19 #[pt b] w fun e w' => ∃ v', e = .returned v' ∧ w'.ownsRow w.heap.size 23 1 v' h.xs.length (U h.xs) ∧ InH w0 w' b h (fun k => X k ∨ fresh w w' k) ∧ Below w.heap.size w w' := by
  obtain ⟨F, I⟩ := I
  have hl := g.len
  have hr := g.room1
  refine (hall_at I.at_ (by omega)).mono ?_
  rintro e w' ⟨v', rfl, ho, hb⟩
  exact ⟨v', rfl, ho, InH.other ⟨F, I⟩ ((below_upd hb).mono (fun i hi f => absurd f (by omega))), hb⟩
theorem new_in (w : World) (room k : Int) (h0 : 0 ≤ room) (h1 : room ≤ 4096) (k0 : 0 ≤ k) (k1 : k ≤ 4096) :
    Calls Try.prog 9 #[.int .i64 room, .int .i64 k] w fun e w' => ∃ b, e = .returned (.tuple #[pt b, .int .i64 0]) ∧ InH w w' b ⟨room, [], fun _ => none, k, []⟩ (fun _ => False) := by
  refine (hnew_calls w room k h0 h1 k0 k1).mono ?_
  rintro e w' ⟨b, F, rfl, H, hF, hu⟩
  exact ⟨b, rfl, F, H, hu, fun q hq => ⟨(hF q hq).1, fun f => f⟩, fun q hq => hq.elim⟩
theorem new_good (room k : Int) (h0 : 0 ≤ room) (h1 : room ≤ 4096) : (⟨room, [], fun _ => none, k, []⟩ : Hot).Good :=
  ⟨h0, h1, by simpa using h0, List.nodup_nil, fun a => by simp, fun x hx => by simp at hx, fun a bs h => by cases h⟩
def sh0 : Hot := ⟨1, [], fun _ => none, 5, []⟩
def sh1 : Hot := (offerH sh0 3 [120]).2
def sh2 : Hot := (offerH sh1 3 [120]).2
def sh3 : Hot := { sh2 with xs := frontL sh2.xs 3 }
def sh4 : Hot := (offerH sh3 4 []).2
def sh5 : Hot := (offerH sh4 4 []).2
theorem sh_false : (offerH sh0 3 [120]).1 = false ∧ (offerH sh1 3 [120]).1 = true ∧ sh2.m 3 = some [120] ∧ (offerH sh3 4 []).1 = false ∧ (offerH sh4 4 []).1 = true ∧ sh5.m 3 = none := ⟨rfl, rfl, rfl, rfl, rfl, rfl⟩
theorem wf3 : (Lit.int .u32 3).wf = true := by decide
theorem wf4 : (Lit.int .u32 4).wf = true := by decide
theorem sh_good : sh0.Good ∧ sh1.Good ∧ sh2.Good ∧ sh3.Good ∧ sh4.Good := by
  have g0 : sh0.Good := new_good 1 5 (by decide) (by decide)
  have g1 : sh1.Good := offer_good g0 wf3 (by decide)
  have g2 : sh2.Good := offer_good g1 wf3 (by decide)
  have g3 : sh3.Good := front_good g2 ((g2.keys 3).2 (by rw [sh_false.2.2.1]; rfl))
  exact ⟨g0, g1, g2, g3, offer_good g3 wf4 (by decide)⟩
theorem reads_lit (w : World) (C : Array Value) (e : TypeId) (f : Nat × Nat) (bs : List Int) (hC : C = (By bs).toArray) : Reads (w.alloc (.cells C e f)) 1 (.slice (some ⟨w.heap.size, 0, none⟩) bs.length bs.length) bs.length (By bs) :=
  ⟨by simp, .inr ⟨_, _, rfl, Nat.le_refl _, fun j u hj => by rw [add_lit, cell_at (heap_alloc_last w _), hC]; simpa using hj⟩⟩
theorem own_lit {g o n c q : Nat} (h : (Value.slice (some ⟨g, o, none⟩) n c).ownBlock = some q) : q = g := by
  injection h with e
  exact e.symm
set_option maxHeartbeats 1000000 in
theorem shown_calls (w : World) : Calls Try.prog 8 #[] w fun e w' => e = .returned (.bool true) ∧ Upd (fun _ => False) w w' := by
  go_enter Try.func8, Try.ntmps8
  go_wp2_with fail
  refine (new_in w 1 5 (by decide) (by decide) (by decide) (by decide)).mono ?_
  rintro e w1 ⟨b, rfl, I1⟩
  have HI1 := Lib.hid (show InH w w1 b sh0 (fun _ => False) from I1); clear I1
  have hc1 := run_convert_bytes_const (P := Try.prog) w1 30 5 #[.int .u8 120] 1 1 Try.underlying30 Try.underlying5
  go_wp2_with fail
  have J1 := HI1.out.other (w' := w1.alloc (.cells #[.int .u8 120] 5 (1, 2))) ((Upd.refl _ w1).alloc _)
  refine (offer_in J1 sh_good.1 3 wf3 (reads_lit w1 _ _ _ [120] rfl) (fun _ q hq => .inr (.inr (by rw [own_lit hq]; exact ⟨Nat.le_refl _, by rw [size_alloc]; omega⟩))) (by decide)).mono ?_
  rintro e w2 ⟨rfl, I2, _⟩
  have HI2 := Lib.hid (show InH w w2 b sh1 (fun _ => False) from I2.less (fun _ f => f.elim)); clear I2 J1 hc1
  rw [sh_false.1]
  have hc2 := run_convert_bytes_const (P := Try.prog) w2 30 5 #[.int .u8 120] 1 1 Try.underlying30 Try.underlying5
  go_wp2_with fail
  have J2 := HI2.out.other (w' := w2.alloc (.cells #[.int .u8 120] 5 (1, 2))) ((Upd.refl _ w2).alloc _)
  refine (offer_in J2 sh_good.2.1 3 wf3 (reads_lit w2 _ _ _ [120] rfl) (fun _ q hq => .inr (.inr (by rw [own_lit hq]; exact ⟨Nat.le_refl _, by rw [size_alloc]; omega⟩))) (by decide)).mono ?_
  rintro e w3 ⟨rfl, I3, _⟩
  have HI3 := Lib.hid (show InH w w3 b sh2 (fun _ => False) from I3.less (fun _ f => f.elim)); clear I3 J2 hc2
  rw [sh_false.2.1]
  go_wp2_with fail
  refine (getin_some HI3.out sh_good.2.2.1 3 wf3 sh_false.2.2.1).mono ?_
  rintro e w4 ⟨v4, rfl, ho4, I4, _⟩
  have HI4 := Lib.hid (show InH w w4 b sh3 (fun k => v4.ownBlock = some k) from I4.less (fun _ f => .inr f)); clear I4
  obtain ⟨a4, c4, hv4⟩ := (owns_reads ho4).len
  subst hv4
  have HO4 := Lib.hid (owns_reads ho4); clear ho4
  go_wp2_with fail
  have hnil : ∀ W, Reads W 1 (.slice none 0 0) 0 (By []) := fun W => ⟨rfl, .inl ⟨rfl, rfl⟩⟩
  refine (offer_in HI4.out sh_good.2.2.2.1 4 wf4 (hnil _) (fun _ q hq => by simp [Value.ownBlock] at hq) (by decide)).mono ?_
  rintro e w5 ⟨rfl, I5, hu5⟩
  have HI5 := Lib.hid (show InH w w5 b sh4 _ from I5); have HO5 := Lib.hid (HO4.out.upd hu5 (fun k hk f => f hk)); clear I5 hu5
  rw [sh_false.2.2.2.1]
  go_wp2_with fail
  refine (offer_in HI5.out sh_good.2.2.2.2 4 wf4 (hnil _) (fun _ q hq => by simp [Value.ownBlock] at hq) (by decide)).mono ?_
  rintro e w6 ⟨rfl, I6, hu6⟩
  have HI6 := Lib.hid (show InH w w6 b sh5 _ from I6); have HO6 := Lib.hid (HO5.out.upd hu6 (fun k hk f => f hk)); clear I6 hu6
  rw [sh_false.2.2.2.2.1]
  go_wp2_with fail
  refine (getin_none HI6.out 3 wf3 sh_false.2.2.2.2.2).mono ?_
  rintro e w7 ⟨rfl, I7, hu7⟩
  have hcv : (convert 30 9 (.slice a4 1 c4)).run Try.prog w7 = .ok (.string ⟨#[120]⟩) w7 := conv_string (HO6.out.upd hu7 (fun k hk f => f hk))
  have HI7 := Lib.hid I7; clear I7 hu7
  go_wp2_with fail
  go_ret
  exact ⟨rfl, HI7.out.since⟩
end Go.Proofs.Ytfpbkofjbnmkeaa
