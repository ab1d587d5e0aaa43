/- What this text proves: the cache and the document's cache, side by side. Conditions: each theorem's own. -/
import Derived.Test.YtfpbkofjbnmkeaaHotAgree
namespace Go.Proofs.Ytfpbkofjbnmkeaa
open Go Go.RowKit Go.Shelf Go.Lib
open Go.Proofs
set_option linter.unusedVariables false
set_option linter.unusedSimpArgs false

/-- the cache at b is h, the document's at r is d; all was made since w0; the blocks of X are others'. -/
structure Both (w0 w : World) (b r : Nat) (h : Hot) (d : Doc) (X : Nat → Prop) : Prop where
  has : ∃ FD, InH w0 w b h (fun q => FD q ∨ X q) ∧ DocAt w r d FD ∧ ∀ q, FD q → ¬ X q
  good : h.Good
  agree : Agree h d
theorem Both.since {w0 w : World} {b r : Nat} {h : Hot} {d : Doc} {X : Nat → Prop} (B : Both w0 w b r h d X) : Upd (fun _ => False) w0 w := by
  obtain ⟨FD, I, _⟩ := B.has
  exact I.since
theorem Both.xlt {w0 w : World} {b r : Nat} {h : Hot} {d : Doc} {X : Nat → Prop} (B : Both w0 w b r h d X) : ∀ q, X q → w0.heap.size ≤ q ∧ q < w.heap.size := by
  obtain ⟨FD, ⟨F, I⟩, _⟩ := B.has
  exact fun q hq => I.xlt q (.inr hq)
theorem Both.other {w0 w w' : World} {b r : Nat} {h : Hot} {d : Doc} {X : Nat → Prop} (B : Both w0 w b r h d X) (hu : Upd X w w') : Both w0 w' b r h d (fun q => X q ∨ fresh w w' q) := by
  obtain ⟨FD, I, D, N⟩ := B.has
  refine ⟨⟨FD, (I.other (hu.mono (fun _ _ f => .inr f))).less (fun q hq => ?_), D.upd hu (fun q hq f => N q hq f), fun q hq f => ?_⟩, B.good, B.agree⟩
  · rcases hq with f | f | f
    · exact .inl (.inl f)
    · exact .inl (.inr f)
    · exact .inr f
  · rcases f with f | f
    · exact N q hq f
    · have := D.lt q hq; have := f.1; omega
theorem Both.less {w0 w : World} {b r : Nat} {h : Hot} {d : Doc} {X Y : Nat → Prop} (B : Both w0 w b r h d X) (hs : ∀ q, Y q → X q) : Both w0 w b r h d Y := by
  obtain ⟨FD, I, D, N⟩ := B.has
  exact ⟨⟨FD, I.less (fun q hq => hq.imp id (hs q)), D, fun q hq f => N q hq (hs q f)⟩, B.good, B.agree⟩
theorem Both.upd {w0 w w' : World} {b r : Nat} {h : Hot} {d : Doc} {X : Nat → Prop} (B : Both w0 w b r h d X) (hu : Upd (fun _ => False) w w') : Both w0 w' b r h d X := (B.other (hu.mono (S' := X) (fun _ _ f => f.elim))).less (fun q hq => .inl hq)
/-- the cache has gone on, the document's has not. -/
def Half (w0 w : World) (b r : Nat) (h : Hot) (d : Doc) (X : Nat → Prop) : Prop := ∃ FD, InH w0 w b h (fun q => FD q ∨ X q) ∧ DocAt w r d FD ∧ (∀ q, FD q → ¬ X q)
theorem Half.since {w0 w : World} {b r : Nat} {h : Hot} {d : Doc} {X : Nat → Prop} (B : Half w0 w b r h d X) : Upd (fun _ => False) w0 w := by
  obtain ⟨FD, I, _⟩ := B
  exact I.since
theorem Half.upd {w0 w w' : World} {b r : Nat} {h : Hot} {d : Doc} {X : Nat → Prop} (B : Half w0 w b r h d X) (hu : Upd (fun _ => False) w w') : Half w0 w' b r h d X := by
  obtain ⟨FD, I, D, N⟩ := B
  exact ⟨FD, I.upd hu, D.upd hu (fun _ _ f => f), N⟩
theorem half_step {w0 w w' : World} {b r : Nat} {h' : Hot} {d : Doc} {X FD : Nat → Prop} (D : DocAt w r d FD) (N : ∀ q, FD q → ¬ X q) (I : InH w0 w' b h' (fun q => FD q ∨ X q)) (hu : Upd (fun k => ¬ (FD k ∨ X k)) w w') : Half w0 w' b r h' d X ∧ Upd (fun k => ¬ X k) w w' :=
  ⟨⟨FD, I, D.upd hu (fun q hq f => f (.inl hq)), N⟩, hu.mono (fun k _ f g => f (.inr g))⟩
theorem Half.doc {w0 w w' : World} {b r : Nat} {h : Hot} {d' : Doc} {X FD : Nat → Prop} (I : InH w0 w b h (fun q => FD q ∨ X q)) (N : ∀ q, FD q → ¬ X q) (T : DTurned w w' r d' FD) : Half w0 w' b r h d' X ∧ Upd (fun k => ¬ X k) w w' := by
  obtain ⟨⟨F', hF', D'⟩, hu⟩ := T
  have hxl : ∀ q, X q → q < w.heap.size := fun q hq => by
    obtain ⟨F, I⟩ := I
    exact (I.xlt q (.inr hq)).2
  refine ⟨⟨F', (I.other (hu.mono (fun _ _ f => .inl f))).less (fun q hq => ?_), D', fun q hq f => ?_⟩, hu.mono (fun k _ f g => N k f g)⟩
  · rcases hq with f | f
    · rcases hF' q f with f | f
      · exact .inl (.inl f)
      · exact .inr f
    · exact .inl (.inr f)
  · rcases hF' q hq with e | e
    · exact N q e f
    · have := hxl q f; have := e.1; omega
theorem glist_len {w0 w : World} {b : Nat} {h : Hot} {X : Nat → Prop} (I : InH w0 w b h X) : h.gl.length ≤ 4096 := by
  obtain ⟨F, I⟩ := I
  obtain ⟨mb, g, v, vs, Fg, H⟩ := I.at_
  obtain ⟨bm, ns, hg, e, _⟩ := H.ghost.has
  have h1 := hg.size
  have h2 := hg.most
  rw [← e, List.length_map]
  omega
theorem both_offer {w0 w : World} {b r : Nat} {h : Hot} {d : Doc} {X : Nat → Prop} (B : Both w0 w b r h d X) (a : Int) (hw : (Lit.int .u32 a).wf = true) {sv : Value} {n : Nat} {bs : List Int} (hs : Reads w 1 sv n (By bs)) (hsf : n ≠ 0 → ∀ q, sv.ownBlock = some q → q < w0.heap.size ∨ X q) (hn1 : n ≤ 100000) :
    Calls Try.prog 11 #[pt b, .int .u32 a, sv] w fun e w' => e = .returned (.bool (offerH h a bs).1) ∧ Half w0 w' b r (offerH h a bs).2 d X ∧ Upd (fun k => ¬ X k) w w' := by
  obtain ⟨FD, I, D, N⟩ := B.has
  refine (offer_in I B.good a hw hs (fun h0 q hq => (hsf h0 q hq).imp id .inr) hn1).mono ?_
  rintro e w' ⟨rfl, I', hu⟩
  exact ⟨rfl, half_step D N I' hu⟩
theorem both_roffer {w0 w : World} {b r : Nat} {h : Hot} {d : Doc} {X : Nat → Prop} (g : h.Good) (A : Agree h d) (gl : h.gl.length ≤ 4096) (k0 : 0 ≤ h.k) (a : Int) (hw : (Lit.int .u32 a).wf = true) {bs : List Int} (hb : bs.length ≤ 100000) (B : Half w0 w b r (offerH h a bs).2 d X) :
    Calls Try.prog 15 #[pt r, .int .u32 a, .string (strOfNums bs)] w fun e w' => e = .returned (.bool (offerH h a bs).1) ∧ Both w0 w' b r (offerH h a bs).2 (offerD d a bs).2 X ∧ Upd (fun k => ¬ X k) w w' := by
  obtain ⟨FD, I, D, N⟩ := B
  have hlen : d.its.length = h.xs.length := by rw [← A.xs]; unfold keysI; simp
  have h1 := g.len
  have h2 := g.room1
  refine (roffer_calls D a bs (by rw [A.room]; exact g.room0) (by rw [A.k]; exact k0) (by omega) (by rw [A.gl]; omega)).mono ?_
  rintro e w' ⟨rfl, T⟩
  have h3 := Half.doc I N T
  have h4 := offer_agree A g a bs
  exact ⟨by rw [h4.1], ⟨h3.1, offer_good g hw hb, h4.2⟩, h3.2⟩
theorem both_get_none {w0 w : World} {b r : Nat} {h : Hot} {d : Doc} {X : Nat → Prop} (B : Both w0 w b r h d X) (a : Int) (hw : (Lit.int .u32 a).wf = true) (hm : h.m a = none) :
    Calls Try.prog 12 #[pt b, .int .u32 a] w fun e w' => e = .returned (.tuple #[.slice none 0 0, .bool false]) ∧ Half w0 w' b r (getH h a) d X ∧ Upd (fun k => ¬ X k) w w' := by
  obtain ⟨FD, I, D, N⟩ := B.has
  have e : getH h a = h := by unfold getH; rw [hm]; rfl
  rw [e]
  refine (getin_none I a hw hm).mono ?_
  rintro e w' ⟨rfl, I', hu⟩
  exact ⟨rfl, half_step D N I' hu⟩
theorem both_get_some {w0 w : World} {b r : Nat} {h : Hot} {d : Doc} {X : Nat → Prop} (B : Both w0 w b r h d X) (a : Int) (hw : (Lit.int .u32 a).wf = true) {bs : List Int} (hm : h.m a = some bs) :
    Calls Try.prog 12 #[pt b, .int .u32 a] w fun e w' => ∃ v', e = .returned (.tuple #[v', .bool true]) ∧ w'.ownsRow w.heap.size 5 1 v' bs.length (By bs) ∧ Half w0 w' b r (getH h a) d (fun k => X k ∨ v'.ownBlock = some k) ∧ Upd (fun k => ¬ X k) w w' := by
  obtain ⟨FD, I, D, N⟩ := B.has
  have e : getH h a = { h with xs := frontL h.xs a } := by unfold getH; rw [hm]; rfl
  rw [e]
  refine (getin_some I B.good a hw hm).mono ?_
  rintro e w' ⟨v', rfl, ho, I', hu⟩
  refine ⟨v', rfl, ho, ⟨FD, I'.less (fun q hq => ?_), D.upd hu (fun q hq f => f (.inl hq)), fun q hq f => ?_⟩, hu.mono (fun k _ f g => f (.inr g))⟩
  · rcases hq with f | f | f
    · exact .inl (.inl f)
    · exact .inl (.inr f)
    · exact .inr f
  · rcases f with f | f
    · exact N q hq f
    · have := (ho.lt q f).1; have := D.lt q hq; omega
theorem both_get {w0 w : World} {b r : Nat} {h : Hot} {d : Doc} {X : Nat → Prop} (B : Both w0 w b r h d X) (a : Int) (hw : (Lit.int .u32 a).wf = true) :
    Calls Try.prog 12 #[pt b, .int .u32 a] w fun e w' => ∃ v', e = .returned (.tuple #[v', .bool (h.m a).isSome]) ∧ w'.ownsRow w.heap.size 5 1 v' ((h.m a).getD []).length (By ((h.m a).getD [])) ∧ Half w0 w' b r (getH h a) d (fun k => X k ∨ v'.ownBlock = some k) ∧ Upd (fun k => ¬ X k) w w' := by
  cases hm : h.m a with
  | none =>
    refine (both_get_none B a hw hm).mono ?_
    rintro e w' ⟨rfl, H, hu⟩
    refine ⟨_, rfl, World.ownsRow_nil _ _ _ _, ?_, hu⟩
    obtain ⟨FD, I, D, N⟩ := H
    exact ⟨FD, I.less (fun q hq => hq.imp id (fun f => f.elim id (fun f => by simp [Value.ownBlock] at f))), D, fun q hq f => f.elim (N q hq) (fun f => by simp [Value.ownBlock] at f)⟩
  | some bs =>
    exact both_get_some B a hw hm
theorem both_rget {w0 w : World} {b r : Nat} {h : Hot} {d : Doc} {X : Nat → Prop} (g : h.Good) (A : Agree h d) (a : Int) (B : Half w0 w b r (getH h a) d X) :
    Calls Try.prog 16 #[pt r, .int .u32 a] w fun e w' => e = .returned (.tuple #[.string (strOfNums ((h.m a).getD [])), .bool (h.m a).isSome]) ∧ Both w0 w' b r (getH h a) (getD' d a) X ∧ Upd (fun k => ¬ X k) w w' := by
  obtain ⟨FD, I, D, N⟩ := B
  have hlen : d.its.length = h.xs.length := by rw [← A.xs]; unfold keysI; simp
  have h1 := g.len
  have h2 := g.room1
  refine (rget_calls D a (by rw [A.room]; exact g.room0) (by omega)).mono ?_
  rintro e w' ⟨rfl, T⟩
  have h3 := Half.doc I N T
  have h4 := get_agree A g a
  exact ⟨by rw [h4.1, A.isSome], ⟨h3.1, get_good g a, h4.2⟩, h3.2⟩
theorem both_drop {w0 w : World} {b r : Nat} {h : Hot} {d : Doc} {X : Nat → Prop} (B : Both w0 w b r h d X) (a : Int) (hw : (Lit.int .u32 a).wf = true) :
    Calls Try.prog 13 #[pt b, .int .u32 a] w fun e w' => e = .returned (.bool (decide (a ∈ h.xs))) ∧ Half w0 w' b r (dropH h a) d X ∧ Upd (fun k => ¬ X k) w w' := by
  obtain ⟨FD, I, D, N⟩ := B.has
  refine (drop_in I B.good a hw).mono ?_
  rintro e w' ⟨rfl, I', hu⟩
  exact ⟨rfl, half_step D N I' hu⟩
theorem both_rdrop {w0 w : World} {b r : Nat} {h : Hot} {d : Doc} {X : Nat → Prop} (g : h.Good) (A : Agree h d) (a : Int) (B : Half w0 w b r (dropH h a) d X) :
    Calls Try.prog 17 #[pt r, .int .u32 a] w fun e w' => e = .returned (.bool (decide (a ∈ h.xs))) ∧ Both w0 w' b r (dropH h a) (dropD d a) X ∧ Upd (fun k => ¬ X k) w w' := by
  obtain ⟨FD, I, D, N⟩ := B
  have hlen : d.its.length = h.xs.length := by rw [← A.xs]; unfold keysI; simp
  have h1 := g.len
  have h2 := g.room1
  refine (rdropc_calls D a (by omega)).mono ?_
  rintro e w' ⟨rfl, T⟩
  have h3 := Half.doc I N T
  have h4 := drop_agree A g a
  exact ⟨by rw [h4.1], ⟨h3.1, drop_good' g a, h4.2⟩, h3.2⟩
theorem both_all {w0 w : World} {b r : Nat} {h : Hot} {d : Doc} {X : Nat → Prop} (B : Both w0 w b r h d X) :
    Calls Try.prog 19 #[pt b] w fun e w' => ∃ v', e = .returned v' ∧ w'.ownsRow w.heap.size 23 1 v' h.xs.length (U h.xs) ∧ Both w0 w' b r h d X ∧ Below w.heap.size w w' := by
  obtain ⟨FD, I, D, N⟩ := B.has
  refine (all_in I B.good).mono ?_
  rintro e w' ⟨v', rfl, ho, I', hb⟩
  exact ⟨v', rfl, ho, B.upd ((below_upd hb).mono (fun i hi f => absurd f (by omega))), hb⟩
theorem both_rall {w0 w : World} {b r : Nat} {h : Hot} {d : Doc} {X : Nat → Prop} (B : Both w0 w b r h d X) :
    Calls Try.prog 20 #[pt r] w fun e w' => ∃ v', e = .returned v' ∧ w'.ownsRow w.heap.size 23 1 v' h.xs.length (U h.xs) ∧ Both w0 w' b r h d X ∧ Below w.heap.size w w' := by
  obtain ⟨FD, I, D, N⟩ := B.has
  have hk : d.its.map (·.1) = h.xs := B.agree.xs
  have hlen : d.its.length = h.xs.length := by rw [← hk]; simp
  have h1 := B.good.len
  have h2 := B.good.room1
  refine (rall_calls D (by omega)).mono ?_
  rintro e w' ⟨v', rfl, ho, hb⟩
  rw [hk] at ho
  exact ⟨v', rfl, ho, B.upd ((below_upd hb).mono (fun i hi f => absurd f (by omega))), hb⟩
theorem rnew_in (w0 w : World) (b : Nat) (room k : Int) (r0 : 0 ≤ room) (r1 : room ≤ 4096) (I : InH w0 w b ⟨room, [], fun _ => none, k, []⟩ (fun _ => False)) :
    Calls Try.prog 14 #[.int .i64 room, .int .i64 k] w fun e w' => ∃ r, e = .returned (pt r) ∧ Both w0 w' b r ⟨room, [], fun _ => none, k, []⟩ ⟨room, k, [], []⟩ (fun _ => False) := by
  refine (rnew_calls w room k).mono ?_
  rintro e w' ⟨r, rfl, D, hu⟩
  refine ⟨r, rfl, ⟨_, (I.other (hu.mono (fun _ _ f => f))).less (fun q hq => ?_), D, fun _ _ f => f⟩, new_good room k r0 r1, agree_new room k⟩
  rcases hq with f | f
  · exact .inr f
  · exact f.elim
end Go.Proofs.Ytfpbkofjbnmkeaa
