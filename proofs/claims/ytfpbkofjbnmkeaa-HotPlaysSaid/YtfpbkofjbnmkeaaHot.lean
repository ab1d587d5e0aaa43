/- What this text proves: contracts of package hot. Conditions: each theorem's own. -/
import Derived.Test.YtfpbkofjbnmkeaaInsert
import Derived.Test.YtfpbkofjbnmkeaaGhost
namespace Go.Proofs.Ytfpbkofjbnmkeaa
open Go Go.RowKit Go.Shelf Go.Lib
open Go.Proofs
set_option linter.unusedVariables false
set_option linter.unusedSimpArgs false

abbrev By (bs : List Int) : List Value := bs.map (Value.int .u8)
/-- the blocks by their addresses, as they lie: address, slice, bytes. -/
abbrev Vs := List (Int × Value × List Int)
def Vs.pairs (vs : Vs) : List (Value × Value) := vs.map (fun p => (.int .u32 p.1, p.2.1))
structure Hot where
  room : Int
  xs : List Int
  m : Int → Option (List Int)
  k : Int
  gl : List Int
/-- what lies where: map mb, list g, order v, the blocks vs, the list's memory Fg. -/
structure Lies (w : World) (b : Nat) (h : Hot) (F : Nat → Prop) (mb g : Nat) (v : Value) (vs : Vs) (Fg : Nat → Prop) : Prop where
  here : w.heap[b]? = some (.cells #[.int .i64 h.room, .map (some mb), v, pt g] 55 (0, 0))
  order : w.ownsRow 0 23 1 v h.xs.length (U h.xs)
  map : MapAt w Try.prog 23 mb vs.pairs
  cont : ∀ a, (vs.find? (fun p => decide (p.1 = a))).map (·.2.2) = h.m a
  vals : ∀ p ∈ vs, w.ownsRow 0 5 1 p.2.1 p.2.2.length (By p.2.2) ∧ ∀ q, p.2.1.ownBlock = some q → F q ∧ q ≠ b ∧ q ≠ mb ∧ v.ownBlock ≠ some q ∧ ¬ Fg q
  ghost : GList w g h.k h.gl Fg
  fb : F b
  fmb : F mb
  ne : b ≠ mb
  fv : ∀ q, v.ownBlock = some q → F q ∧ q ≠ b ∧ q ≠ mb ∧ ¬ Fg q
  fg : ∀ q, Fg q → F q ∧ q ≠ b ∧ q ≠ mb
  lt : ∀ q, F q → q < w.heap.size
/-- Block b is the cache h; it lies in the blocks of F. -/
def HotAt (w : World) (b : Nat) (h : Hot) (F : Nat → Prop) : Prop := ∃ mb g v vs Fg, Lies w b h F mb g v vs Fg
theorem Lies.upd {S : Nat → Prop} {w w' : World} {b : Nat} {h : Hot} {F : Nat → Prop} {mb g : Nat} {v : Value} {vs : Vs} {Fg : Nat → Prop} (H : Lies w b h F mb g v vs Fg) (hu : Upd S w w') (hs : ∀ k, F k → ¬ S k) : Lies w' b h F mb g v vs Fg :=
  ⟨hu.at H.here (hs b H.fb), ownsRow_upd H.order hu (fun k hk => hs k (H.fv k hk).1), H.map.upd hu (hs mb H.fmb), H.cont, fun p hp => ⟨ownsRow_upd (H.vals p hp).1 hu (fun k hk => hs k ((H.vals p hp).2 k hk).1), (H.vals p hp).2⟩, H.ghost.upd hu (fun k hk => hs k (H.fg k hk).1), H.fb, H.fmb, H.ne, H.fv, H.fg, fun k hk => Nat.lt_of_lt_of_le (H.lt k hk) hu.size⟩
theorem HotAt.upd {S : Nat → Prop} {w w' : World} {b : Nat} {h : Hot} {F : Nat → Prop} (H : HotAt w b h F) (hu : Upd S w w') (hs : ∀ k, F k → ¬ S k) : HotAt w' b h F := by
  obtain ⟨mb, g, v, vs, Fg, H⟩ := H
  exact ⟨mb, g, v, vs, Fg, H.upd hu hs⟩
theorem vs_look (vs : Vs) (a : Int) : alook vs.pairs (.int .u32 a) = (vs.find? (fun p => decide (p.1 = a))).map (·.2.1) := by
  classical
  unfold alook Vs.pairs
  rw [List.find?_map]
  have : ((fun p : Value × Value => decide (p.1 = Value.int .u32 a)) ∘ fun p : Int × Value × List Int => (Value.int .u32 p.1, p.2.1)) = fun p => decide (p.1 = a) := by
    funext p
    simp
  rw [this]
  cases vs.find? (fun p => decide (p.1 = a)) <;> rfl
/-- the order is another one, which lies elsewhere. -/
theorem Lies.turn {S : Nat → Prop} {w w' : World} {b : Nat} {h : Hot} {F : Nat → Prop} {mb g : Nat} {v : Value} {vs : Vs} {Fg : Nat → Prop} (H : Lies w b h F mb g v vs Fg) (hu : Upd S w w')
    (hs : ∀ k, S k → k = b ∨ v.ownBlock = some k) {v' : Value} {xs : List Int} (ho : w'.ownsRow 0 23 1 v' xs.length (U xs)) (hf : ∀ k, v'.ownBlock = some k → v.ownBlock = some k ∨ fresh w w' k)
    (hh : w'.heap[b]? = some (.cells #[.int .i64 h.room, .map (some mb), v', pt g] 55 (0, 0))) :
    Lies w' b { h with xs := xs } (fun k => F k ∨ fresh w w' k) mb g v' vs Fg := by
  have hF : ∀ k, F k → k ≠ b → v.ownBlock ≠ some k → ¬ S k := fun k hk h1 h2 hk' => by
    rcases hs k hk' with e | e
    · exact h1 e
    · exact h2 e
  have old : ∀ k, F k → ¬ fresh w w' k := fun k hk hf => by have := H.lt k hk; have := hf.1; omega
  refine ⟨hh, ho, H.map.upd hu (hF mb H.fmb (fun e => H.ne e.symm) (fun e => (H.fv mb e).2.2.1 rfl)), H.cont, fun p hp => ?_, H.ghost.upd hu (fun k hk => hF k (H.fg k hk).1 (H.fg k hk).2.1 (fun e => (H.fv k e).2.2.2 hk)), .inl H.fb, .inl H.fmb, H.ne, fun k hk => ?_, fun k hk => ⟨.inl (H.fg k hk).1, (H.fg k hk).2⟩, fun k hk => ?_⟩
  · obtain ⟨h1, h2⟩ := H.vals p hp
    refine ⟨ownsRow_upd h1 hu (fun k hk => hF k (h2 k hk).1 (h2 k hk).2.1 (h2 k hk).2.2.2.1), fun q hq => ⟨.inl (h2 q hq).1, (h2 q hq).2.1, (h2 q hq).2.2.1, fun e => ?_, (h2 q hq).2.2.2.2⟩⟩
    rcases hf q e with e | e
    · exact (h2 q hq).2.2.2.1 e
    · exact old q (h2 q hq).1 e
  · rcases hf k hk with e | e
    · exact ⟨.inl (H.fv k e).1, (H.fv k e).2⟩
    · exact ⟨.inr e, fun f => old b H.fb (f ▸ e), fun f => old mb H.fmb (f ▸ e), fun f => old k (H.fg k f).1 e⟩
  · rcases hk with hk | hk
    · exact Nat.lt_of_lt_of_le (H.lt k hk) hu.size
    · exact hk.2
/-- the order behind 'first'. -/
def frontL (xs : List Int) (a : Int) : List Int := a :: xs.erase a
set_option maxHeartbeats 1000000 in
theorem first_calls {w : World} {b : Nat} {h : Hot} {F : Nat → Prop} {mb g : Nat} {v : Value} {vs : Vs} {Fg : Nat → Prop} (H : Lies w b h F mb g v vs Fg) (a : Int) (hn : h.xs.length ≤ 8000) :
    Calls Try.prog 23 #[pt b, .int .u32 a] w fun e w' => e = .returned (.tuple #[]) ∧ (∃ v', Lies w' b { h with xs := frontL h.xs a } (fun k => F k ∨ fresh w w' k) mb g v' vs Fg) ∧ Upd F w w' := by
  have HH := Lib.hid H
  have c2 : w.cell? ⟨b, 2, none⟩ = some v := cell_at H.here 2
  have hfb := fun i => free_at H.here i
  clear H
  by_cases ha : a ∈ h.xs
  · obtain ⟨i, hi1, hi2, hi3, hi4⟩ := idxI_some ha
    obtain ⟨gg, c, rfl, hnc, _, hgl⟩ := owns_pos HH.out.order (by omega)
    have HI := Lib.hid (And.intro hi1 (And.intro hi3 hi4)); clear hi1 hi3 hi4
    have hpos : decide ((0 : Int) ≤ (i : Int)) = true := decide_eq_true (by omega)
    go_enter Try.func23, Try.ntmps23
    go_wp2_with fail
    refine (index_calls HH.out.order a (by unfold maxLen; omega)).mono ?_
    rintro e w1 ⟨rfl, rfl⟩
    rw [HI.out.1]
    go_wp2_with fail
    refine (delete_calls HH.out.order (i := i) hi2).mono ?_
    rintro e w2 ⟨rfl, ho2, hu2⟩
    rw [HI.out.2.2] at ho2
    have hgb : gg ≠ b := fun e => (HH.out.fv gg rfl).2.1 e
    have hb2 : w2.heap[b]? = some (.cells #[.int .i64 h.room, .map (some mb), .slice (some ⟨gg, 0, none⟩) h.xs.length c, pt g] 55 (0, 0)) := hu2.at HH.out.here (fun e => hgb e.symm)
    have d2 : w2.cell? ⟨b, 2, none⟩ = some (.slice (some ⟨gg, 0, none⟩) h.xs.length c) := cell_at hb2 2
    have e2 : w2.frozen? ⟨b, 2, none⟩ = false := free_at hb2 2
    have HB2 := Lib.hid (And.intro hb2 (And.intro ho2 hu2))
    clear hb2 ho2 hu2
    go_wp2_with fail
    refine calls_world fun W hW => ?_
    have hvb : W.heap[w2.heap.size]? = some (.cells #[.int .u32 a] 23 (0, 0)) := by rw [hW]; exact (by have := heap_alloc_last (w2.setCell ⟨b, 2, none⟩ (.slice (some ⟨gg, 0, none⟩) (h.xs.length - 1) c)) (.cells #[.int .u32 a] 23); rwa [World.size_setCell] at this)
    have huW : Upd (fun k => k = b) w2 W := by rw [hW]; exact ((Upd.refl (fun k => k = b) w2).setCell (p := ⟨b, 2, none⟩) (fun _ => rfl) _).alloc _
    have hgW : W.heap[b]? = some (.cells #[.int .i64 h.room, .map (some mb), .slice (some ⟨gg, 0, none⟩) (h.xs.length - 1) c, pt g] 55 (0, 0)) := by
      rw [hW]
      exact at_alloc_old (by rw [at_setCell_same HB2.out.1 2]; rfl) _
    have hoW : W.ownsRow 0 23 1 (.slice (some ⟨gg, 0, none⟩) (h.xs.length - 1) c) (h.xs.length - 1) (U (h.xs.erase a)) := ownsRow_upd HB2.out.2.1 huW (fun k hk e => (HH.out.fv k (by exact hk)).2.1 e)
    have HW := Lib.hid (And.intro hvb (And.intro huW hgW))
    clear hW hvb huW hgW
    refine (insert_calls hoW a HW.out.1 (fun e => ?_) (by omega) (Nat.zero_le _)).mono ?_
    · have h1 := HH.out.lt w2.heap.size (HH.out.fv w2.heap.size (by exact e)).1
      have h2 := HB2.out.2.2.size; omega
    rintro e w3 ⟨v3, rfl, ho3, hu3, hf3⟩
    obtain ⟨a3, c3, hv3⟩ := (owns_reads ho3).len
    subst hv3
    have hb3 : w3.heap[b]? = some (.cells #[.int .i64 h.room, .map (some mb), .slice (some ⟨gg, 0, none⟩) (h.xs.length - 1) c, pt g] 55 (0, 0)) := hu3.at HW.out.2.2 (fun e => (HH.out.fv b (by exact e)).2.1 rfl)
    have d3 : w3.cell? ⟨b, 2, none⟩ = some (.slice (some ⟨gg, 0, none⟩) (h.xs.length - 1) c) := cell_at hb3 2
    have e3 : w3.frozen? ⟨b, 2, none⟩ = false := free_at hb3 2
    have HB3 := Lib.hid (And.intro hb3 (And.intro ho3 (And.intro hu3 hf3)))
    clear hb3 ho3 hu3 hf3 hoW
    go_wp2_with fail
    go_end0
    have hu03 : Upd (fun k => k = b ∨ (Value.slice (some ⟨gg, 0, none⟩) h.xs.length c).ownBlock = some k) w1 w3 := ((HB2.out.2.2.mono (fun k _ f => .inr (by rw [f]; rfl))).trans (HW.out.2.1.mono (S' := fun k => k = b ∨ (Value.slice (some ⟨gg, 0, none⟩) h.xs.length c).ownBlock = some k) (fun k _ f => .inl f)) (fun _ _ f => f)).trans (HB3.out.2.2.1.mono (S' := fun k => k = b ∨ (Value.slice (some ⟨gg, 0, none⟩) h.xs.length c).ownBlock = some k) (fun k _ f => .inr f)) (fun _ _ f => f)
    have hu04 := hu03.setCell (p := ⟨b, 2, none⟩) (fun _ => .inl rfl) (.slice a3 (h.xs.length - 1 + 1) c3)
    have hb4 : (w3.setCell ⟨b, 2, none⟩ (.slice a3 (h.xs.length - 1 + 1) c3)).heap[b]? = some (.cells #[.int .i64 h.room, .map (some mb), (.slice a3 (h.xs.length - 1 + 1) c3), pt g] 55 (0, 0)) := by rw [at_setCell_same HB3.out.1 2]; rfl
    have hfr : ∀ k, (Value.slice a3 (h.xs.length - 1 + 1) c3).ownBlock = some k → (Value.slice (some ⟨gg, 0, none⟩) h.xs.length c).ownBlock = some k ∨ fresh w1 (w3.setCell ⟨b, 2, none⟩ (.slice a3 (h.xs.length - 1 + 1) c3)) k := fun k hk => by
      rcases HB3.out.2.2.2 k hk with e | e
      · exact .inl (by exact e)
      · have h1 := e.1; have h2 := e.2; have h3 := HW.out.2.1.size; have h4 := HB2.out.2.2.size
        exact .inr ⟨by omega, by rw [World.size_setCell]; omega⟩
    have hbv : (Value.slice a3 (h.xs.length - 1 + 1) c3).ownBlock ≠ some b := fun e => by
      rcases hfr b e with e | e
      · exact (HH.out.fv b e).2.1 rfl
      · have := HH.out.lt b HH.out.fb; have := e.1; omega
    have ho4 := ownsRow_upd (S := fun k => k = b) HB3.out.2.1 ((Upd.refl (fun k => k = b) w3).setCell (p := ⟨b, 2, none⟩) (fun _ => rfl) (.slice a3 (h.xs.length - 1 + 1) c3)) (fun k hk e => hbv (e ▸ hk))
    have hlen : (h.xs.length - 1) + 1 = (frontL h.xs a).length := by unfold frontL; rw [List.length_cons, List.length_erase_of_mem ha]
    have ho5 : (w3.setCell ⟨b, 2, none⟩ (.slice a3 (h.xs.length - 1 + 1) c3)).ownsRow 0 23 1 (.slice a3 (h.xs.length - 1 + 1) c3) (frontL h.xs a).length (U (frontL h.xs a)) := by rw [← hlen]; exact ho4
    refine ⟨rfl, ⟨(.slice a3 (h.xs.length - 1 + 1) c3), HH.out.turn hu04 (fun k hk => hk) ho5 hfr hb4⟩, hu04.mono (fun k hk f => ?_)⟩
    rcases f with f | f
    · rw [f]; exact HH.out.fb
    · exact (HH.out.fv k f).1
  · have hneg : decide ((0 : Int) ≤ -1) = false := rfl
    go_enter Try.func23, Try.ntmps23
    go_wp2_with fail
    refine (index_calls HH.out.order a (by unfold maxLen; omega)).mono ?_
    rintro e w1 ⟨rfl, rfl⟩
    rw [idxI_none ha]
    go_wp2_with fail
    refine calls_world fun W hW => ?_
    have hvb : W.heap[w1.heap.size]? = some (.cells #[.int .u32 a] 23 (0, 0)) := by rw [hW]; exact heap_alloc_last w1 _
    have huW : Upd (fun k => k = b) w1 W := by rw [hW]; exact (Upd.refl _ w1).alloc _
    have hgW : W.heap[b]? = some (.cells #[.int .i64 h.room, .map (some mb), v, pt g] 55 (0, 0)) := by
      rw [hW]
      exact at_alloc_old HH.out.here _
    have hoW : W.ownsRow 0 23 1 (v) h.xs.length (U (h.xs.erase a)) := ownsRow_upd (by rw [List.erase_of_not_mem ha]; exact HH.out.order) huW (fun k hk e => (HH.out.fv k hk).2.1 e)
    have HW := Lib.hid (And.intro hvb (And.intro huW hgW))
    clear hW hvb huW hgW
    refine (insert_calls hoW a HW.out.1 (fun e => ?_) (by omega) (Nat.zero_le _)).mono ?_
    · have h1 := HH.out.lt w1.heap.size (HH.out.fv w1.heap.size e).1
      omega
    rintro e w3 ⟨v3, rfl, ho3, hu3, hf3⟩
    obtain ⟨a3, c3, hv3⟩ := (owns_reads ho3).len
    subst hv3
    have hb3 : w3.heap[b]? = some (.cells #[.int .i64 h.room, .map (some mb), v, pt g] 55 (0, 0)) := hu3.at HW.out.2.2 (fun e => (HH.out.fv b e).2.1 rfl)
    have d3 : w3.cell? ⟨b, 2, none⟩ = some (v) := cell_at hb3 2
    have e3 : w3.frozen? ⟨b, 2, none⟩ = false := free_at hb3 2
    have HB3 := Lib.hid (And.intro hb3 (And.intro ho3 (And.intro hu3 hf3)))
    clear hb3 ho3 hu3 hf3 hoW
    go_wp2_with fail
    go_end0
    have hu03 : Upd (fun k => k = b ∨ v.ownBlock = some k) w1 w3 := (HW.out.2.1.mono (fun k _ f => .inl f)).trans (HB3.out.2.2.1.mono (S' := fun k => k = b ∨ v.ownBlock = some k) (fun k _ f => .inr f)) (fun _ _ f => f)
    have hu04 := hu03.setCell (p := ⟨b, 2, none⟩) (fun _ => .inl rfl) (.slice a3 (h.xs.length + 1) c3)
    have hb4 : (w3.setCell ⟨b, 2, none⟩ (.slice a3 (h.xs.length + 1) c3)).heap[b]? = some (.cells #[.int .i64 h.room, .map (some mb), (.slice a3 (h.xs.length + 1) c3), pt g] 55 (0, 0)) := by rw [at_setCell_same HB3.out.1 2]; rfl
    have hfr : ∀ k, (Value.slice a3 (h.xs.length + 1) c3).ownBlock = some k → v.ownBlock = some k ∨ fresh w1 (w3.setCell ⟨b, 2, none⟩ (.slice a3 (h.xs.length + 1) c3)) k := fun k hk => by
      rcases HB3.out.2.2.2 k hk with e | e
      · exact .inl e
      · have h1 := e.1; have h2 := e.2; have h3 := HW.out.2.1.size; have h4 := Nat.le_refl w1.heap.size
        exact .inr ⟨by omega, by rw [World.size_setCell]; omega⟩
    have hbv : (Value.slice a3 (h.xs.length + 1) c3).ownBlock ≠ some b := fun e => by
      rcases hfr b e with e | e
      · exact (HH.out.fv b e).2.1 rfl
      · have := HH.out.lt b HH.out.fb; have := e.1; omega
    have ho4 := ownsRow_upd (S := fun k => k = b) HB3.out.2.1 ((Upd.refl (fun k => k = b) w3).setCell (p := ⟨b, 2, none⟩) (fun _ => rfl) (.slice a3 (h.xs.length + 1) c3)) (fun k hk e => hbv (e ▸ hk))
    have hlen : h.xs.length + 1 = (frontL h.xs a).length := by unfold frontL; rw [List.length_cons, List.erase_of_not_mem ha]
    have ho5 : (w3.setCell ⟨b, 2, none⟩ (.slice a3 (h.xs.length + 1) c3)).ownsRow 0 23 1 (.slice a3 (h.xs.length + 1) c3) (frontL h.xs a).length (U (frontL h.xs a)) := by rw [← hlen]; exact ho4
    refine ⟨rfl, ⟨(.slice a3 (h.xs.length + 1) c3), HH.out.turn hu04 (fun k hk => hk) ho5 hfr hb4⟩, hu04.mono (fun k hk f => ?_)⟩
    rcases f with f | f
    · rw [f]; exact HH.out.fb
    · exact (HH.out.fv k f).1
/-! ### the blocks -/
def Vs.del (vs : Vs) (a : Int) : Vs := vs.filter (fun p => decide (p.1 ≠ a))
def Vs.put (vs : Vs) (a : Int) (val : Value) (bs : List Int) : Vs := if vs.any (fun p => decide (p.1 = a)) then vs.map (fun p => if p.1 = a then (a, val, bs) else p) else vs ++ [(a, val, bs)]
def setM (m : Int → Option (List Int)) (a : Int) (x : Option (List Int)) : Int → Option (List Int) := fun b => if a = b then x else m b
theorem vs_del (vs : Vs) (a : Int) : adel vs.pairs (.int .u32 a) = (vs.del a).pairs := by
  classical
  unfold adel Vs.pairs Vs.del
  rw [List.filter_map]
  congr 1
  refine List.filter_congr (fun p _ => ?_)
  simp
theorem vs_put (vs : Vs) (a : Int) (val : Value) (bs : List Int) : aput vs.pairs (.int .u32 a) val = (vs.put a val bs).pairs := by
  classical
  unfold aput Vs.put
  rw [vs_look]
  have hs : ((vs.find? (fun p => decide (p.1 = a))).map (·.2.1)).isSome = vs.any (fun p => decide (p.1 = a)) := by
    rw [Option.isSome_map, Bool.eq_iff_iff, List.find?_isSome, List.any_eq_true]
  by_cases h : vs.any (fun p => decide (p.1 = a)) = true
  · rw [if_pos h, if_pos (by rw [hs]; exact h)]
    unfold Vs.pairs
    rw [List.map_map, List.map_map]
    refine List.map_congr_left (fun p _ => ?_)
    simp only [Function.comp_apply]
    by_cases e : p.1 = a
    · rw [if_pos e, if_pos (by rw [e])]
    · rw [if_neg e, if_neg (fun f => e (by injection f))]
  · rw [if_neg h, if_neg (by rw [hs]; exact h)]
    unfold Vs.pairs
    rw [List.map_append]
    rfl
theorem find_del (vs : Vs) (a b : Int) : ((vs.del a).find? (fun p => decide (p.1 = b))).map (·.2.2) = setM (fun x => (vs.find? (fun p => decide (p.1 = x))).map (·.2.2)) a none b := by
  unfold setM Vs.del
  by_cases e : a = b
  · subst e
    rw [if_pos rfl]
    have : (vs.filter (fun p => decide (p.1 ≠ a))).find? (fun p => decide (p.1 = a)) = none := by
      rw [List.find?_eq_none]
      intro p hp
      have := (List.mem_filter.1 hp).2
      simpa using this
    rw [this]
    rfl
  · rw [if_neg e]
    congr 1
    induction vs with
    | nil => rfl
    | cons p vs ih =>
      by_cases h : p.1 = a
      · rw [List.filter_cons_of_neg (by simpa using h), ih, List.find?_cons_of_neg (by simp only [decide_eq_true_eq]; exact fun f => e (h.symm.trans f))]
      · rw [List.filter_cons_of_pos (by simpa using h), List.find?_cons, List.find?_cons, ih]
theorem find_put (vs : Vs) (a : Int) (val : Value) (bs : List Int) (b : Int) : ((vs.put a val bs).find? (fun p => decide (p.1 = b))).map (·.2.2) = setM (fun x => (vs.find? (fun p => decide (p.1 = x))).map (·.2.2)) a (some bs) b := by
  unfold setM Vs.put
  by_cases h : vs.any (fun p => decide (p.1 = a)) = true
  · rw [if_pos h, List.find?_map]
    have hq : ((fun p : Int × Value × List Int => decide (p.1 = b)) ∘ fun p : Int × Value × List Int => if p.1 = a then (a, val, bs) else p) = fun p => decide (p.1 = b) := by
      funext p
      simp only [Function.comp_apply]
      by_cases e : p.1 = a
      · rw [if_pos e, e]
      · rw [if_neg e]
    rw [hq]
    by_cases e : a = b
    · subst e
      rw [if_pos rfl]
      obtain ⟨q, hq1, hq2⟩ := List.any_eq_true.1 h
      cases hf : vs.find? (fun p => decide (p.1 = a)) with
      | none => exact absurd hq2 (by simpa using List.find?_eq_none.1 hf q hq1)
      | some p =>
        have hp : p.1 = a := by simpa using List.find?_some hf
        simp [hp]
    · rw [if_neg e]
      show _ = (vs.find? (fun p => decide (p.1 = b))).map (·.2.2)
      cases hf : vs.find? (fun p => decide (p.1 = b)) with
      | none => rfl
      | some p =>
        have hp : p.1 = b := by simpa using List.find?_some hf
        have : ¬ p.1 = a := fun f => e (f.symm.trans hp)
        simp [this]
  · rw [if_neg h, List.find?_append]
    have hn : ∀ q ∈ vs, ¬ q.1 = a := fun q hq e => h (List.any_eq_true.2 ⟨q, hq, by simpa using e⟩)
    by_cases e : a = b
    · subst e
      rw [if_pos rfl]
      have : vs.find? (fun p => decide (p.1 = a)) = none := by
        rw [List.find?_eq_none]
        intro q hq
        simpa using hn q hq
      rw [this]
      simp
    · rw [if_neg e]
      show _ = (vs.find? (fun p => decide (p.1 = b))).map (·.2.2)
      cases hf : vs.find? (fun p => decide (p.1 = b)) with
      | none => simp [e]
      | some p => simp
theorem mem_put {vs : Vs} {a : Int} {val : Value} {bs : List Int} {p : Int × Value × List Int} (h : p ∈ vs.put a val bs) : p = (a, val, bs) ∨ p ∈ vs := by
  unfold Vs.put at h
  split at h
  · obtain ⟨q, hq, rfl⟩ := List.mem_map.1 h
    split
    · exact .inl rfl
    · exact .inr hq
  · rcases List.mem_append.1 h with h | h
    · exact .inr h
    · exact .inl (List.mem_singleton.1 h)
theorem Lies.del {w w' : World} {b : Nat} {h : Hot} {F : Nat → Prop} {mb g : Nat} {v : Value} {vs : Vs} {Fg : Nat → Prop} (H : Lies w b h F mb g v vs Fg) (a : Int) (hm : MapAt w' Try.prog 23 mb (adel vs.pairs (.int .u32 a))) (hu : Upd (fun k => k = mb) w w') :
    Lies w' b { h with m := setM h.m a none } F mb g v (vs.del a) Fg := by
  refine ⟨hu.at H.here H.ne, ownsRow_upd H.order hu (fun k hk e => (H.fv k hk).2.2.1 e), by rw [← vs_del]; exact hm, fun b => ?_, fun p hp => ?_, H.ghost.upd hu (fun k hk e => (H.fg k hk).2.2 e), H.fb, H.fmb, H.ne, H.fv, H.fg, fun k hk => Nat.lt_of_lt_of_le (H.lt k hk) hu.size⟩
  · rw [find_del]
    show setM _ a none b = setM h.m a none b
    congr 1
    funext x
    exact H.cont x
  · obtain ⟨h1, h2⟩ := H.vals p (List.filter_sublist.subset hp)
    exact ⟨ownsRow_upd h1 hu (fun k hk e => (h2 k hk).2.2.1 e), h2⟩
theorem Lies.put {w w' : World} {b : Nat} {h : Hot} {F : Nat → Prop} {mb g : Nat} {v : Value} {vs : Vs} {Fg : Nat → Prop} (H : Lies w b h F mb g v vs Fg) (a : Int) {val : Value} {bs : List Int} (hm : MapAt w' Try.prog 23 mb (aput vs.pairs (.int .u32 a) val)) (hu : Upd (fun k => k = mb) w w')
    (hv : w'.ownsRow 0 5 1 val bs.length (By bs)) (hf : ∀ q, val.ownBlock = some q → ¬ F q ∧ q < w'.heap.size) :
    Lies w' b { h with m := setM h.m a (some bs) } (fun k => F k ∨ val.ownBlock = some k) mb g v (vs.put a val bs) Fg := by
  refine ⟨hu.at H.here H.ne, ownsRow_upd H.order hu (fun k hk e => (H.fv k hk).2.2.1 e), by rw [← vs_put]; exact hm, fun b => ?_, fun p hp => ?_, H.ghost.upd hu (fun k hk e => (H.fg k hk).2.2 e), .inl H.fb, .inl H.fmb, H.ne, fun k hk => ⟨.inl (H.fv k hk).1, (H.fv k hk).2⟩, fun k hk => ⟨.inl (H.fg k hk).1, (H.fg k hk).2⟩, fun k hk => ?_⟩
  · rw [find_put]
    show setM _ a (some bs) b = setM h.m a (some bs) b
    congr 1
    funext x
    exact H.cont x
  · rcases mem_put hp with rfl | hp
    · exact ⟨hv, fun q hq => ⟨.inr hq, fun e => (hf q hq).1 (by rw [e]; exact H.fb), fun e => (hf q hq).1 (by rw [e]; exact H.fmb), fun e => (hf q hq).1 (H.fv q e).1, fun e => (hf q hq).1 (H.fg q e).1⟩⟩
    · obtain ⟨h1, h2⟩ := H.vals p hp
      exact ⟨ownsRow_upd h1 hu (fun k hk e => (h2 k hk).2.2.1 e), fun q hq => ⟨.inl (h2 q hq).1, (h2 q hq).2⟩⟩
  · rcases hk with hk | hk
    · exact Nat.lt_of_lt_of_le (H.lt k hk) hu.size
    · exact (hf k hk).2
end Go.Proofs.Ytfpbkofjbnmkeaa
