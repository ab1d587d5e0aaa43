/- What this text proves: contracts of the functions of package ghost. Conditions: each theorem's own. -/
import Derived.Test.YtfpbkofjbnmkeaaMapW
import Derived.Test.YtfpbkofjbnmkeaaChecked
import Derived.RegionTactic
import Derived.ChangeAlike
import Derived.BigRegion
import Derived.StillTailTactics
import Derived.Outline
import Derived.Lib.Hide
namespace Go.Proofs.Ytfpbkofjbnmkeaa
open Go Go.RowKit
open Go.Maps (Keyed)
open Go.Proofs

theorem kU32 : Keyed Try.prog 23 := Maps.int_keyed Try.underlying23
theorem zLink (w : World) : (zeroValue 73).run Try.prog w = .ok (.pointer none) w := by kernel_rfl
def linkMap (ns : List (Nat × Int)) : List (Value × Value) := ns.reverse.map (fun n => (.int .u32 n.2, pt n.1))

/-- Block l is a list with room for so many, with just the links ns, the latest first; bm: its map's block. -/
structure Ghost (w : World) (l bm : Nat) (room : Int) (ns : List (Nat × Int)) : Prop where
  cm : w.cell? ⟨l, 3, none⟩ = some (.map (some bm))
  cr : w.cell? ⟨l, 4, none⟩ = some (.int .i64 room)
  ring : Ring w l ns
  blk : ∀ x ∈ l :: ns.map (·.1), ∃ c e, w.heap[x]? = some (.cells c e (0, 0))
  map : MapAt w Try.prog 23 bm (linkMap ns)
  nodup : (l :: ns.map (·.1)).Nodup
  size : (ns.length : Int) ≤ room
  most : room ≤ 4096

/-- the blocks of a list. -/
def gfoot (l bm : Nat) (ns : List (Nat × Int)) (k : Nat) : Prop := k = bm ∨ k ∈ l :: ns.map (·.1)

theorem Ghost.wf {w : World} {l bm : Nat} {room : Int} {ns : List (Nat × Int)} (h : Ghost w l bm room ns) : ∀ n ∈ ns, (Lit.int .u32 n.2).wf = true := by
  intro n hn
  obtain ⟨kl, hkl⟩ := h.map.keys (.int .u32 n.2, pt n.1) (List.mem_map.2 ⟨n, by simpa using hn, rfl⟩)
  by_cases hw : (Lit.int .u32 n.2).wf = true
  · exact hw
  · simp [keyOf, Try.underlying23, mapKey, hw] at hkl

theorem Ghost.apart {w : World} {l bm : Nat} {room : Int} {ns : List (Nat × Int)} (h : Ghost w l bm room ns) : bm ∉ l :: ns.map (·.1) := fun hm => by
  obtain ⟨c, e, h1⟩ := h.blk bm hm
  obtain ⟨⟨es, clk, h2, _⟩, _⟩ := h.map
  rw [h1] at h2
  cases h2
theorem Ghost.free {w : World} {l bm : Nat} {room : Int} {ns : List (Nat × Int)} (h : Ghost w l bm room ns) : ∀ x ∈ l :: ns.map (·.1), ∀ i, w.frozen? ⟨x, i, none⟩ = false := fun x hx i => by
  obtain ⟨c, e, h1⟩ := h.blk x hx
  exact free_at h1 i
theorem Ghost.lt {w : World} {l bm : Nat} {room : Int} {ns : List (Nat × Int)} (h : Ghost w l bm room ns) : ∀ x ∈ l :: ns.map (·.1), x < w.heap.size := fun x hx => by
  obtain ⟨c, e, h1⟩ := h.blk x hx
  exact lt_of_at h1
theorem Ghost.foot {w : World} {l bm : Nat} {room : Int} {ns : List (Nat × Int)} (h : Ghost w l bm room ns) {k : Nat} (hk : gfoot l bm ns k) : k < w.heap.size := by
  rcases hk with rfl | hk
  · exact h.map.lt
  · exact h.lt k hk
/-- A list is as it was where its blocks are. -/
theorem Ghost.upd {S : Nat → Prop} {w w' : World} {l bm : Nat} {room : Int} {ns : List (Nat × Int)} (h : Ghost w l bm room ns) (hu : Upd S w w') (hs : ∀ k, gfoot l bm ns k → ¬ S k) : Ghost w' l bm room ns := by
  have hb : ∀ x ∈ l :: ns.map (·.1), w'.heap[x]? = w.heap[x]? := fun x hx => hu.block x (h.lt x hx) (hs x (.inr hx))
  have hc : ∀ x ∈ l :: ns.map (·.1), ∀ i, w'.cell? ⟨x, i, none⟩ = w.cell? ⟨x, i, none⟩ := fun x hx i => World.cell?_of_block (hb x hx)
  refine ⟨(hc l (by simp) 3).trans h.cm, (hc l (by simp) 4).trans h.cr, ?_, fun x hx => ?_, h.map.upd hu (hs bm (.inl rfl)), h.nodup, h.size, h.most⟩
  · obtain ⟨q, h1, h2, h3⟩ := h.ring
    refine ⟨q, h1.congr (fun x hx => ⟨hc x (by simp at hx ⊢; exact .inr hx) 0, hc x (by simp at hx ⊢; exact .inr hx) 1⟩) (fun x hx => hc x ((List.dropLast_sublist _).subset hx) 2), (hc q h1.last_mem 2).trans h2, (hc l (by simp) 1).trans h3⟩
  · obtain ⟨c, e, h1⟩ := h.blk x hx
    exact ⟨c, e, (hb x hx).trans h1⟩

theorem Ghost.same {w w' : World} {l bm : Nat} {room : Int} {ns : List (Nat × Int)} (h : Ghost w l bm room ns) (hw : w'.heap = w.heap) : Ghost w' l bm room ns := by
  have hc : ∀ p, w'.cell? p = w.cell? p := fun p => World.cell?_of_block (by rw [hw])
  refine ⟨(hc _).trans h.cm, (hc _).trans h.cr, ?_, fun x hx => by rw [hw]; exact h.blk x hx, h.map.of_block (by rw [hw]), h.nodup, h.size, h.most⟩
  obtain ⟨q, h1, h2, h3⟩ := h.ring
  exact ⟨q, h1.congr (fun x _ => ⟨hc _, hc _⟩) (fun x _ => hc _), (hc _).trans h2, (hc _).trans h3⟩

theorem linkMap_nodup {ns : List (Nat × Int)} : ((linkMap ns).map (·.1)).Nodup ↔ (ns.map (·.2)).Nodup := by
  simp only [linkMap, List.map_map, List.map_reverse, (List.reverse_perm _).nodup_iff]
  rw [show ((fun x : Value × Value => x.1) ∘ fun n : Nat × Int => (Value.int .u32 n.2, pt n.1)) = (Value.int .u32) ∘ (fun n : Nat × Int => n.2) from rfl, ← List.map_map]
  simp only [List.Nodup, List.pairwise_map]
  constructor <;> intro h <;> refine h.imp ?_ <;> intro a b hab e <;> apply hab
  · rw [e]
  · injection e

theorem Ghost.once {w : World} {l bm : Nat} {room : Int} {ns : List (Nat × Int)} (h : Ghost w l bm room ns) : (ns.map (·.2)).Nodup := linkMap_nodup.1 h.map.once

theorem alook_linkMap {ns : List (Nat × Int)} (h : (ns.map (·.2)).Nodup) (a : Int) : (a ∉ ns.map (·.2) ∧ alook (linkMap ns) (.int .u32 a) = none) ∨ ∃ s t x, ns = s ++ (x, a) :: t ∧ alook (linkMap ns) (.int .u32 a) = some (pt x) := by
  classical
  by_cases ha : a ∈ ns.map (·.2)
  · right
    obtain ⟨n, hn, rfl⟩ := List.mem_map.1 ha
    obtain ⟨s, t, rfl⟩ := List.append_of_mem hn
    refine ⟨s, t, n.1, rfl, ?_⟩
    have hm : (Value.int .u32 n.2, pt n.1) ∈ linkMap (s ++ n :: t) := List.mem_map.2 ⟨n, by simp, rfl⟩
    have hnd := linkMap_nodup.2 h
    unfold alook
    cases hf : (linkMap (s ++ n :: t)).find? (fun p => decide (p.1 = Value.int .u32 n.2)) with
    | none => have := List.find?_eq_none.1 hf _ hm; simp at this
    | some p =>
      have hp1 : p.1 = Value.int .u32 n.2 := by simpa using List.find?_some hf
      have hpm := List.mem_of_find?_eq_some hf
      obtain ⟨n', hn', rfl⟩ := List.mem_map.1 hpm
      simp only [Value.int.injEq, true_and] at hp1
      have : n' = n := by
        have hn2 : n' ∈ s ++ n :: t := List.mem_reverse.1 hn'
        have inj := List.pairwise_map.1 h
        by_cases e : n' = n
        · exact e
        · exact absurd hp1 (by
            rcases List.mem_append.1 hn2 with hs | hs
            · exact (List.pairwise_append.1 inj).2.2 n' hs n (by simp)
            · rcases List.mem_cons.1 hs with rfl | hs
              · exact absurd rfl e
              · exact fun e' => (List.pairwise_cons.1 (List.pairwise_append.1 inj).2.1).1 n' hs e'.symm)
      rw [this]
      rfl
  · left
    refine ⟨ha, ?_⟩
    simp only [alook, Option.map_eq_none_iff, List.find?_eq_none, linkMap, List.mem_map, List.mem_reverse, decide_eq_true_eq]
    rintro p ⟨n, hn, rfl⟩ e
    injection e with _ e
    exact ha (List.mem_map.2 ⟨n, hn, e⟩)

theorem adel_linkMap {s t : List (Nat × Int)} {x : Nat} {a : Int} (h : ((s ++ (x, a) :: t).map (·.2)).Nodup) : adel (linkMap (s ++ (x, a) :: t)) (.int .u32 a) = linkMap (s ++ t) := by
  classical
  simp only [List.map_append, List.map_cons, List.nodup_append, List.nodup_cons] at h
  obtain ⟨h1, ⟨h2, h3⟩, h4⟩ := h
  simp only [adel, linkMap, List.reverse_append, List.reverse_cons, List.map_append, List.filter_append, List.map_cons, List.map_nil]
  have e1 : ∀ u : List (Nat × Int), a ∉ u.map (·.2) → (u.reverse.map (fun n => (Value.int .u32 n.2, pt n.1))).filter (fun p => decide (p.1 ≠ Value.int .u32 a)) = u.reverse.map (fun n => (Value.int .u32 n.2, pt n.1)) := by
    intro u hu
    refine List.filter_eq_self.2 (fun p hp => ?_)
    obtain ⟨n, hn, rfl⟩ := List.mem_map.1 hp
    simp only [decide_eq_true_eq]
    intro e
    injection e with _ e
    exact hu (List.mem_map.2 ⟨n, by simpa using hn, e⟩)
  rw [e1 s (fun hm => h4 a hm a (by simp) rfl), e1 t h2]
  simp

set_option maxHeartbeats 1000000 in
theorem cut_calls (w : World) (l x p q bm : Nat) (a : Int) (m : List (Value × Value)) (hw : (Lit.int .u32 a).wf = true)
   (c0 : w.cell? ⟨x,0,none⟩ = some (.int .u32 a)) (c1 : w.cell? ⟨x,1,none⟩ = some (.pointer (some ⟨p,0,none⟩))) (c2 : w.cell? ⟨x,2,none⟩ = some (.pointer (some ⟨q,0,none⟩)))
   (d1 : w.cell? ⟨p,2,none⟩ = some (.pointer (some ⟨x,0,none⟩))) (d2 : w.cell? ⟨q,1,none⟩ = some (.pointer (some ⟨x,0,none⟩)))
   (f1 : w.frozen? ⟨p,2,none⟩ = false) (f2 : w.frozen? ⟨q,1,none⟩ = false)
   (hp : p ≠ x) (hq : q ≠ x) (hpb : p ≠ bm) (hqb : q ≠ bm)
   (e1 : w.cell? ⟨l,3,none⟩ = some (.map (some bm))) (e2 : MapAt w Try.prog 23 bm m) :
   Calls Try.prog 32 #[.pointer (some ⟨l,0,none⟩), .pointer (some ⟨x,0,none⟩)] w fun e w' => e = .returned (.tuple #[]) ∧
     MapAt w' Try.prog 23 bm (adel m (.int .u32 a)) ∧ Upd (· = bm) ((w.setCell ⟨p,2,none⟩ (pt q)).setCell ⟨q,1,none⟩ (pt p)) w' := by
  have E2 := Lib.hid e2; clear e2
  go_enter Try.func32, Try.ntmps32
  go_wp2
  go_region
  go_wp2
  go_region
  go_wp2
  refine wp_world fun W hW => ?_
  have k1 : W.cell? ⟨l,3,none⟩ = some (.map (some bm)) := by rw [hW]; simp [World.cell?_setCell_other, e1]
  have k2 : W.cell? ⟨x,0,none⟩ = some (.int .u32 a) := by rw [hW]; simp [World.cell?_setCell_other, c0]
  have HW := Lib.hid hW; clear hW c0 c1 c2 d1 d2 f1 f2 e1
  go_still_tail 8, (by kernel_rfl)
  have hmap : MapAt W.drew Try.prog 23 bm m := by
    refine E2.out.of_block ?_
    show W.heap[bm]? = _
    rw [HW.out]
    show ((w.setCell _ _).setCell _ _).heap[bm]? = _
    rw [Below.heap_setCell _ _ _ _ (Ne.symm hqb), Below.heap_setCell _ _ _ _ (Ne.symm hpb)]
  refine wpl_delete rfl (.tmp 27) (.tmp 31) 72 23 rfl 73 kU32 Try.underlying72 bm m hmap rfl _ _ (Maps.keyOf_int_mk Try.underlying23 hw) rfl ?_
  intro w' hm hu
  refine wpList_nil ?_
  go_end0
  refine ⟨rfl, hm, ?_⟩
  have := HW.out
  subst this
  exact ⟨hu.os, hu.tape, hu.output, hu.size, hu.block⟩

theorem blk_setCell {w : World} {x b i : Nat} {v : Value} (h : ∃ c e, w.heap[x]? = some (.cells c e (0, 0))) : ∃ c e, (w.setCell ⟨b, i, none⟩ v).heap[x]? = some (.cells c e (0, 0)) := by
  obtain ⟨c, e, h⟩ := h
  by_cases hx : x = b
  · subst hx; exact ⟨_, _, at_setCell_same h i v⟩
  · exact ⟨c, e, (at_setCell_other i v hx).trans h⟩

theorem nextOf_mem (l : Nat) (t : List (Nat × Int)) : nextOf l t ∈ l :: t.map (·.1) := by cases t <;> simp [nextOf]

/-- The list behind a cut. -/
theorem Ghost.cutAt {w w' : World} {l bm x : Nat} {a : Int} {room : Int} {s t : List (Nat × Int)} (h : Ghost w l bm room (s ++ (x, a) :: t)) {p : Nat}
    (hm : MapAt w' Try.prog 23 bm (adel (linkMap (s ++ (x, a) :: t)) (.int .u32 a)))
    (hp : p ∈ l :: s.map (·.1)) (hring : w'.cell? ⟨p, 2, none⟩ = some (pt (nextOf l t)) → w'.cell? ⟨nextOf l t, 1, none⟩ = some (pt p) →
       (∀ y i, y ∈ l :: (s ++ t).map (·.1) → (y, i) ≠ (p, 2) → (y, i) ≠ (nextOf l t, 1) → w'.cell? ⟨y, i, none⟩ = w.cell? ⟨y, i, none⟩) → Ring w' l (s ++ t))
    (c1 : ∃ v, w.cell? ⟨p, 2, none⟩ = some v) (c2 : ∃ v, w.cell? ⟨nextOf l t, 1, none⟩ = some v)
    (hu : Upd (· = bm) ((w.setCell ⟨p,2,none⟩ (pt (nextOf l t))).setCell ⟨nextOf l t,1,none⟩ (pt p)) w') :
    Ghost w' l bm room (s ++ t) ∧ Upd (gfoot l bm (s ++ (x, a) :: t)) w w' := by
  obtain ⟨v1, c1⟩ := c1
  obtain ⟨v2, c2⟩ := c2
  have hsub : (l :: (s ++ t).map (·.1)).Sublist (l :: (s ++ (x, a) :: t).map (·.1)) :=
    List.Sublist.cons_cons _ (List.Sublist.map _ (List.Sublist.append (List.Sublist.refl _) (List.sublist_cons_self _ _)))
  have hnx : nextOf l t ∈ l :: (s ++ t).map (·.1) := by
    have := nextOf_mem l t
    simp at this ⊢
    rcases this with e | ⟨b, hb⟩
    · exact .inl e
    · exact .inr (.inr ⟨b, hb⟩)
  have hpm : p ∈ l :: (s ++ t).map (·.1) := by
    simp at hp ⊢
    rcases hp with e | ⟨b, hb⟩
    · exact .inl e
    · exact .inr (.inl ⟨b, hb⟩)
  have hne : ∀ y ∈ l :: (s ++ t).map (·.1), y ≠ bm := fun y hy e => h.apart (by rw [← e]; exact hsub.subset hy)
  have hblk : ∀ y ∈ l :: (s ++ t).map (·.1), w'.heap[y]? = ((w.setCell ⟨p,2,none⟩ (pt (nextOf l t))).setCell ⟨nextOf l t,1,none⟩ (pt p)).heap[y]? := fun y hy =>
    hu.block y (by simpa using h.lt y (hsub.subset hy)) (hne y hy)
  have far : ∀ y i, y ∈ l :: (s ++ t).map (·.1) → (y, i) ≠ (p, 2) → (y, i) ≠ (nextOf l t, 1) → w'.cell? ⟨y, i, none⟩ = w.cell? ⟨y, i, none⟩ := by
    intro y i hy h1 h2
    rw [World.cell?_of_block (a := ⟨y, i, none⟩) (hblk y hy), World.cell?_setCell_other _ _ _ _ (fun e => by injection e with e1 e2; exact h2 (by rw [e1, e2])), World.cell?_setCell_other _ _ _ _ (fun e => by injection e with e1 e2; exact h1 (by rw [e1, e2]))]
  refine ⟨⟨(far l 3 (by simp) (by simp) (by simp)).trans h.cm, (far l 4 (by simp) (by simp) (by simp)).trans h.cr, hring ?_ ?_ far, fun y hy => ?_, ?_, h.nodup.sublist hsub, ?_, h.most⟩, ?_⟩
  · rw [World.cell?_of_block (a := ⟨p, 2, none⟩) (hblk p hpm), World.cell?_setCell_other _ _ _ _ (fun e => by injection e with e1 e2; cases e2)]
    exact World.cell?_setCell_same _ _ _ c1
  · rw [World.cell?_of_block (a := ⟨nextOf l t, 1, none⟩) (hblk _ hnx)]
    exact World.cell?_setCell_same _ _ _ ((World.cell?_setCell_other _ _ _ _ (fun e => by injection e with e1 e2; cases e2)).trans c2)
  · rw [hblk y hy]
    exact blk_setCell (blk_setCell (h.blk y (hsub.subset hy)))
  · rw [← adel_linkMap h.once]; exact hm
  · have := h.size
    simp at this ⊢
    omega
  · refine (((Upd.refl _ w).setCell ?_ _).setCell ?_ _).trans hu (fun i _ e => .inl e)
    · exact fun _ => .inr (hsub.subset hpm)
    · exact fun _ => .inr (hsub.subset hnx)
/-- Block l is a list with room for so many, with the addresses xs, the latest first; it lies in the blocks of F. -/
structure GList (w : World) (l : Nat) (room : Int) (xs : List Int) (F : Nat → Prop) : Prop where
  has : ∃ bm ns, Ghost w l bm room ns ∧ ns.map (·.2) = xs ∧ ∀ k, gfoot l bm ns k → F k
  lt : ∀ k, F k → k < w.heap.size

theorem GList.upd {S : Nat → Prop} {w w' : World} {l : Nat} {room : Int} {xs : List Int} {F : Nat → Prop} (h : GList w l room xs F) (hu : Upd S w w') (hs : ∀ k, F k → ¬ S k) : GList w' l room xs F := by
  obtain ⟨bm, ns, h1, h2, h3⟩ := h.has
  exact ⟨⟨bm, ns, h1.upd hu (fun k hk => hs k (h3 k hk)), h2, h3⟩, fun k hk => Nat.lt_of_lt_of_le (h.lt k hk) hu.size⟩

theorem gfoot_sub {l bm x k : Nat} {a : Int} {s t : List (Nat × Int)} (h : gfoot l bm (s ++ t) k) : gfoot l bm (s ++ (x, a) :: t) k := by
  rcases h with e | h
  · exact .inl e
  · refine .inr ?_
    simp at h ⊢
    rcases h with e | ⟨b, hb⟩ | ⟨b, hb⟩
    · exact .inl e
    · exact .inr (.inl ⟨b, hb⟩)
    · exact .inr (.inr (.inr ⟨b, hb⟩))

theorem erase_split {s t : List (Nat × Int)} {x : Nat} {a : Int} (h : ((s ++ (x, a) :: t).map (·.2)).Nodup) : ((s ++ (x, a) :: t).map (·.2)).erase a = (s ++ t).map (·.2) := by
  simp only [List.map_append, List.map_cons, List.nodup_append, List.nodup_cons] at h ⊢
  rw [List.erase_append_right _ (fun hm => h.2.2 a hm a (by simp) rfl), List.erase_cons_head]

theorem drop_nil_calls (w : World) (a : Int) : Calls Try.prog 31 #[.pointer none, .int .u32 a] w fun e w' => e = .returned (.bool false) ∧ w = w' := by
  go_enter Try.func31, Try.ntmps31
  go_wp2_with fail
  go_ret
  exact ⟨rfl, rfl⟩

theorem Ghost.cuts {w : World} {l bm x : Nat} {a : Int} {room : Int} {s t : List (Nat × Int)} (h : Ghost w l bm room (s ++ (x, a) :: t)) :
    Calls Try.prog 32 #[pt l, pt x] w fun e w' => e = .returned (.tuple #[]) ∧ Ghost w' l bm room (s ++ t) ∧ Upd (gfoot l bm (s ++ (x, a) :: t)) w w' := by
  have hw := h.wf (x, a) (by simp)
  obtain ⟨p, h1, h2, h3, h4, h5, _⟩ := h.ring.cut (w' := w) h.nodup
  have hd := h.nodup
  have hpx : p ≠ x := by
    rintro rfl
    simp only [List.map_append, List.map_cons, List.nodup_cons, List.mem_append, List.mem_cons, List.nodup_append, not_or] at hd
    rcases List.mem_cons.1 h5 with e | e
    · exact hd.1.2.1 e.symm
    · exact hd.2.2.2 _ e _ (.inl rfl) rfl
  have hqx : nextOf l t ≠ x := by
    intro e
    simp only [List.map_append, List.map_cons, List.nodup_cons, List.mem_append, List.mem_cons, List.nodup_append, not_or] at hd
    rcases List.mem_cons.1 (nextOf_mem l t) with e' | e'
    · exact hd.1.2.1 (by rw [← e', e])
    · exact hd.2.2.1.1 (by rw [← e]; exact e')
  have hpm : p ∈ l :: (s ++ (x, a) :: t).map (·.1) := by
    simp at h5 ⊢
    rcases h5 with e | ⟨b, hb⟩
    · exact .inl e
    · exact .inr (.inl ⟨b, hb⟩)
  have hqm : nextOf l t ∈ l :: (s ++ (x, a) :: t).map (·.1) := by
    have := nextOf_mem l t
    simp at this ⊢
    rcases this with e | ⟨b, hb⟩
    · exact .inl e
    · exact .inr (.inr (.inr ⟨b, hb⟩))
  have hx0 : w.cell? ⟨x, 0, none⟩ = some (.int .u32 a) := by
    obtain ⟨q, g1, _, _⟩ := h.ring
    obtain ⟨p', _, g2⟩ := Path.append.1 g1
    exact g2.2.2.1
  refine (cut_calls w l x p (nextOf l t) bm a _ hw hx0 h1 h2 h3 h4 (h.free p hpm 2) (h.free _ hqm 1) hpx hqx (fun e => h.apart (by rw [← e]; exact hpm)) (fun e => h.apart (by rw [← e]; exact hqm)) h.cm h.map).mono ?_
  rintro e w' ⟨rfl, hm, hu⟩
  obtain ⟨p', g1, _, _, _, g5, g6⟩ := h.ring.cut (w' := w') h.nodup
  have : p' = p := by
    unfold newer at g1 h1
    rw [g1] at h1
    simpa [pt] using h1
  subst this
  exact ⟨rfl, h.cutAt hm g5 g6 ⟨_, h3⟩ ⟨_, h4⟩ hu⟩

set_option maxHeartbeats 1000000 in
theorem drop_no_calls (w : World) (l bm : Nat) (room : Int) (ns : List (Nat × Int)) (a : Int) (hw : (Lit.int .u32 a).wf = true) (hg : Ghost w l bm room ns) (hn : a ∉ ns.map (·.2)) :
    Calls Try.prog 31 #[pt l, .int .u32 a] w fun e w' => e = .returned (.bool false) ∧ w = w' := by
  have cm := hg.cm
  have hl : alook (linkMap ns) (.int .u32 a) = none := by
    rcases alook_linkMap hg.once a with ⟨_, hl⟩ | ⟨s, t, x, rfl, _⟩
    · exact hl
    · exact absurd (by simp) hn
  have HH : Hid (MapAt w Try.prog 23 bm (linkMap ns) ∧ alook (linkMap ns) (.int .u32 a) = none) := Lib.hid ⟨hg.map, hl⟩
  clear hg hn hl
  go_enter Try.func31, Try.ntmps31
  go_wp2_with (first | (at_lookup; refine wpl_lookup_ok rfl _ _ 72 rfl 23 73 kU32 Try.underlying72 _ (zLink _) bm _ HH.out.1 rfl _ _ (Maps.keyOf_int_mk Try.underlying23 hw) rfl none HH.out.2 ?_))
  go_ret
  exact ⟨rfl, rfl⟩

set_option maxHeartbeats 1000000 in
theorem drop_calls (w : World) (l : Nat) (room : Int) (xs : List Int) (F : Nat → Prop) (a : Int) (hw : (Lit.int .u32 a).wf = true) (h : GList w l room xs F) :
    Calls Try.prog 31 #[pt l, .int .u32 a] w fun e w' => e = .returned (.bool (decide (a ∈ xs))) ∧ GList w' l room (xs.erase a) F ∧ Upd F w w' := by
  obtain ⟨⟨bm, ns, hg, rfl, hF⟩, hlt⟩ := h
  have cm := hg.cm
  rcases alook_linkMap hg.once a with ⟨hn, hl⟩ | ⟨s, t, x, rfl, hl⟩
  · have e1 : decide (a ∈ ns.map (·.2)) = false := by simpa using hn
    rw [e1, List.erase_of_not_mem hn]
    have HH : Hid (GList w l room (ns.map (·.2)) F ∧ MapAt w Try.prog 23 bm (linkMap ns) ∧ alook (linkMap ns) (.int .u32 a) = none) := Lib.hid ⟨⟨⟨bm, ns, hg, rfl, hF⟩, hlt⟩, hg.map, hl⟩
    clear hg hF hlt hn hl e1
    go_enter Try.func31, Try.ntmps31
    go_wp2_with (first | (at_lookup; refine wpl_lookup_ok rfl _ _ 72 rfl 23 73 kU32 Try.underlying72 _ (zLink _) bm _ HH.out.2.1 rfl _ _ (Maps.keyOf_int_mk Try.underlying23 hw) rfl none HH.out.2.2 ?_))
    go_ret
    exact ⟨rfl, HH.out.1, Upd.refl _ _⟩
  · have e1 : decide (a ∈ (s ++ (x, a) :: t).map (·.2)) = true := by simp
    have hcut := hg.cuts
    rw [e1, erase_split hg.once]
    have HH : Hid (MapAt w Try.prog 23 bm (linkMap (s ++ (x, a) :: t)) ∧ alook (linkMap (s ++ (x, a) :: t)) (.int .u32 a) = some (pt x)) := Lib.hid ⟨hg.map, hl⟩
    have HC := Lib.hid hcut
    clear hcut hl e1
    have HF := Lib.hid hF; clear hF
    have HL := Lib.hid hlt; clear hlt
    clear hg
    go_enter Try.func31, Try.ntmps31
    go_wp2_with (first | (at_lookup; refine wpl_lookup_ok rfl _ _ 72 rfl 23 73 kU32 Try.underlying72 _ (zLink _) bm _ HH.out.1 rfl _ _ (Maps.keyOf_int_mk Try.underlying23 hw) rfl _ HH.out.2 ?_) | (go_at_call 32; refine HC.out.mono ?_; rintro e w' ⟨rfl, hg', hu⟩))
    go_ret
    refine ⟨rfl, ⟨⟨bm, s ++ t, hg', rfl, fun k hk => HF.out k ?_⟩, fun k hk => Nat.lt_of_lt_of_le (HL.out k hk) hu.size⟩, hu.mono (fun k _ hk => HF.out k hk)⟩
    exact gfoot_sub hk

set_option maxHeartbeats 1000000 in
theorem new_calls (w : World) (n : Int) (h0 : 0 ≤ n) (h1 : n ≤ 4096) :
    Calls Try.prog 21 #[.int .i64 n] w fun e w' => ∃ l, e = .returned (.tuple #[pt l, .int .i64 0]) ∧ GList w' l n [] (fresh w w') ∧ Upd (fun _ => False) w w' := by
  have hmm := @run_makeMap Try.prog
  go_enter Try.func21, Try.ntmps21
  go_wp2
  go_region
  go_wp2
  go_ret2
  have hb : ∀ c e, ((w.alloc (.map #[] 0)).alloc (.cells c e)).drew.heap[w.heap.size + 1]? = some (.cells c e) := fun c e => by
    have := at_alloc_new (w.alloc (.map #[] 0)) (.cells c e)
    rw [World.size_alloc] at this
    exact this
  refine ⟨w.heap.size + 1, rfl, ⟨⟨w.heap.size, [], ⟨(cell_at (hb _ _) 3).trans rfl, (cell_at (hb _ _) 4).trans rfl, ⟨w.heap.size + 1, rfl, (cell_at (hb _ _) 2).trans rfl, (cell_at (hb _ _) 1).trans rfl⟩, ?_, ?_, by simp, by simpa using h0, h1⟩, rfl, ?_⟩, ?_⟩, ?_⟩
  · intro x hx
    obtain rfl : x = w.heap.size + 1 := by simpa using hx
    exact ⟨_, _, hb _ _⟩
  · exact (MapAt.made w Try.prog 23).of_block (Below.heap_alloc _ _ _ (by simp))
  · intro k hk
    rcases hk with rfl | hk
    · exact ⟨Nat.le_refl _, by simp; omega⟩
    · obtain rfl : k = w.heap.size + 1 := by simpa using hk
      exact ⟨by omega, by simp⟩
  · exact fun k hk => hk.2
  · exact (((Upd.refl _ w).alloc _).alloc _).drew
theorem new_bad_calls (w : World) (n : Int) (h0 : n < 0 ∨ 4096 < n) :
    Calls Try.prog 21 #[.int .i64 n] w fun e w' => e = .returned (.tuple #[.pointer none, .int .i64 1]) ∧ w = w' := by
  rcases h0 with h0 | h0
  · go_enter Try.func21, Try.ntmps21
    go_wp2_with fail
    go_ret2
    exact ⟨rfl, rfl⟩
  · have h1 : ¬ n < 0 := by omega
    go_enter Try.func21, Try.ntmps21
    go_wp2_with fail
    go_ret2
    exact ⟨rfl, rfl⟩

theorem ask_nil_calls (w : World) (a : Int) : Calls Try.prog 22 #[.pointer none, .int .u32 a] w fun e w' => e = .returned (.bool false) ∧ w = w' := by
  go_enter Try.func22, Try.ntmps22
  go_wp2_with fail
  go_ret
  exact ⟨rfl, rfl⟩

theorem Ring.first {w : World} {l : Nat} {ns : List (Nat × Int)} (h : Ring w l ns) : older w l (nextOf l ns) ∧ newer w (nextOf l ns) l := by
  obtain ⟨q, h1, h2, h3⟩ := h
  cases ns with
  | nil => obtain rfl : l = q := h1; exact ⟨h2, h3⟩
  | cons n t => exact ⟨h1.1, h1.2.1⟩
/-- .. and the last. -/
theorem Ring.final {w : World} {l : Nat} {s : List (Nat × Int)} {x : Nat} {a : Int} (h : Ring w l (s ++ [(x, a)])) : newer w l x := by
  obtain ⟨q, h1, h2, h3⟩ := h
  obtain ⟨m, _, h4⟩ := Path.append.1 h1
  obtain rfl : x = q := h4.2.2.2
  exact h3

theorem aput_linkMap {ns : List (Nat × Int)} {x : Nat} {a : Int} (h : a ∉ ns.map (·.2)) : aput (linkMap ns) (.int .u32 a) (pt x) = linkMap ((x, a) :: ns) := by
  classical
  have : alook (linkMap ns) (.int .u32 a) = none := by
    simp only [alook, Option.map_eq_none_iff, List.find?_eq_none, linkMap, List.mem_map, List.mem_reverse, decide_eq_true_eq]
    rintro p ⟨n, hn, rfl⟩ e
    injection e with _ e
    exact h (List.mem_map.2 ⟨n, hn, e⟩)
  rw [aput_none this]
  simp [linkMap]

/-- The list behind a push. -/
theorem Ghost.pushAt {w w' : World} {l bm : Nat} {a : Int} {room : Int} {ns : List (Nat × Int)} (h : Ghost w l bm room ns) (ha : a ∉ ns.map (·.2)) (hr : (ns.length : Int) < room) {e : TypeId}
    (hm : MapAt w' Try.prog 23 bm (aput (linkMap ns) (.int .u32 a) (pt w.heap.size)))
    (hu : Upd (· = bm) (((w.setCell ⟨l, 2, none⟩ (pt w.heap.size)).setCell ⟨nextOf l ns, 1, none⟩ (pt w.heap.size)).alloc (.cells #[.int .u32 a, pt l, pt (nextOf l ns)] e)) w') :
    Ghost w' l bm room ((w.heap.size, a) :: ns) ∧ Upd (gfoot l bm ns) w w' := by
  obtain ⟨g1, g2⟩ := h.ring.first
  have hx : w.heap.size ∉ l :: ns.map (·.1) := fun hm => by have := h.lt _ hm; omega
  have hbx : bm ≠ w.heap.size := Nat.ne_of_lt h.map.lt
  have hlx : l ≠ w.heap.size := fun e => hx (by simp [e])
  have hnx := nextOf_mem l ns
  have hnx' : nextOf l ns ≠ w.heap.size := fun e => hx (by rw [← e]; exact hnx)
  rw [← World.setCell_alloc_past _ _ _ _ (by simpa using h.lt _ hnx), ← World.setCell_alloc_past _ _ _ _ (h.lt l (by simp))] at hu
  have hblk : ∀ y, y ≠ bm → y ≤ w.heap.size → w'.heap[y]? = (((w.alloc (.cells #[.int .u32 a, pt l, pt (nextOf l ns)] e)).setCell ⟨l, 2, none⟩ (pt w.heap.size)).setCell ⟨nextOf l ns, 1, none⟩ (pt w.heap.size)).heap[y]? := fun y hy hlt =>
    hu.block y (by simp; omega) hy
  have hne : ∀ y ∈ l :: ns.map (·.1), y ≠ bm := fun y hy e => h.apart (by rw [← e]; exact hy)
  have far : ∀ y i, y ∈ l :: ns.map (·.1) → (y, i) ≠ (l, 2) → (y, i) ≠ (nextOf l ns, 1) → w'.cell? ⟨y, i, none⟩ = w.cell? ⟨y, i, none⟩ := by
    intro y i hy h1 h2
    rw [World.cell?_of_block (a := ⟨y, i, none⟩) (hblk y (hne y hy) (Nat.le_of_lt (h.lt y hy))), World.cell?_setCell_other _ _ _ _ (fun e => by injection e with e1 e2; exact h2 (by rw [e1, e2])), World.cell?_setCell_other _ _ _ _ (fun e => by injection e with e1 e2; exact h1 (by rw [e1, e2])),
      World.cell?_alloc_old _ _ _ (Nat.ne_of_lt (h.lt y hy))]
  have new : ∀ i, w'.cell? ⟨w.heap.size, i, none⟩ = #[.int .u32 a, pt l, pt (nextOf l ns)][i]? := by
    intro i
    rw [World.cell?_of_block (a := ⟨w.heap.size, i, none⟩) (hblk _ (Ne.symm hbx) (Nat.le_refl _)), World.cell?_setCell_other _ _ _ _ (fun e => by injection e with e1 e2; exact hnx' e1), World.cell?_setCell_other _ _ _ _ (fun e => by injection e with e1 e2; exact hlx e1)]
    exact World.cell?_alloc_new _ _ _ _
  refine ⟨⟨(far l 3 (by simp) (by simp) (by simp)).trans h.cm, (far l 4 (by simp) (by simp) (by simp)).trans h.cr, h.ring.push h.nodup hx (new 0) (new 1) (new 2) ?_ ?_ far, fun y hy => ?_, ?_, ?_, ?_, h.most⟩, ?_⟩
  · rw [World.cell?_of_block (a := ⟨l, 2, none⟩) (hblk l (hne l (by simp)) (Nat.le_of_lt (h.lt l (by simp)))), World.cell?_setCell_other _ _ _ _ (fun e => by injection e with e1 e2; cases e2)]
    exact World.cell?_setCell_same _ _ _ ((World.cell?_alloc_old _ _ _ hlx).trans g1)
  · rw [World.cell?_of_block (a := ⟨nextOf l ns, 1, none⟩) (hblk _ (hne _ hnx) (Nat.le_of_lt (h.lt _ hnx)))]
    exact World.cell?_setCell_same _ _ _ ((World.cell?_setCell_other _ _ _ _ (fun e => by injection e with e1 e2; cases e2)).trans ((World.cell?_alloc_old _ _ _ hnx').trans g2))
  · have hyle : y ≠ bm ∧ y ≤ w.heap.size ∧ ∃ c e', (w.alloc (.cells #[.int .u32 a, pt l, pt (nextOf l ns)] e)).heap[y]? = some (.cells c e' (0, 0)) := by
      by_cases hyx : y = w.heap.size
      · subst hyx
        exact ⟨Ne.symm hbx, Nat.le_refl _, _, _, at_alloc_new _ _⟩
      · have hy' : y ∈ l :: ns.map (·.1) := by
          simp at hy ⊢
          rcases hy with e | e | e
          · exact .inl e
          · exact absurd e hyx
          · exact .inr e
        obtain ⟨c, e', hc⟩ := h.blk y hy'
        exact ⟨hne y hy', Nat.le_of_lt (h.lt y hy'), c, e', at_alloc_old hc _⟩
    rw [hblk y hyle.1 hyle.2.1]
    exact blk_setCell (blk_setCell hyle.2.2)
  · rw [← aput_linkMap ha]; exact hm
  · have := h.nodup
    simp only [List.map_cons, List.nodup_cons, List.mem_cons, not_or] at this hx ⊢
    exact ⟨⟨fun e => hx.1 e.symm, this.1⟩, hx.2, this.2⟩
  · simp only [List.length_cons]; omega
  · refine (((Upd.refl _ w).alloc _).setCell ?_ _ |>.setCell ?_ _).trans hu (fun i _ e => .inl e)
    · exact fun _ => .inr (by simp)
    · exact fun _ => .inr hnx

theorem last_split {ns : List (Nat × Int)} (h : 0 < ns.length) : ∃ s x a, ns = s ++ [(x, a)] := by
  have hne : ns ≠ [] := by intro e; subst e; simp at h
  refine ⟨ns.dropLast, (ns.getLast hne).1, (ns.getLast hne).2, ?_⟩
  exact (List.dropLast_concat_getLast hne).symm

/-- what the walk of a push's last regions needs of the world. -/
structure AtPush (W : World) (l bm f : Nat) : Prop where
  c2 : W.cell? ⟨l, 2, none⟩ = some (pt f)
  c3 : W.cell? ⟨l, 3, none⟩ = some (.map (some bm))
  d : W.cell? ⟨f, 1, none⟩ = some (pt l)
  fl : W.frozen? ⟨l, 2, none⟩ = false
  ff : W.frozen? ⟨f, 1, none⟩ = false
  ll : l < W.heap.size
  lf : f < W.heap.size

theorem Ghost.atPush {w : World} {l bm : Nat} {room : Int} {ns : List (Nat × Int)} (h : Ghost w l bm room ns) : AtPush w l bm (nextOf l ns) :=
  ⟨h.ring.first.1, h.cm, h.ring.first.2, h.free l (by simp) 2, h.free _ (nextOf_mem l ns) 1, h.lt l (by simp), h.lt _ (nextOf_mem l ns)⟩

set_option maxHeartbeats 2000000 in
theorem ask_new_calls (w : World) (l bm : Nat) (room : Int) (ns : List (Nat × Int)) (a : Int) (hw : (Lit.int .u32 a).wf = true) (h : Ghost w l bm room ns) (ha : a ∉ ns.map (·.2)) (hr : room ≠ 0) :
    Calls Try.prog 22 #[pt l, .int .u32 a] w fun e w' => e = .returned (.bool false) ∧ ∃ ns', Ghost w' l bm room ns' ∧ ns'.map (·.2) = (a :: ns.map (·.2)).take room.toNat ∧
      Upd (gfoot l bm ns) w w' ∧ ∀ k, gfoot l bm ns' k → gfoot l bm ns k ∨ fresh w w' k := by
  have hsz := h.size
  have h0 : 0 ≤ room := by omega
  have hdrop := Lib.hid (drop_no_calls w l bm room ns a hw h ha)
  have cr := h.cr
  have cm := h.cm
  have hr0 : (room == 0) = false := by simpa using hr
  obtain ⟨n, hn⟩ : ∃ n : Nat, n = ns.length := ⟨_, rfl⟩
  have hlen : (Builtin.len_ #[72] 3 #[.map (some bm)]).run Try.prog w.drew = .ok (.int .i64 n) w.drew := by
    have := h.map.drew.len (t := 72) Try.underlying72 3
    rw [this]; simp [linkMap, hn]
  by_cases hfull : (n : Int) = room
  · have hf : ((n : Int) == room) = true := by simpa using hfull
    obtain ⟨s, x, b, rfl⟩ := last_split (ns := ns) (by omega)
    have cl : w.cell? ⟨l, 1, none⟩ = some (pt x) := h.ring.final
    have hcut := Lib.hid ((h.same (w' := w.drew) rfl).cuts (t := []))
    have HH : Hid (a ∉ (s ++ [(x, b)]).map (·.2) ∧ n = (s ++ [(x, b)]).length ∧ (n : Int) = room) := Lib.hid ⟨ha, hn, hfull⟩
    clear h ha hr hfull hsz hn
    go_enter Try.func22, Try.ntmps22
    go_wp2_with (first | (go_at_call 31; refine hdrop.out.mono ?_; rintro e w' ⟨rfl, rfl⟩))
    go_region
    go_wp2_with (first | (go_at_call 32; refine hcut.out.mono ?_; rintro e w1 ⟨rfl, hg1, hu1⟩))
    rw [List.append_nil] at hg1
    obtain ⟨p2, p3, pd, pfl, pff, pll, plf⟩ := hg1.atPush
    have hne : bm ≠ l ∧ bm ≠ nextOf l s := ⟨fun e => hg1.apart (by rw [e]; simp), fun e => hg1.apart (by rw [e]; exact nextOf_mem l s)⟩
    generalize hf' : nextOf l s = f at *
    have HF := Lib.hid hf'; clear hf'
    have HM : Hid (∀ c e v1 v2, MapAt (((w1.setCell ⟨l, 2, none⟩ v1).setCell ⟨f, 1, none⟩ v2).alloc (.cells c e)).drew Try.prog 23 bm (linkMap s)) := Lib.hid (fun c e v1 v2 => by
      refine hg1.map.of_block ?_
      show (((w1.setCell _ _).setCell _ _).alloc (.cells c e)).heap[bm]? = _
      rw [Below.heap_alloc _ _ _ (by simpa using hg1.map.lt), Below.heap_setCell _ _ _ _ hne.2, Below.heap_setCell _ _ _ _ hne.1])
    have HG := Lib.hid hg1; clear hg1 hne
    go_region
    go_wp2_with (first | (at_mapUpdate; refine wpl_mapUpdate rfl _ _ _ 72 rfl 23 73 kU32 Try.underlying72 bm _ (HM.out _ _ _ _) rfl _ (pt w1.heap.size) _ (Maps.keyOf_int_mk Try.underlying23 hw) rfl rfl ?_; intro w2 hm2 hu2))
    go_ret
    obtain ⟨ha, hn, hfull⟩ := HH.out
    rw [← HF.out] at hu2
    have hsl : (s.length : Int) < room := by simp at hn; omega
    have has : a ∉ s.map (·.2) := fun e => ha (by simp at e ⊢; obtain ⟨y, hy⟩ := e; exact .inl ⟨y, hy⟩)
    obtain ⟨g1, g2⟩ := HG.out.pushAt has hsl hm2 hu2.of_drew
    refine ⟨rfl, _, g1, ?_, hu1.of_drew.trans g2 (fun k _ hk => gfoot_sub (t := []) (by simpa using hk)), fun k hk => ?_⟩
    · have : room.toNat = s.length + 1 := by simp at hn; omega
      rw [this]
      simp
    · rcases hk with e | hk
      · exact .inl (.inl e)
      · simp only [List.map_cons, List.mem_cons] at hk
        rcases hk with e | e | e
        · exact .inl (.inr (by simp [e]))
        · have := hu1.size
          have := g2.size
          have := g1.lt w1.heap.size (by simp)
          simp at *
          exact .inr ⟨by omega, by omega⟩
        · exact .inl (gfoot_sub (t := []) (.inr (by rw [List.append_nil]; exact List.mem_cons_of_mem _ e)))
  · have hf : ((n : Int) == room) = false := by simpa using hfull
    have HH := Lib.hid h
    have HA : Hid (a ∉ ns.map (·.2) ∧ (ns.length : Int) < room) := Lib.hid ⟨ha, by omega⟩
    clear h ha hr hfull hsz hn
    go_enter Try.func22, Try.ntmps22
    go_wp2_with (first | (go_at_call 31; refine hdrop.out.mono ?_; rintro e w' ⟨rfl, rfl⟩))
    go_region
    go_wp2_with fail
    refine wp_world fun w1 hw1 => ?_
    have hg1 : Ghost w1 l bm room ns := HH.out.same (by rw [hw1]; rfl)
    have HW := Lib.hid hw1; clear hw1 cr cm hlen
    obtain ⟨p2, p3, pd, pfl, pff, pll, plf⟩ := hg1.atPush
    have hne : bm ≠ l ∧ bm ≠ nextOf l ns := ⟨fun e => hg1.apart (by rw [e]; simp), fun e => hg1.apart (by rw [e]; exact nextOf_mem l ns)⟩
    generalize hf' : nextOf l ns = f at *
    have HF := Lib.hid hf'; clear hf'
    have HM : Hid (∀ c e v1 v2, MapAt (((w1.setCell ⟨l, 2, none⟩ v1).setCell ⟨f, 1, none⟩ v2).alloc (.cells c e)).drew Try.prog 23 bm (linkMap ns)) := Lib.hid (fun c e v1 v2 => by
      refine hg1.map.of_block ?_
      show (((w1.setCell _ _).setCell _ _).alloc (.cells c e)).heap[bm]? = _
      rw [Below.heap_alloc _ _ _ (by simpa using hg1.map.lt), Below.heap_setCell _ _ _ _ hne.2, Below.heap_setCell _ _ _ _ hne.1])
    have HG := Lib.hid hg1; clear hg1 hne
    go_region
    go_wp2_with (first | (at_mapUpdate; refine wpl_mapUpdate rfl _ _ _ 72 rfl 23 73 kU32 Try.underlying72 bm _ (HM.out _ _ _ _) rfl _ (pt w1.heap.size) _ (Maps.keyOf_int_mk Try.underlying23 hw) rfl rfl ?_; intro w2 hm2 hu2))
    go_ret
    rw [← HF.out] at hu2
    obtain ⟨g1, g2⟩ := HG.out.pushAt HA.out.1 HA.out.2 hm2 hu2.of_drew
    have hw1 := HW.out
    subst hw1
    refine ⟨rfl, _, g1, ?_, g2.of_drew, fun k hk => ?_⟩
    · have := HA.out.2
      rw [List.take_of_length_le (by simp; omega)]
      simp
    · rcases hk with e | hk
      · exact .inl (.inl e)
      · simp only [List.map_cons, List.mem_cons] at hk
        rcases hk with e | e | e
        · exact .inl (.inr (by simp [e]))
        · have := g1.lt w.drew.heap.size (by simp)
          simp at *
          exact .inr ⟨by omega, by omega⟩
        · exact .inl (.inr (List.mem_cons_of_mem _ e))

/-- 'Ask' as a list sees it. -/
def askList (room : Int) (xs : List Int) (a : Int) : List Int := if a ∈ xs then xs.erase a else (a :: xs).take room.toNat

theorem ask_calls (w : World) (l : Nat) (room : Int) (xs : List Int) (F : Nat → Prop) (a : Int) (hw : (Lit.int .u32 a).wf = true) (h : GList w l room xs F) :
    Calls Try.prog 22 #[pt l, .int .u32 a] w fun e w' => e = .returned (.bool (decide (a ∈ xs))) ∧ GList w' l room (askList room xs a) (fun k => F k ∨ fresh w w' k) ∧ Upd F w w' := by
  by_cases ha : a ∈ xs
  · have hd := Lib.hid (drop_calls w l room xs F a hw h)
    unfold askList
    rw [if_pos ha]
    have e1 : decide (a ∈ xs) = true := by simpa using ha
    rw [e1] at hd ⊢
    clear ha e1 h
    go_enter Try.func22, Try.ntmps22
    go_wp2_with (first | (go_at_call 31; refine hd.out.mono ?_; rintro e w' ⟨rfl, hg, hu⟩))
    go_ret
    obtain ⟨bm, ns, h1, h2, h3⟩ := hg.has
    exact ⟨rfl, ⟨⟨bm, ns, h1, h2, fun k hk => .inl (h3 k hk)⟩, fun k hk => by
      rcases hk with hk | hk
      · exact hg.lt k hk
      · exact hk.2⟩, hu⟩
  · obtain ⟨⟨bm, ns, hg, rfl, hF⟩, hlt⟩ := h
    unfold askList
    rw [if_neg ha]
    have e1 : decide (a ∈ ns.map (·.2)) = false := by simpa using ha
    rw [e1]
    by_cases hr : room = 0
    · have hd := Lib.hid (drop_no_calls w l bm room ns a hw hg ha)
      have h0 : ns = [] := by have := hg.size; exact List.eq_nil_of_length_eq_zero (by omega)
      subst h0 hr
      have cr := hg.cr
      have HH := Lib.hid hg
      have HF := Lib.hid hF
      have HL := Lib.hid hlt
      clear ha e1 hg hF hlt
      go_enter Try.func22, Try.ntmps22
      go_wp2_with (first | (go_at_call 31; refine hd.out.mono ?_; rintro e w' ⟨rfl, rfl⟩))
      go_ret
      exact ⟨rfl, ⟨⟨bm, [], HH.out, by simp, fun k hk => .inl (HF.out k hk)⟩, fun k hk => by
        rcases hk with hk | hk
        · exact HL.out k hk
        · exact hk.2⟩, Upd.refl _ _⟩
    · refine (ask_new_calls w l bm room ns a hw hg ha hr).mono ?_
      rintro e w' ⟨rfl, ns', h1, h2, h3, h4⟩
      refine ⟨rfl, ⟨⟨bm, ns', h1, h2, fun k hk => (h4 k hk).imp (hF k) id⟩, fun k hk => ?_⟩, h3.mono (fun k _ hk => hF k hk)⟩
      rcases hk with hk | hk
      · exact Nat.lt_of_lt_of_le (hlt k hk) h3.size
      · exact hk.2

end Go.Proofs.Ytfpbkofjbnmkeaa
