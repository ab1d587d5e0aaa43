/- What this text proves: the walk of GhostPlays. No conditions. -/
import Derived.Test.YtikdejiiklpepaaGhostLaws
import Derived.Test.YtikdejiiklpepaaHeld
namespace Go.Proofs.Ytikdejiiklpepaa.ghostPlays
open Go Go.RowKit
open Go.Proofs Go.Proofs.Ytikdejiiklpepaa

theorem GList.same {w w' : World} {l : Nat} {room : Int} {xs : List Int} {F : Nat → Prop} (h : GList w l room xs F) (hw : w'.heap = w.heap) : GList w' l room xs F := by
  obtain ⟨bm, ns, h1, h2, h3⟩ := h.has
  exact ⟨⟨bm, ns, h1.same hw, h2, h3⟩, fun k hk => by rw [hw]; exact h.lt k hk⟩
theorem RList.same {w w' : World} {r : Nat} {room : Int} {xs : List Int} {F : Nat → Prop} (h : RList w r room xs F) (hw : w'.heap = w.heap) : RList w' r room xs F := by
  obtain ⟨v, h1, h2, h3⟩ := h.has
  refine ⟨⟨v, by rw [hw]; exact h1, ?_, h3⟩, h.self, fun k hk => by rw [hw]; exact h.lt k hk⟩
  rcases h2 with ⟨g1, g2 | ⟨g, cap, cur, e1, e2, e3, e4⟩⟩
  · exact ⟨g1, .inl g2⟩
  · exact ⟨g1, .inr ⟨g, cap, cur, e1, e2, by rw [hw]; exact e3, e4⟩⟩

/-- both lists, behind the same acts. -/
structure Two (w : World) (B l r : Nat) (room : Int) (xs : List Int) (F1 F2 : Nat → Prop) (wr : World) : Prop where
  list : GList wr l room xs F1
  ref : RList wr r room xs F2
  apart : ∀ j, F1 j → ¬ F2 j
  own : ∀ j, F1 j ∨ F2 j → B ≤ j
  size : B ≤ wr.heap.size
  below : Below B w wr

theorem Two.alloc {w : World} {B l r : Nat} {room : Int} {xs : List Int} {F1 F2 : Nat → Prop} {wr : World} (h : Two w B l r room xs F1 F2 wr) (o : Obj) : Two w B l r room xs F1 F2 (wr.alloc o) :=
  ⟨h.list.upd ((Upd.refl (fun _ => False) wr).alloc o) (fun _ _ f => f), h.ref.upd ((Upd.refl (fun _ => False) wr).alloc o) (fun _ _ f => f), h.apart, h.own, by have := h.size; simp; omega, h.below.alloc h.size o⟩
/-- what an act answers and leaves. -/
def act2 (room : Int) (xs : List Int) (g : Bool) (b : Int) : List Int := if g then xs.erase b else askList room xs b
/-- the program's list has gone on, the document's has not. -/
structure Mid (w : World) (B l r : Nat) (room : Int) (xs ys : List Int) (F1 F2 : Nat → Prop) (W wA : World) : Prop where
  list : GList wA l room ys (fun j => F1 j ∨ fresh W wA j)
  ref : RList wA r room xs F2
  upd : Upd F1 W wA
  two : Two w B l r room xs F1 F2 W
theorem Two.drop {w : World} {B l r : Nat} {room : Int} {xs : List Int} {F1 F2 : Nat → Prop} {W : World} (h : Two w B l r room xs F1 F2 W) {b : Int} (hw : (Lit.int .u32 b).wf = true) {W' : World} (hW : W'.heap = W.heap) (hB : Below B W W') :
    Calls Try.prog 11 #[pt l, .int .u32 b] W' fun e w' => e = .returned (.bool (decide (b ∈ xs))) ∧ Mid w B l r room xs (act2 room xs true b) F1 F2 W w' := by
  refine (drop_calls W' l room xs F1 b hw (GList.same h.list hW)).mono ?_
  rintro e w' ⟨rfl, hg, hu⟩
  have hu' : Upd F1 W w' := ⟨hu.os.trans hB.os, hu.tape.trans hB.tape, hu.output.trans hB.output, by rw [← hW]; exact hu.size, fun k hk hn => by rw [hu.block k (by rw [hW]; exact hk) hn, hW]⟩
  exact ⟨rfl, hg.grow (fun j hj => .inl hj) (fun j hj => hj.elim (fun hj => Nat.lt_of_lt_of_le (h.list.lt j hj) hu'.size) (fun hj => hj.2)), h.ref.upd hu' (fun k hk hf => h.apart k hf hk), hu', h⟩
theorem Two.ask {w : World} {B l r : Nat} {room : Int} {xs : List Int} {F1 F2 : Nat → Prop} {W : World} (h : Two w B l r room xs F1 F2 W) {b : Int} (hw : (Lit.int .u32 b).wf = true) {W' : World} (hW : W'.heap = W.heap) (hB : Below B W W') :
    Calls Try.prog 13 #[pt l, .int .u32 b] W' fun e w' => e = .returned (.bool (decide (b ∈ xs))) ∧ Mid w B l r room xs (act2 room xs false b) F1 F2 W w' := by
  refine (ask_calls W' l room xs F1 b hw (GList.same h.list hW)).mono ?_
  rintro e w' ⟨rfl, hg, hu⟩
  have hu' : Upd F1 W w' := ⟨hu.os.trans hB.os, hu.tape.trans hB.tape, hu.output.trans hB.output, by rw [← hW]; exact hu.size, fun k hk hn => by rw [hu.block k (by rw [hW]; exact hk) hn, hW]⟩
  refine ⟨rfl, hg.grow (fun j hj => ?_) (fun j hj => hj.elim (fun hj => Nat.lt_of_lt_of_le (h.list.lt j hj) hu'.size) (fun hj => hj.2)), h.ref.upd hu' (fun k hk hf => h.apart k hf hk), hu', h⟩
  rcases hj with hj | hj
  · exact .inl hj
  · exact .inr ⟨by rw [← hW]; exact hj.1, hj.2⟩
theorem Mid.end_ {w : World} {B l r : Nat} {room : Int} {xs ys : List Int} {F1 F2 : Nat → Prop} {W wA wB : World} (h : Mid w B l r room xs ys F1 F2 W wA) (hr : RList wB r room ys (fun j => F2 j ∨ fresh wA wB j)) (hu : Upd F2 wA wB) :
    Two w B l r room ys (fun j => F1 j ∨ fresh W wA j) (fun j => F2 j ∨ fresh wA wB j) wB := by
  have hsB := h.two.size
  have h1 := h.upd.size
  have h2 := hu.size
  refine ⟨h.list.upd hu (fun k hk hf => ?_), hr, fun j hj hk => ?_, fun j hj => ?_, by omega, (h.two.below.trans (h.upd.below hsB (fun i hi => h.two.own i (.inl hi)))).trans (hu.below (by omega) (fun i hi => h.two.own i (.inr hi)))⟩
  · rcases hk with hk | hk
    · exact h.two.apart k hk hf
    · have := h.two.ref.lt k hf; have := hk.1; omega
  · rcases hj with hj | hj <;> rcases hk with hk | hk
    · exact h.two.apart j hj hk
    · have := h.two.list.lt j hj; have := hk.1; omega
    · have := h.two.ref.lt j hk; have := hj.1; omega
    · have := hj.2; have := hk.1; omega
  · rcases hj with (hj | hj) | (hj | hj)
    · exact h.two.own j (.inl hj)
    · have := hj.1; omega
    · exact h.two.own j (.inr hj)
    · have := hj.1; omega
theorem Mid.drop {w : World} {B l r : Nat} {room : Int} {xs : List Int} {F1 F2 : Nat → Prop} {W wA : World} {b : Int} (h : Mid w B l r room xs (act2 room xs true b) F1 F2 W wA) (hx : xs.length ≤ 100000) :
    Calls Try.prog 12 #[pt r, .int .u32 b] wA fun e w' => e = .returned (.bool (decide (b ∈ xs))) ∧ Two w B l r room (act2 room xs true b) (fun j => F1 j ∨ fresh W wA j) (fun j => F2 j ∨ fresh wA w' j) w' ∧ Upd F2 wA w' := by
  refine (rdrop_calls wA r room xs F2 b h.ref hx).mono ?_
  rintro e w' ⟨rfl, hr, hu⟩
  exact ⟨rfl, h.end_ hr hu, hu⟩
theorem Mid.ask {w : World} {B l r : Nat} {room : Int} {xs : List Int} {F1 F2 : Nat → Prop} {W wA : World} {b : Int} (h : Mid w B l r room xs (act2 room xs false b) F1 F2 W wA) (hx : xs.length ≤ 100000) (h0 : 0 ≤ room) :
    Calls Try.prog 14 #[pt r, .int .u32 b] wA fun e w' => e = .returned (.bool (decide (b ∈ xs))) ∧ Two w B l r room (act2 room xs false b) (fun j => F1 j ∨ fresh W wA j) (fun j => F2 j ∨ fresh wA w' j) w' ∧ Upd F2 wA w' := by
  refine (rask_calls wA r room xs F2 b h.ref hx h0).mono ?_
  rintro e w' ⟨rfl, hr, hu⟩
  exact ⟨rfl, h.end_ hr hu, hu⟩
theorem Two.same {w : World} {B l r : Nat} {room : Int} {xs : List Int} {F1 F2 : Nat → Prop} {wr wr' : World} (h : Two w B l r room xs F1 F2 wr) (hb : Below wr.heap.size wr wr') : Two w B l r room xs F1 F2 wr' :=
  ⟨h.list.upd (below_upd hb) (fun k hk => Nat.not_le.2 (h.list.lt k hk)), h.ref.upd (below_upd hb) (fun k hk => Nat.not_le.2 (h.ref.lt k hk)), h.apart, h.own, Nat.le_trans h.size hb.size, h.below.trans (hb.mono h.size)⟩

def PlaysRel (w : World) (B l r : Nat) (room : Int) (n m : Nat) (i : Value) (wr : World) : Prop := ∃ (k : Nat) (xs : List Int) (F1 F2 : Nat → Prop), k + m = n ∧ i = .int .i64 k ∧ Two w B l r room xs F1 F2 wr

set_option maxHeartbeats 4000000 in
theorem walk_in (room : Int) (acts : List (Bool × Int)) (v : Value) (w : World) (hr0 : 0 ≤ room) (hr1 : room ≤ 4096)
    (hv : Reads w 2 v acts.length (acts.flatMap actCells)) (hl : acts.length ≤ maxLen) (hw : ∀ p ∈ acts, (Lit.int .u32 p.2).wf = true) :
    Calls Try.prog 3 #[.int .i64 room, v] w fun e w' => e = .returned (.bool true) ∧ Below w.heap.size w w' := by
  obtain ⟨B, hB⟩ : ∃ B, B = w.heap.size := ⟨_, rfl⟩
  rw [← hB]
  have HV := Lib.hid hv; clear hv
  have HW := Lib.hid hw; clear hw
  obtain ⟨va, vc, hva⟩ := HV.out.len
  subst hva
  have HB := Lib.hid hB; clear hB
  go_enter Try.func3, Try.ntmps3
  go_wp2_with fail
  refine (shown15_calls w).mono ?_
  rintro e w0 ⟨rfl, hb0⟩
  rw [← HB.out] at hb0
  go_wp2_with fail
  have hs0 : B ≤ w0.heap.size := by have := hb0.size; rw [HB.out]; exact this
  refine (new_calls w0 room hr0 hr1).mono ?_
  rintro e w1 ⟨l, rfl, hg1, hu⟩
  have hb1 := hb0.trans (hu.below hs0 (fun _ f => f.elim)); have hs1 := Nat.le_trans hs0 hu.size; clear hu hb0
  go_wp2_with fail
  refine calls_world fun w2 hw2 => ?_
  have htwo : Two w B l w1.heap.size room [] (fresh w0 w1) (· = w1.heap.size) w2 := by
    subst hw2
    refine ⟨hg1.upd ((Upd.refl (fun _ => False) w1).alloc _) (fun _ _ f => f), ⟨⟨.slice none 0 0, at_alloc_new _ _, World.ownsRow_nil _ _ _ _, by simp [Value.ownBlock]⟩, rfl, fun j hj => ?_⟩, fun j hj e => ?_, fun j hj => ?_, by simp; omega, hb1.alloc hs1 _⟩
    · have : j = w1.heap.size := hj
      simp; omega
    · have e' : j = w1.heap.size := e
      have := hj.2
      omega
    · rcases hj with hj | hj
      · have := hj.1; omega
      · have : j = w1.heap.size := hj
        omega
  have HT := Lib.hid htwo
  have hb2 := htwo.below
  clear htwo hw2 hg1 hb1 hs1 hs0
  have hv1 : Reads w2 2 (.slice va acts.length vc) acts.length (acts.flatMap actCells) := HV.out.below hb2 (by rw [HB.out]; exact Nat.le_refl _)
  refine (few_calls w2 _ _ _ hv1 hl).mono ?_
  rintro e w2 ⟨v1, rfl, hsl, rfl⟩
  have hv2 := hsl.1 _ _ HV.out
  clear hsl hv1
  simp only [Nat.zero_mul, List.drop_zero, Nat.sub_zero] at hv2
  rw [flatMap_take actCells 2 (fun _ => rfl)] at hv2
  obtain ⟨acts', hacts⟩ : ∃ acts', acts' = acts.take (min acts.length 300) := ⟨_, rfl⟩
  rw [← hacts] at hv2
  have hlen : acts'.length = min acts.length 300 := by rw [hacts]; simp
  rw [← hlen] at hv2
  have hw' : Hid (∀ p ∈ acts', (Lit.int .u32 p.2).wf = true) := Lib.hid (fun p hp => HW.out p (List.mem_of_mem_take (by rw [← hacts]; exact hp)))
  have hle : acts'.length ≤ 300 := by omega
  obtain ⟨va1, vc1, hva1⟩ := hv2.len
  subst hva1
  have HV2 := Lib.hid hv2
  clear hv2 hacts hlen HV HW hb2
  generalize w1.heap.size = r at *
  go_wp2_with fail
  go_loopg [44] acts'.length (fun m i wr => PlaysRel w B l r room acts'.length m i wr)
  case atStart => exact ⟨0, [], _, _, by simp, rfl, HT.out⟩
  case round =>
    obtain ⟨k, xs, F1, F2, hk, rfl, htwo⟩ := hrel
    have HC := Lib.hid htwo; clear htwo HT
    by_cases hlt : k < acts'.length
    · obtain ⟨g, b, hgb⟩ : ∃ g b, acts'[k] = (g, b) := ⟨_, _, rfl⟩
      have HGB := Lib.hid hgb; clear hgb
      have hwb : Hid ((Lit.int .u32 b).wf = true) := Lib.hid (by have := hw'.out acts'[k] (List.getElem_mem _); rw [HGB.out] at this; exact this)
      have HX := Lib.hid hlt
      have HR : Hid (Reads wr 2 (.slice va1 acts'.length vc1) acts'.length (acts'.flatMap actCells)) := Lib.hid (HV2.out.below HC.out.below (by rw [HB.out]; exact Nat.le_refl _))
      have HK := Lib.hid (acts_cells hlt HGB.out)
      have hxl : (xs.length : Int) ≤ 4096 := by have := HC.out.list.size; omega
      cases g
      · go_wp2_with (first
          | ((with_reducible change wpList _ _ _ (⟨_, Op.indexAddr _ _ _, _, _, _, _⟩ :: _) _ _); refine wpl_index rfl _ _ _ rfl 35 2 Try.underlying22 sizeAct (by decide) _ _ _ HR.out rfl k rfl HX.out ?_; intro bk off _ hcell; have c0 := hcell 0 _ HK.out.1; have c1 := hcell 1 _ HK.out.2; clear hcell; simp only [Nat.add_zero] at c0))
        refine wp_world fun W hW => ?_
        obtain ⟨c, hcw⟩ : ∃ c, c = wr.heap.size := ⟨_, rfl⟩
        have k0 : W.cell? ⟨c, 0, none⟩ = some (.bool false) := by rw [hW, hcw]; simp
        have k1 : W.cell? ⟨c, 1, none⟩ = some (.int .u32 b) := by rw [hW, hcw]; simp
        have htw : Two w B l r room xs F1 F2 W ∧ ∀ j, F1 j ∨ F2 j → j ≠ c := by
          have hc := HC.out
          refine ⟨by rw [hW]; exact hc.alloc _, fun j hj => ?_⟩
          rcases hj with hj | hj
          · have := hc.list.lt j hj; omega
          · have := hc.ref.lt j hj; omega
        rw [← hcw]
        have HTW := Lib.hid htw; clear htw hW hcw HC
        have hd := Lib.hid (HTW.out.1.ask hwb.out (W' := W.drew) rfl ((Below.refl _ _).drew))
        obtain ⟨rb, hrb⟩ : ∃ rb, rb = decide (b ∈ xs) := ⟨_, rfl⟩
        rw [← hrb] at hd
        have HRB := Lib.hid hrb; clear hrb
        obtain ⟨ys, hys⟩ : ∃ ys, ys = act2 room xs false b := ⟨_, rfl⟩
        have HYS := Lib.hid hys; clear hys
        cases rb
        all_goals
          refine wp_region_held_drew (S := fun w' => w'.cell? ⟨c, 0, none⟩ = some (.bool false) ∧ w'.cell? ⟨c, 1, none⟩ = some (.int .u32 b)) rfl ⟨k0, k1⟩ (fun hHeld => ?_)
          first
            | (refine held_on 0 rfl (by kernel_rfl) (fun _ _ _ h => h) (by rfl) (by assumption) (v := ?_) ?_ ?_
               rotate_left
               · intro w hS; (try dsimp only at hS); first | (go_simp; done) | (go_simp; with_reducible rfl)
               try simp only [Act.put, List.setIfInBounds_toArray, List.set_cons_zero, List.set_cons_succ])
            | (refine held_off 0 rfl (by kernel_rfl) (fun _ _ _ h => h) (by rfl) (by assumption) ?_
               try simp only [Act.put, List.setIfInBounds_toArray, List.set_cons_zero, List.set_cons_succ])
            | (go_outline; fail "take 0")
          first
            | (refine held_on 1 rfl (by kernel_rfl) (fun _ _ _ h => h) (by rfl) (by assumption) (v := ?_) ?_ ?_
               rotate_left
               · intro w hS; (try dsimp only at hS); first | (go_simp; done) | (go_simp; with_reducible rfl)
               try simp only [Act.put, List.setIfInBounds_toArray, List.set_cons_zero, List.set_cons_succ])
            | (refine held_off 1 rfl (by kernel_rfl) (fun _ _ _ h => h) (by rfl) (by assumption) ?_
               try simp only [Act.put, List.setIfInBounds_toArray, List.set_cons_zero, List.set_cons_succ])
            | (go_outline; fail "take 1")
          first
            | (refine held_on 2 rfl (by kernel_rfl) (fun _ _ _ h => h) (by rfl) (by assumption) (v := ?_) ?_ ?_
               rotate_left
               · intro w hS; (try dsimp only at hS); first | (go_simp; done) | (go_simp; with_reducible rfl)
               try simp only [Act.put, List.setIfInBounds_toArray, List.set_cons_zero, List.set_cons_succ])
            | (refine held_off 2 rfl (by kernel_rfl) (fun _ _ _ h => h) (by rfl) (by assumption) ?_
               try simp only [Act.put, List.setIfInBounds_toArray, List.set_cons_zero, List.set_cons_succ])
            | (go_outline; fail "take 2")
          first
            | (refine held_on 3 rfl (by kernel_rfl) (fun _ _ _ h => h) (by rfl) (by assumption) (v := ?_) ?_ ?_
               rotate_left
               · intro w hS; (try dsimp only at hS); first | (go_simp; done) | (go_simp; with_reducible rfl)
               try simp only [Act.put, List.setIfInBounds_toArray, List.set_cons_zero, List.set_cons_succ])
            | (refine held_off 3 rfl (by kernel_rfl) (fun _ _ _ h => h) (by rfl) (by assumption) ?_
               try simp only [Act.put, List.setIfInBounds_toArray, List.set_cons_zero, List.set_cons_succ])
            | (go_outline; fail "take 3")
          first
            | (refine held_on 4 rfl (by kernel_rfl) (fun _ _ _ h => h) (by rfl) (by assumption) (v := ?_) ?_ ?_
               rotate_left
               · intro w hS; (try dsimp only at hS); first | (go_simp; done) | (go_simp; with_reducible rfl)
               try simp only [Act.put, List.setIfInBounds_toArray, List.set_cons_zero, List.set_cons_succ])
            | (refine held_off 4 rfl (by kernel_rfl) (fun _ _ _ h => h) (by rfl) (by assumption) ?_
               try simp only [Act.put, List.setIfInBounds_toArray, List.set_cons_zero, List.set_cons_succ])
            | (go_outline; fail "take 4")
          first
            | (refine held_on 5 rfl (by kernel_rfl) (fun _ _ _ h => h) (by rfl) (by assumption) (v := ?_) ?_ ?_
               rotate_left
               · intro w hS; (try dsimp only at hS); first | (go_simp; done) | (go_simp; with_reducible rfl)
               try simp only [Act.put, List.setIfInBounds_toArray, List.set_cons_zero, List.set_cons_succ])
            | (refine held_off 5 rfl (by kernel_rfl) (fun _ _ _ h => h) (by rfl) (by assumption) ?_
               try simp only [Act.put, List.setIfInBounds_toArray, List.set_cons_zero, List.set_cons_succ])
            | (go_outline; fail "take 5")
          first
            | (refine held_on 6 rfl (by kernel_rfl) (fun _ _ _ h => h) (by rfl) (by assumption) (v := ?_) ?_ ?_
               rotate_left
               · intro w hS; (try dsimp only at hS); first | (go_simp; done) | (go_simp; with_reducible rfl)
               try simp only [Act.put, List.setIfInBounds_toArray, List.set_cons_zero, List.set_cons_succ])
            | (refine held_off 6 rfl (by kernel_rfl) (fun _ _ _ h => h) (by rfl) (by assumption) ?_
               try simp only [Act.put, List.setIfInBounds_toArray, List.set_cons_zero, List.set_cons_succ])
            | (go_outline; fail "take 6")
          first
            | (refine held_on 7 rfl (by kernel_rfl) (fun _ _ _ h => h) (by rfl) (by assumption) (v := ?_) ?_ ?_
               rotate_left
               · intro w hS; (try dsimp only at hS); first | (go_simp; done) | (go_simp; with_reducible rfl)
               try simp only [Act.put, List.setIfInBounds_toArray, List.set_cons_zero, List.set_cons_succ])
            | (refine held_off 7 rfl (by kernel_rfl) (fun _ _ _ h => h) (by rfl) (by assumption) ?_
               try simp only [Act.put, List.setIfInBounds_toArray, List.set_cons_zero, List.set_cons_succ])
            | (go_outline; fail "take 7")
          first
            | (refine held_on 8 rfl (by kernel_rfl) (fun _ _ _ h => h) (by rfl) (by assumption) (v := ?_) ?_ ?_
               rotate_left
               · intro w hS; (try dsimp only at hS); first | (go_simp; done) | (go_simp; with_reducible rfl)
               try simp only [Act.put, List.setIfInBounds_toArray, List.set_cons_zero, List.set_cons_succ])
            | (refine held_off 8 rfl (by kernel_rfl) (fun _ _ _ h => h) (by rfl) (by assumption) ?_
               try simp only [Act.put, List.setIfInBounds_toArray, List.set_cons_zero, List.set_cons_succ])
            | (go_outline; fail "take 8")
          first
            | (refine held_on 9 rfl (by kernel_rfl) (fun _ _ _ h => h) (by rfl) (by assumption) (v := ?_) ?_ ?_
               rotate_left
               · intro w hS; (try dsimp only at hS); first | (go_simp; done) | (go_simp; with_reducible rfl)
               try simp only [Act.put, List.setIfInBounds_toArray, List.set_cons_zero, List.set_cons_succ])
            | (refine held_off 9 rfl (by kernel_rfl) (fun _ _ _ h => h) (by rfl) (by assumption) ?_
               try simp only [Act.put, List.setIfInBounds_toArray, List.set_cons_zero, List.set_cons_succ])
            | (go_outline; fail "take 9")
          first
            | (refine held_on 10 rfl (by kernel_rfl) (fun _ _ _ h => h) (by rfl) (by assumption) (v := ?_) ?_ ?_
               rotate_left
               · intro w hS; (try dsimp only at hS); first | (go_simp; done) | (go_simp; with_reducible rfl)
               try simp only [Act.put, List.setIfInBounds_toArray, List.set_cons_zero, List.set_cons_succ])
            | (refine held_off 10 rfl (by kernel_rfl) (fun _ _ _ h => h) (by rfl) (by assumption) ?_
               try simp only [Act.put, List.setIfInBounds_toArray, List.set_cons_zero, List.set_cons_succ])
            | (go_outline; fail "take 10")
          first
            | (refine held_on 11 rfl (by kernel_rfl) (fun _ _ _ h => h) (by rfl) (by assumption) (v := ?_) ?_ ?_
               rotate_left
               · intro w hS; (try dsimp only at hS); first | (go_simp; done) | (go_simp; with_reducible rfl)
               try simp only [Act.put, List.setIfInBounds_toArray, List.set_cons_zero, List.set_cons_succ])
            | (refine held_off 11 rfl (by kernel_rfl) (fun _ _ _ h => h) (by rfl) (by assumption) ?_
               try simp only [Act.put, List.setIfInBounds_toArray, List.set_cons_zero, List.set_cons_succ])
            | (go_outline; fail "take 11")
          first
            | (refine held_on 12 rfl (by kernel_rfl) (fun _ _ _ h => h) (by rfl) (by assumption) (v := ?_) ?_ ?_
               rotate_left
               · intro w hS; (try dsimp only at hS); first | (go_simp; done) | (go_simp; with_reducible rfl)
               try simp only [Act.put, List.setIfInBounds_toArray, List.set_cons_zero, List.set_cons_succ])
            | (refine held_off 12 rfl (by kernel_rfl) (fun _ _ _ h => h) (by rfl) (by assumption) ?_
               try simp only [Act.put, List.setIfInBounds_toArray, List.set_cons_zero, List.set_cons_succ])
            | (go_outline; fail "take 12")
          first
            | (refine held_on 13 rfl (by kernel_rfl) (fun _ _ _ h => h) (by rfl) (by assumption) (v := ?_) ?_ ?_
               rotate_left
               · intro w hS; (try dsimp only at hS); first | (go_simp; done) | (go_simp; with_reducible rfl)
               try simp only [Act.put, List.setIfInBounds_toArray, List.set_cons_zero, List.set_cons_succ])
            | (refine held_off 13 rfl (by kernel_rfl) (fun _ _ _ h => h) (by rfl) (by assumption) ?_
               try simp only [Act.put, List.setIfInBounds_toArray, List.set_cons_zero, List.set_cons_succ])
            | (go_outline; fail "take 13")
          first
            | (refine held_on 14 rfl (by kernel_rfl) (fun _ _ _ h => h) (by rfl) (by assumption) (v := ?_) ?_ ?_
               rotate_left
               · intro w hS; (try dsimp only at hS); first | (go_simp; done) | (go_simp; with_reducible rfl)
               try simp only [Act.put, List.setIfInBounds_toArray, List.set_cons_zero, List.set_cons_succ])
            | (refine held_off 14 rfl (by kernel_rfl) (fun _ _ _ h => h) (by rfl) (by assumption) ?_
               try simp only [Act.put, List.setIfInBounds_toArray, List.set_cons_zero, List.set_cons_succ])
            | (go_outline; fail "take 14")
          first
            | (refine held_on 15 rfl (by kernel_rfl) (fun _ _ _ h => h) (by rfl) (by assumption) (v := ?_) ?_ ?_
               rotate_left
               · intro w hS; (try dsimp only at hS); first | (go_simp; done) | (go_simp; with_reducible rfl)
               try simp only [Act.put, List.setIfInBounds_toArray, List.set_cons_zero, List.set_cons_succ])
            | (refine held_off 15 rfl (by kernel_rfl) (fun _ _ _ h => h) (by rfl) (by assumption) ?_
               try simp only [Act.put, List.setIfInBounds_toArray, List.set_cons_zero, List.set_cons_succ])
            | (go_outline; fail "take 15")
          first
            | (refine held_on 16 rfl (by kernel_rfl) (fun _ _ _ h => h) (by rfl) (by assumption) (v := ?_) ?_ ?_
               rotate_left
               · intro w hS; (try dsimp only at hS); first | (go_simp; done) | (go_simp; with_reducible rfl)
               try simp only [Act.put, List.setIfInBounds_toArray, List.set_cons_zero, List.set_cons_succ])
            | (refine held_off 16 rfl (by kernel_rfl) (fun _ _ _ h => h) (by rfl) (by assumption) ?_
               try simp only [Act.put, List.setIfInBounds_toArray, List.set_cons_zero, List.set_cons_succ])
            | (go_outline; fail "take 16")
          first
            | (refine held_on 17 rfl (by kernel_rfl) (fun _ _ _ h => h) (by rfl) (by assumption) (v := ?_) ?_ ?_
               rotate_left
               · intro w hS; (try dsimp only at hS); first | (go_simp; done) | (go_simp; with_reducible rfl)
               try simp only [Act.put, List.setIfInBounds_toArray, List.set_cons_zero, List.set_cons_succ])
            | (refine held_off 17 rfl (by kernel_rfl) (fun _ _ _ h => h) (by rfl) (by assumption) ?_
               try simp only [Act.put, List.setIfInBounds_toArray, List.set_cons_zero, List.set_cons_succ])
            | (go_outline; fail "take 17")
          first
            | (refine held_on 18 rfl (by kernel_rfl) (fun _ _ _ h => h) (by rfl) (by assumption) (v := ?_) ?_ ?_
               rotate_left
               · intro w hS; (try dsimp only at hS); first | (go_simp; done) | (go_simp; with_reducible rfl)
               try simp only [Act.put, List.setIfInBounds_toArray, List.set_cons_zero, List.set_cons_succ])
            | (refine held_off 18 rfl (by kernel_rfl) (fun _ _ _ h => h) (by rfl) (by assumption) ?_
               try simp only [Act.put, List.setIfInBounds_toArray, List.set_cons_zero, List.set_cons_succ])
            | (go_outline; fail "take 18")
          first
            | (refine held_on 19 rfl (by kernel_rfl) (fun _ _ _ h => h) (by rfl) (by assumption) (v := ?_) ?_ ?_
               rotate_left
               · intro w hS; (try dsimp only at hS); first | (go_simp; done) | (go_simp; with_reducible rfl)
               try simp only [Act.put, List.setIfInBounds_toArray, List.set_cons_zero, List.set_cons_succ])
            | (refine held_off 19 rfl (by kernel_rfl) (fun _ _ _ h => h) (by rfl) (by assumption) ?_
               try simp only [Act.put, List.setIfInBounds_toArray, List.set_cons_zero, List.set_cons_succ])
            | (go_outline; fail "take 19")
          first
            | (refine held_on 20 rfl (by kernel_rfl) (fun _ _ _ h => h) (by rfl) (by assumption) (v := ?_) ?_ ?_
               rotate_left
               · intro w hS; (try dsimp only at hS); first | (go_simp; done) | (go_simp; with_reducible rfl)
               try simp only [Act.put, List.setIfInBounds_toArray, List.set_cons_zero, List.set_cons_succ])
            | (refine held_off 20 rfl (by kernel_rfl) (fun _ _ _ h => h) (by rfl) (by assumption) ?_
               try simp only [Act.put, List.setIfInBounds_toArray, List.set_cons_zero, List.set_cons_succ])
            | (go_outline; fail "take 20")
          first
            | (refine held_on 22 rfl (by kernel_rfl) (fun _ _ _ h => h) (by rfl) (by assumption) (v := ?_) ?_ ?_
               rotate_left
               · intro w hS; (try dsimp only at hS); first | (go_simp; done) | (go_simp; with_reducible rfl)
               try simp only [Act.put, List.setIfInBounds_toArray, List.set_cons_zero, List.set_cons_succ])
            | (refine held_off 22 rfl (by kernel_rfl) (fun _ _ _ h => h) (by rfl) (by assumption) ?_
               try simp only [Act.put, List.setIfInBounds_toArray, List.set_cons_zero, List.set_cons_succ])
            | (go_outline; fail "take 22")
          first
            | (refine held_on 23 rfl (by kernel_rfl) (fun _ _ _ h => h) (by rfl) (by assumption) (v := ?_) ?_ ?_
               rotate_left
               · intro w hS; (try dsimp only at hS); first | (go_simp; done) | (go_simp; with_reducible rfl)
               try simp only [Act.put, List.setIfInBounds_toArray, List.set_cons_zero, List.set_cons_succ])
            | (refine held_off 23 rfl (by kernel_rfl) (fun _ _ _ h => h) (by rfl) (by assumption) ?_
               try simp only [Act.put, List.setIfInBounds_toArray, List.set_cons_zero, List.set_cons_succ])
            | (go_outline; fail "take 23")
          first
            | (refine held_on 24 rfl (by kernel_rfl) (fun _ _ _ h => h) (by rfl) (by assumption) (v := ?_) ?_ ?_
               rotate_left
               · intro w hS; (try dsimp only at hS); first | (go_simp; done) | (go_simp; with_reducible rfl)
               try simp only [Act.put, List.setIfInBounds_toArray, List.set_cons_zero, List.set_cons_succ])
            | (refine held_off 24 rfl (by kernel_rfl) (fun _ _ _ h => h) (by rfl) (by assumption) ?_
               try simp only [Act.put, List.setIfInBounds_toArray, List.set_cons_zero, List.set_cons_succ])
            | (go_outline; fail "take 24")
          refine wpAnyH_ready (rs := [21]) (by kernel_rfl) (by simp) (AllReadyH.cons rfl (fun K hK => ?_) AllReadyH.nil)
          go_simp
          refine hd.out.mono ?_
          rintro e wA ⟨rfl, hA⟩
          have HA := Lib.hid hA; clear hA
          obtain ⟨kA0, kA1⟩ : wA.cell? ⟨c, 0, none⟩ = some (.bool false) ∧ wA.cell? ⟨c, 1, none⟩ = some (.int .u32 b) := ⟨HA.out.upd.cell k0 (fun f => HTW.out.2 c (.inl f) rfl), HA.out.upd.cell k1 (fun f => HTW.out.2 c (.inl f) rfl)⟩
          go_wp2_with fail
          refine hK.out _ _ ⟨kA0, kA1⟩ (fun hHeld => ?_)
          clear hK K
          refine wpAnyH_ready (rs := [25]) (by kernel_rfl) (by simp) (AllReadyH.cons rfl (fun K hK => ?_) AllReadyH.nil)
          go_simp
          have hq := HA.out.ask (by omega) hr0
          rw [← HRB.out] at hq
          refine hq.mono ?_
          clear hq
          rintro e wB ⟨rfl, hB2, huB⟩
          rw [← HYS.out] at hB2
          obtain ⟨vB, g1, g2, g3⟩ := hB2.ref.has
          obtain ⟨aB, cB, hvB⟩ := (owns_reads g2).len
          subst hvB
          obtain ⟨kB0, kB1⟩ : wB.cell? ⟨c, 0, none⟩ = some (.bool false) ∧ wB.cell? ⟨c, 1, none⟩ = some (.int .u32 b) := ⟨huB.cell kA0 (fun f => HTW.out.2 c (.inr f) rfl), huB.cell kA1 (fun f => HTW.out.2 c (.inr f) rfl)⟩
          have rB : wB.cell? ⟨r, 0, none⟩ = some (.slice aB ys.length cB) := cell_at g1 0
          have HB2 := Lib.hid hB2
          have HGB2 := Lib.hid (owns_reads g2)
          have hrlt := lt_of_at g1
          clear hB2 huB g1 g2 g3
          go_wp2_with fail
          refine hK.out _ _ ⟨kB0, kB1⟩ (fun hHeld => ?_)
          clear hK K
          refine held_more (fun w' => w'.cell? ⟨c, 0, none⟩ = some (.bool false) ∧ w'.cell? ⟨c, 1, none⟩ = some (.int .u32 b) ∧ w'.cell? ⟨r, 0, none⟩ = some (.slice aB ys.length cB)) ⟨kB0, kB1, rB⟩ (fun _ h => ⟨h.1, h.2.1⟩) (fun hHeld => ?_)
          first
            | (refine held_on 26 rfl (by kernel_rfl) (fun _ _ _ h => h) (by rfl) (by assumption) (v := ?_) ?_ ?_
               rotate_left
               · intro w hS; (try dsimp only at hS); first | (go_simp; done) | (go_simp; with_reducible rfl)
               try simp only [Act.put, List.setIfInBounds_toArray, List.set_cons_zero, List.set_cons_succ])
            | (refine held_off 26 rfl (by kernel_rfl) (fun _ _ _ h => h) (by rfl) (by assumption) ?_
               try simp only [Act.put, List.setIfInBounds_toArray, List.set_cons_zero, List.set_cons_succ])
            | (go_outline; fail "take 26")
          first
            | (refine held_on 27 rfl (by kernel_rfl) (fun _ _ _ h => h) (by rfl) (by assumption) (v := ?_) ?_ ?_
               rotate_left
               · intro w hS; (try dsimp only at hS); first | (go_simp; done) | (go_simp; with_reducible rfl)
               try simp only [Act.put, List.setIfInBounds_toArray, List.set_cons_zero, List.set_cons_succ])
            | (refine held_off 27 rfl (by kernel_rfl) (fun _ _ _ h => h) (by rfl) (by assumption) ?_
               try simp only [Act.put, List.setIfInBounds_toArray, List.set_cons_zero, List.set_cons_succ])
            | (go_outline; fail "take 27")
          first
            | (refine held_on 28 rfl (by kernel_rfl) (fun _ _ _ h => h) (by rfl) (by assumption) (v := ?_) ?_ ?_
               rotate_left
               · intro w hS; (try dsimp only at hS); first | (go_simp; done) | (go_simp; with_reducible rfl)
               try simp only [Act.put, List.setIfInBounds_toArray, List.set_cons_zero, List.set_cons_succ])
            | (refine held_off 28 rfl (by kernel_rfl) (fun _ _ _ h => h) (by rfl) (by assumption) ?_
               try simp only [Act.put, List.setIfInBounds_toArray, List.set_cons_zero, List.set_cons_succ])
            | (go_outline; fail "take 28")
          first
            | (refine held_on 29 rfl (by kernel_rfl) (fun _ _ _ h => h) (by rfl) (by assumption) (v := ?_) ?_ ?_
               rotate_left
               · intro w hS; (try dsimp only at hS); first | (go_simp; done) | (go_simp; with_reducible rfl)
               try simp only [Act.put, List.setIfInBounds_toArray, List.set_cons_zero, List.set_cons_succ])
            | (refine held_off 29 rfl (by kernel_rfl) (fun _ _ _ h => h) (by rfl) (by assumption) ?_
               try simp only [Act.put, List.setIfInBounds_toArray, List.set_cons_zero, List.set_cons_succ])
            | (go_outline; fail "take 29")
          first
            | (refine held_on 30 rfl (by kernel_rfl) (fun _ _ _ h => h) (by rfl) (by assumption) (v := ?_) ?_ ?_
               rotate_left
               · intro w hS; (try dsimp only at hS); first | (go_simp; done) | (go_simp; with_reducible rfl)
               try simp only [Act.put, List.setIfInBounds_toArray, List.set_cons_zero, List.set_cons_succ])
            | (refine held_off 30 rfl (by kernel_rfl) (fun _ _ _ h => h) (by rfl) (by assumption) ?_
               try simp only [Act.put, List.setIfInBounds_toArray, List.set_cons_zero, List.set_cons_succ])
            | (go_outline; fail "take 30")
          first
            | (refine held_on 32 rfl (by kernel_rfl) (fun _ _ _ h => h) (by rfl) (by assumption) (v := ?_) ?_ ?_
               rotate_left
               · intro w hS; (try dsimp only at hS); first | (go_simp; done) | (go_simp; with_reducible rfl)
               try simp only [Act.put, List.setIfInBounds_toArray, List.set_cons_zero, List.set_cons_succ])
            | (refine held_off 32 rfl (by kernel_rfl) (fun _ _ _ h => h) (by rfl) (by assumption) ?_
               try simp only [Act.put, List.setIfInBounds_toArray, List.set_cons_zero, List.set_cons_succ])
            | (go_outline; fail "take 32")
          first
            | (refine held_on 33 rfl (by kernel_rfl) (fun _ _ _ h => h) (by rfl) (by assumption) (v := ?_) ?_ ?_
               rotate_left
               · intro w hS; (try dsimp only at hS); first | (go_simp; done) | (go_simp; with_reducible rfl)
               try simp only [Act.put, List.setIfInBounds_toArray, List.set_cons_zero, List.set_cons_succ])
            | (refine held_off 33 rfl (by kernel_rfl) (fun _ _ _ h => h) (by rfl) (by assumption) ?_
               try simp only [Act.put, List.setIfInBounds_toArray, List.set_cons_zero, List.set_cons_succ])
            | (go_outline; fail "take 33")
          first
            | (refine held_on 34 rfl (by kernel_rfl) (fun _ _ _ h => h) (by rfl) (by assumption) (v := ?_) ?_ ?_
               rotate_left
               · intro w hS; (try dsimp only at hS); first | (go_simp; done) | (go_simp; with_reducible rfl)
               try simp only [Act.put, List.setIfInBounds_toArray, List.set_cons_zero, List.set_cons_succ])
            | (refine held_off 34 rfl (by kernel_rfl) (fun _ _ _ h => h) (by rfl) (by assumption) ?_
               try simp only [Act.put, List.setIfInBounds_toArray, List.set_cons_zero, List.set_cons_succ])
            | (go_outline; fail "take 34")
          first
            | (refine held_on 35 rfl (by kernel_rfl) (fun _ _ _ h => h) (by rfl) (by assumption) (v := ?_) ?_ ?_
               rotate_left
               · intro w hS; (try dsimp only at hS); first | (go_simp; done) | (go_simp; with_reducible rfl)
               try simp only [Act.put, List.setIfInBounds_toArray, List.set_cons_zero, List.set_cons_succ])
            | (refine held_off 35 rfl (by kernel_rfl) (fun _ _ _ h => h) (by rfl) (by assumption) ?_
               try simp only [Act.put, List.setIfInBounds_toArray, List.set_cons_zero, List.set_cons_succ])
            | (go_outline; fail "take 35")
          refine wpAnyH_ready (rs := [31]) (by kernel_rfl) (by simp) (AllReadyH.cons rfl (fun K hK => ?_) AllReadyH.nil)
          go_simp
          refine (all_calls _ l room ys _ HB2.out.list).mono ?_
          rintro e wC ⟨vC, rfl, hoC, hbC⟩
          obtain ⟨aC, cC, hvC⟩ := (owns_reads hoC).len
          subst hvC
          have hS : wC.cell? ⟨c, 0, none⟩ = some (.bool false) ∧ wC.cell? ⟨c, 1, none⟩ = some (.int .u32 b) ∧ wC.cell? ⟨r, 0, none⟩ = some (.slice aB ys.length cB) := ⟨(hbC.cell (p := ⟨c, 0, none⟩) (World.block_lt_of_cell? _ _ kB0)).trans kB0, (hbC.cell (p := ⟨c, 1, none⟩) (World.block_lt_of_cell? _ _ kB1)).trans kB1, (hbC.cell (p := ⟨r, 0, none⟩) hrlt).trans rB⟩
          have HOC := Lib.hid hoC
          have HBC := Lib.hid hbC
          clear hoC hbC
          go_wp2_with fail
          refine hK.out _ _ hS (fun hHeld => ?_)
          clear hK K
          refine wpAnyH_ready (rs := [36]) (by kernel_rfl) (by simp) (AllReadyH.cons rfl (fun K hK => ?_) AllReadyH.nil)
          go_simp
          refine (same_calls _ _ _ ys ys (owns_reads HOC.out) (HGB2.out.below HBC.out (Nat.le_refl _)) (by have := HB2.out.list.size; unfold maxLen; omega)).mono ?_
          rintro e wD ⟨rfl, d, rfl⟩
          go_wp2_with fail
          refine hK.out _ _ hS (fun hHeld => ?_)
          clear hK K
          first
            | (refine held_on 37 rfl (by kernel_rfl) (fun _ _ _ h => h) (by rfl) (by assumption) (v := ?_) ?_ ?_
               rotate_left
               · intro w hS; (try dsimp only at hS); first | (go_simp; done) | (go_simp; with_reducible rfl)
               try simp only [Act.put, List.setIfInBounds_toArray, List.set_cons_zero, List.set_cons_succ])
            | (refine held_off 37 rfl (by kernel_rfl) (fun _ _ _ h => h) (by rfl) (by assumption) ?_
               try simp only [Act.put, List.setIfInBounds_toArray, List.set_cons_zero, List.set_cons_succ])
            | (go_outline; fail "take 37")
          first
            | (refine held_on 38 rfl (by kernel_rfl) (fun _ _ _ h => h) (by rfl) (by assumption) (v := ?_) ?_ ?_
               rotate_left
               · intro w hS; (try dsimp only at hS); first | (go_simp; done) | (go_simp; with_reducible rfl)
               try simp only [Act.put, List.setIfInBounds_toArray, List.set_cons_zero, List.set_cons_succ])
            | (refine held_off 38 rfl (by kernel_rfl) (fun _ _ _ h => h) (by rfl) (by assumption) ?_
               try simp only [Act.put, List.setIfInBounds_toArray, List.set_cons_zero, List.set_cons_succ])
            | (go_outline; fail "take 38")
          refine wpAnyH_done (by kernel_rfl) ?_ _
          go_wp2_with fail
          go_roundg (acts'.length - (k + 1))
          case measure => have := HX.out; omega
          case rel => exact ⟨k + 1, ys, _, _, by have := HX.out; omega, by go_num, HB2.out.same (below_drewN HBC.out _)⟩
      · go_wp2_with (first
          | ((with_reducible change wpList _ _ _ (⟨_, Op.indexAddr _ _ _, _, _, _, _⟩ :: _) _ _); refine wpl_index rfl _ _ _ rfl 35 2 Try.underlying22 sizeAct (by decide) _ _ _ HR.out rfl k rfl HX.out ?_; intro bk off _ hcell; have c0 := hcell 0 _ HK.out.1; have c1 := hcell 1 _ HK.out.2; clear hcell; simp only [Nat.add_zero] at c0))
        refine wp_world fun W hW => ?_
        obtain ⟨c, hcw⟩ : ∃ c, c = wr.heap.size := ⟨_, rfl⟩
        have k0 : W.cell? ⟨c, 0, none⟩ = some (.bool true) := by rw [hW, hcw]; simp
        have k1 : W.cell? ⟨c, 1, none⟩ = some (.int .u32 b) := by rw [hW, hcw]; simp
        have htw : Two w B l r room xs F1 F2 W ∧ ∀ j, F1 j ∨ F2 j → j ≠ c := by
          have hc := HC.out
          refine ⟨by rw [hW]; exact hc.alloc _, fun j hj => ?_⟩
          rcases hj with hj | hj
          · have := hc.list.lt j hj; omega
          · have := hc.ref.lt j hj; omega
        rw [← hcw]
        have HTW := Lib.hid htw; clear htw hW hcw HC
        have hd := Lib.hid (HTW.out.1.drop hwb.out (W' := W.drew) rfl ((Below.refl _ _).drew))
        obtain ⟨rb, hrb⟩ : ∃ rb, rb = decide (b ∈ xs) := ⟨_, rfl⟩
        rw [← hrb] at hd
        have HRB := Lib.hid hrb; clear hrb
        obtain ⟨ys, hys⟩ : ∃ ys, ys = act2 room xs true b := ⟨_, rfl⟩
        have HYS := Lib.hid hys; clear hys
        cases rb
        all_goals
          refine wp_region_held_drew (S := fun w' => w'.cell? ⟨c, 0, none⟩ = some (.bool true) ∧ w'.cell? ⟨c, 1, none⟩ = some (.int .u32 b)) rfl ⟨k0, k1⟩ (fun hHeld => ?_)
          first
            | (refine held_on 0 rfl (by kernel_rfl) (fun _ _ _ h => h) (by rfl) (by assumption) (v := ?_) ?_ ?_
               rotate_left
               · intro w hS; (try dsimp only at hS); first | (go_simp; done) | (go_simp; with_reducible rfl)
               try simp only [Act.put, List.setIfInBounds_toArray, List.set_cons_zero, List.set_cons_succ])
            | (refine held_off 0 rfl (by kernel_rfl) (fun _ _ _ h => h) (by rfl) (by assumption) ?_
               try simp only [Act.put, List.setIfInBounds_toArray, List.set_cons_zero, List.set_cons_succ])
            | (go_outline; fail "take 0")
          first
            | (refine held_on 1 rfl (by kernel_rfl) (fun _ _ _ h => h) (by rfl) (by assumption) (v := ?_) ?_ ?_
               rotate_left
               · intro w hS; (try dsimp only at hS); first | (go_simp; done) | (go_simp; with_reducible rfl)
               try simp only [Act.put, List.setIfInBounds_toArray, List.set_cons_zero, List.set_cons_succ])
            | (refine held_off 1 rfl (by kernel_rfl) (fun _ _ _ h => h) (by rfl) (by assumption) ?_
               try simp only [Act.put, List.setIfInBounds_toArray, List.set_cons_zero, List.set_cons_succ])
            | (go_outline; fail "take 1")
          first
            | (refine held_on 2 rfl (by kernel_rfl) (fun _ _ _ h => h) (by rfl) (by assumption) (v := ?_) ?_ ?_
               rotate_left
               · intro w hS; (try dsimp only at hS); first | (go_simp; done) | (go_simp; with_reducible rfl)
               try simp only [Act.put, List.setIfInBounds_toArray, List.set_cons_zero, List.set_cons_succ])
            | (refine held_off 2 rfl (by kernel_rfl) (fun _ _ _ h => h) (by rfl) (by assumption) ?_
               try simp only [Act.put, List.setIfInBounds_toArray, List.set_cons_zero, List.set_cons_succ])
            | (go_outline; fail "take 2")
          first
            | (refine held_on 3 rfl (by kernel_rfl) (fun _ _ _ h => h) (by rfl) (by assumption) (v := ?_) ?_ ?_
               rotate_left
               · intro w hS; (try dsimp only at hS); first | (go_simp; done) | (go_simp; with_reducible rfl)
               try simp only [Act.put, List.setIfInBounds_toArray, List.set_cons_zero, List.set_cons_succ])
            | (refine held_off 3 rfl (by kernel_rfl) (fun _ _ _ h => h) (by rfl) (by assumption) ?_
               try simp only [Act.put, List.setIfInBounds_toArray, List.set_cons_zero, List.set_cons_succ])
            | (go_outline; fail "take 3")
          first
            | (refine held_on 4 rfl (by kernel_rfl) (fun _ _ _ h => h) (by rfl) (by assumption) (v := ?_) ?_ ?_
               rotate_left
               · intro w hS; (try dsimp only at hS); first | (go_simp; done) | (go_simp; with_reducible rfl)
               try simp only [Act.put, List.setIfInBounds_toArray, List.set_cons_zero, List.set_cons_succ])
            | (refine held_off 4 rfl (by kernel_rfl) (fun _ _ _ h => h) (by rfl) (by assumption) ?_
               try simp only [Act.put, List.setIfInBounds_toArray, List.set_cons_zero, List.set_cons_succ])
            | (go_outline; fail "take 4")
          first
            | (refine held_on 5 rfl (by kernel_rfl) (fun _ _ _ h => h) (by rfl) (by assumption) (v := ?_) ?_ ?_
               rotate_left
               · intro w hS; (try dsimp only at hS); first | (go_simp; done) | (go_simp; with_reducible rfl)
               try simp only [Act.put, List.setIfInBounds_toArray, List.set_cons_zero, List.set_cons_succ])
            | (refine held_off 5 rfl (by kernel_rfl) (fun _ _ _ h => h) (by rfl) (by assumption) ?_
               try simp only [Act.put, List.setIfInBounds_toArray, List.set_cons_zero, List.set_cons_succ])
            | (go_outline; fail "take 5")
          first
            | (refine held_on 7 rfl (by kernel_rfl) (fun _ _ _ h => h) (by rfl) (by assumption) (v := ?_) ?_ ?_
               rotate_left
               · intro w hS; (try dsimp only at hS); first | (go_simp; done) | (go_simp; with_reducible rfl)
               try simp only [Act.put, List.setIfInBounds_toArray, List.set_cons_zero, List.set_cons_succ])
            | (refine held_off 7 rfl (by kernel_rfl) (fun _ _ _ h => h) (by rfl) (by assumption) ?_
               try simp only [Act.put, List.setIfInBounds_toArray, List.set_cons_zero, List.set_cons_succ])
            | (go_outline; fail "take 7")
          first
            | (refine held_on 8 rfl (by kernel_rfl) (fun _ _ _ h => h) (by rfl) (by assumption) (v := ?_) ?_ ?_
               rotate_left
               · intro w hS; (try dsimp only at hS); first | (go_simp; done) | (go_simp; with_reducible rfl)
               try simp only [Act.put, List.setIfInBounds_toArray, List.set_cons_zero, List.set_cons_succ])
            | (refine held_off 8 rfl (by kernel_rfl) (fun _ _ _ h => h) (by rfl) (by assumption) ?_
               try simp only [Act.put, List.setIfInBounds_toArray, List.set_cons_zero, List.set_cons_succ])
            | (go_outline; fail "take 8")
          first
            | (refine held_on 9 rfl (by kernel_rfl) (fun _ _ _ h => h) (by rfl) (by assumption) (v := ?_) ?_ ?_
               rotate_left
               · intro w hS; (try dsimp only at hS); first | (go_simp; done) | (go_simp; with_reducible rfl)
               try simp only [Act.put, List.setIfInBounds_toArray, List.set_cons_zero, List.set_cons_succ])
            | (refine held_off 9 rfl (by kernel_rfl) (fun _ _ _ h => h) (by rfl) (by assumption) ?_
               try simp only [Act.put, List.setIfInBounds_toArray, List.set_cons_zero, List.set_cons_succ])
            | (go_outline; fail "take 9")
          refine wpAnyH_ready (rs := [6]) (by kernel_rfl) (by simp) (AllReadyH.cons rfl (fun K hK => ?_) AllReadyH.nil)
          go_simp
          refine hd.out.mono ?_
          rintro e wA ⟨rfl, hA⟩
          have HA := Lib.hid hA; clear hA
          obtain ⟨kA0, kA1⟩ : wA.cell? ⟨c, 0, none⟩ = some (.bool true) ∧ wA.cell? ⟨c, 1, none⟩ = some (.int .u32 b) := ⟨HA.out.upd.cell k0 (fun f => HTW.out.2 c (.inl f) rfl), HA.out.upd.cell k1 (fun f => HTW.out.2 c (.inl f) rfl)⟩
          go_wp2_with fail
          refine hK.out _ _ ⟨kA0, kA1⟩ (fun hHeld => ?_)
          clear hK K
          refine wpAnyH_ready (rs := [10]) (by kernel_rfl) (by simp) (AllReadyH.cons rfl (fun K hK => ?_) AllReadyH.nil)
          go_simp
          have hq := HA.out.drop (by omega)
          rw [← HRB.out] at hq
          refine hq.mono ?_
          clear hq
          rintro e wB ⟨rfl, hB2, huB⟩
          rw [← HYS.out] at hB2
          obtain ⟨vB, g1, g2, g3⟩ := hB2.ref.has
          obtain ⟨aB, cB, hvB⟩ := (owns_reads g2).len
          subst hvB
          obtain ⟨kB0, kB1⟩ : wB.cell? ⟨c, 0, none⟩ = some (.bool true) ∧ wB.cell? ⟨c, 1, none⟩ = some (.int .u32 b) := ⟨huB.cell kA0 (fun f => HTW.out.2 c (.inr f) rfl), huB.cell kA1 (fun f => HTW.out.2 c (.inr f) rfl)⟩
          have rB : wB.cell? ⟨r, 0, none⟩ = some (.slice aB ys.length cB) := cell_at g1 0
          have HB2 := Lib.hid hB2
          have HGB2 := Lib.hid (owns_reads g2)
          have hrlt := lt_of_at g1
          clear hB2 huB g1 g2 g3
          go_wp2_with fail
          refine hK.out _ _ ⟨kB0, kB1⟩ (fun hHeld => ?_)
          clear hK K
          refine held_more (fun w' => w'.cell? ⟨c, 0, none⟩ = some (.bool true) ∧ w'.cell? ⟨c, 1, none⟩ = some (.int .u32 b) ∧ w'.cell? ⟨r, 0, none⟩ = some (.slice aB ys.length cB)) ⟨kB0, kB1, rB⟩ (fun _ h => ⟨h.1, h.2.1⟩) (fun hHeld => ?_)
          first
            | (refine held_on 11 rfl (by kernel_rfl) (fun _ _ _ h => h) (by rfl) (by assumption) (v := ?_) ?_ ?_
               rotate_left
               · intro w hS; (try dsimp only at hS); first | (go_simp; done) | (go_simp; with_reducible rfl)
               try simp only [Act.put, List.setIfInBounds_toArray, List.set_cons_zero, List.set_cons_succ])
            | (refine held_off 11 rfl (by kernel_rfl) (fun _ _ _ h => h) (by rfl) (by assumption) ?_
               try simp only [Act.put, List.setIfInBounds_toArray, List.set_cons_zero, List.set_cons_succ])
            | (go_outline; fail "take 11")
          first
            | (refine held_on 12 rfl (by kernel_rfl) (fun _ _ _ h => h) (by rfl) (by assumption) (v := ?_) ?_ ?_
               rotate_left
               · intro w hS; (try dsimp only at hS); first | (go_simp; done) | (go_simp; with_reducible rfl)
               try simp only [Act.put, List.setIfInBounds_toArray, List.set_cons_zero, List.set_cons_succ])
            | (refine held_off 12 rfl (by kernel_rfl) (fun _ _ _ h => h) (by rfl) (by assumption) ?_
               try simp only [Act.put, List.setIfInBounds_toArray, List.set_cons_zero, List.set_cons_succ])
            | (go_outline; fail "take 12")
          first
            | (refine held_on 13 rfl (by kernel_rfl) (fun _ _ _ h => h) (by rfl) (by assumption) (v := ?_) ?_ ?_
               rotate_left
               · intro w hS; (try dsimp only at hS); first | (go_simp; done) | (go_simp; with_reducible rfl)
               try simp only [Act.put, List.setIfInBounds_toArray, List.set_cons_zero, List.set_cons_succ])
            | (refine held_off 13 rfl (by kernel_rfl) (fun _ _ _ h => h) (by rfl) (by assumption) ?_
               try simp only [Act.put, List.setIfInBounds_toArray, List.set_cons_zero, List.set_cons_succ])
            | (go_outline; fail "take 13")
          first
            | (refine held_on 14 rfl (by kernel_rfl) (fun _ _ _ h => h) (by rfl) (by assumption) (v := ?_) ?_ ?_
               rotate_left
               · intro w hS; (try dsimp only at hS); first | (go_simp; done) | (go_simp; with_reducible rfl)
               try simp only [Act.put, List.setIfInBounds_toArray, List.set_cons_zero, List.set_cons_succ])
            | (refine held_off 14 rfl (by kernel_rfl) (fun _ _ _ h => h) (by rfl) (by assumption) ?_
               try simp only [Act.put, List.setIfInBounds_toArray, List.set_cons_zero, List.set_cons_succ])
            | (go_outline; fail "take 14")
          first
            | (refine held_on 15 rfl (by kernel_rfl) (fun _ _ _ h => h) (by rfl) (by assumption) (v := ?_) ?_ ?_
               rotate_left
               · intro w hS; (try dsimp only at hS); first | (go_simp; done) | (go_simp; with_reducible rfl)
               try simp only [Act.put, List.setIfInBounds_toArray, List.set_cons_zero, List.set_cons_succ])
            | (refine held_off 15 rfl (by kernel_rfl) (fun _ _ _ h => h) (by rfl) (by assumption) ?_
               try simp only [Act.put, List.setIfInBounds_toArray, List.set_cons_zero, List.set_cons_succ])
            | (go_outline; fail "take 15")
          first
            | (refine held_on 16 rfl (by kernel_rfl) (fun _ _ _ h => h) (by rfl) (by assumption) (v := ?_) ?_ ?_
               rotate_left
               · intro w hS; (try dsimp only at hS); first | (go_simp; done) | (go_simp; with_reducible rfl)
               try simp only [Act.put, List.setIfInBounds_toArray, List.set_cons_zero, List.set_cons_succ])
            | (refine held_off 16 rfl (by kernel_rfl) (fun _ _ _ h => h) (by rfl) (by assumption) ?_
               try simp only [Act.put, List.setIfInBounds_toArray, List.set_cons_zero, List.set_cons_succ])
            | (go_outline; fail "take 16")
          first
            | (refine held_on 17 rfl (by kernel_rfl) (fun _ _ _ h => h) (by rfl) (by assumption) (v := ?_) ?_ ?_
               rotate_left
               · intro w hS; (try dsimp only at hS); first | (go_simp; done) | (go_simp; with_reducible rfl)
               try simp only [Act.put, List.setIfInBounds_toArray, List.set_cons_zero, List.set_cons_succ])
            | (refine held_off 17 rfl (by kernel_rfl) (fun _ _ _ h => h) (by rfl) (by assumption) ?_
               try simp only [Act.put, List.setIfInBounds_toArray, List.set_cons_zero, List.set_cons_succ])
            | (go_outline; fail "take 17")
          first
            | (refine held_on 18 rfl (by kernel_rfl) (fun _ _ _ h => h) (by rfl) (by assumption) (v := ?_) ?_ ?_
               rotate_left
               · intro w hS; (try dsimp only at hS); first | (go_simp; done) | (go_simp; with_reducible rfl)
               try simp only [Act.put, List.setIfInBounds_toArray, List.set_cons_zero, List.set_cons_succ])
            | (refine held_off 18 rfl (by kernel_rfl) (fun _ _ _ h => h) (by rfl) (by assumption) ?_
               try simp only [Act.put, List.setIfInBounds_toArray, List.set_cons_zero, List.set_cons_succ])
            | (go_outline; fail "take 18")
          first
            | (refine held_on 19 rfl (by kernel_rfl) (fun _ _ _ h => h) (by rfl) (by assumption) (v := ?_) ?_ ?_
               rotate_left
               · intro w hS; (try dsimp only at hS); first | (go_simp; done) | (go_simp; with_reducible rfl)
               try simp only [Act.put, List.setIfInBounds_toArray, List.set_cons_zero, List.set_cons_succ])
            | (refine held_off 19 rfl (by kernel_rfl) (fun _ _ _ h => h) (by rfl) (by assumption) ?_
               try simp only [Act.put, List.setIfInBounds_toArray, List.set_cons_zero, List.set_cons_succ])
            | (go_outline; fail "take 19")
          first
            | (refine held_on 20 rfl (by kernel_rfl) (fun _ _ _ h => h) (by rfl) (by assumption) (v := ?_) ?_ ?_
               rotate_left
               · intro w hS; (try dsimp only at hS); first | (go_simp; done) | (go_simp; with_reducible rfl)
               try simp only [Act.put, List.setIfInBounds_toArray, List.set_cons_zero, List.set_cons_succ])
            | (refine held_off 20 rfl (by kernel_rfl) (fun _ _ _ h => h) (by rfl) (by assumption) ?_
               try simp only [Act.put, List.setIfInBounds_toArray, List.set_cons_zero, List.set_cons_succ])
            | (go_outline; fail "take 20")
          first
            | (refine held_on 21 rfl (by kernel_rfl) (fun _ _ _ h => h) (by rfl) (by assumption) (v := ?_) ?_ ?_
               rotate_left
               · intro w hS; (try dsimp only at hS); first | (go_simp; done) | (go_simp; with_reducible rfl)
               try simp only [Act.put, List.setIfInBounds_toArray, List.set_cons_zero, List.set_cons_succ])
            | (refine held_off 21 rfl (by kernel_rfl) (fun _ _ _ h => h) (by rfl) (by assumption) ?_
               try simp only [Act.put, List.setIfInBounds_toArray, List.set_cons_zero, List.set_cons_succ])
            | (go_outline; fail "take 21")
          first
            | (refine held_on 22 rfl (by kernel_rfl) (fun _ _ _ h => h) (by rfl) (by assumption) (v := ?_) ?_ ?_
               rotate_left
               · intro w hS; (try dsimp only at hS); first | (go_simp; done) | (go_simp; with_reducible rfl)
               try simp only [Act.put, List.setIfInBounds_toArray, List.set_cons_zero, List.set_cons_succ])
            | (refine held_off 22 rfl (by kernel_rfl) (fun _ _ _ h => h) (by rfl) (by assumption) ?_
               try simp only [Act.put, List.setIfInBounds_toArray, List.set_cons_zero, List.set_cons_succ])
            | (go_outline; fail "take 22")
          first
            | (refine held_on 23 rfl (by kernel_rfl) (fun _ _ _ h => h) (by rfl) (by assumption) (v := ?_) ?_ ?_
               rotate_left
               · intro w hS; (try dsimp only at hS); first | (go_simp; done) | (go_simp; with_reducible rfl)
               try simp only [Act.put, List.setIfInBounds_toArray, List.set_cons_zero, List.set_cons_succ])
            | (refine held_off 23 rfl (by kernel_rfl) (fun _ _ _ h => h) (by rfl) (by assumption) ?_
               try simp only [Act.put, List.setIfInBounds_toArray, List.set_cons_zero, List.set_cons_succ])
            | (go_outline; fail "take 23")
          first
            | (refine held_on 24 rfl (by kernel_rfl) (fun _ _ _ h => h) (by rfl) (by assumption) (v := ?_) ?_ ?_
               rotate_left
               · intro w hS; (try dsimp only at hS); first | (go_simp; done) | (go_simp; with_reducible rfl)
               try simp only [Act.put, List.setIfInBounds_toArray, List.set_cons_zero, List.set_cons_succ])
            | (refine held_off 24 rfl (by kernel_rfl) (fun _ _ _ h => h) (by rfl) (by assumption) ?_
               try simp only [Act.put, List.setIfInBounds_toArray, List.set_cons_zero, List.set_cons_succ])
            | (go_outline; fail "take 24")
          first
            | (refine held_on 25 rfl (by kernel_rfl) (fun _ _ _ h => h) (by rfl) (by assumption) (v := ?_) ?_ ?_
               rotate_left
               · intro w hS; (try dsimp only at hS); first | (go_simp; done) | (go_simp; with_reducible rfl)
               try simp only [Act.put, List.setIfInBounds_toArray, List.set_cons_zero, List.set_cons_succ])
            | (refine held_off 25 rfl (by kernel_rfl) (fun _ _ _ h => h) (by rfl) (by assumption) ?_
               try simp only [Act.put, List.setIfInBounds_toArray, List.set_cons_zero, List.set_cons_succ])
            | (go_outline; fail "take 25")
          first
            | (refine held_on 26 rfl (by kernel_rfl) (fun _ _ _ h => h) (by rfl) (by assumption) (v := ?_) ?_ ?_
               rotate_left
               · intro w hS; (try dsimp only at hS); first | (go_simp; done) | (go_simp; with_reducible rfl)
               try simp only [Act.put, List.setIfInBounds_toArray, List.set_cons_zero, List.set_cons_succ])
            | (refine held_off 26 rfl (by kernel_rfl) (fun _ _ _ h => h) (by rfl) (by assumption) ?_
               try simp only [Act.put, List.setIfInBounds_toArray, List.set_cons_zero, List.set_cons_succ])
            | (go_outline; fail "take 26")
          first
            | (refine held_on 27 rfl (by kernel_rfl) (fun _ _ _ h => h) (by rfl) (by assumption) (v := ?_) ?_ ?_
               rotate_left
               · intro w hS; (try dsimp only at hS); first | (go_simp; done) | (go_simp; with_reducible rfl)
               try simp only [Act.put, List.setIfInBounds_toArray, List.set_cons_zero, List.set_cons_succ])
            | (refine held_off 27 rfl (by kernel_rfl) (fun _ _ _ h => h) (by rfl) (by assumption) ?_
               try simp only [Act.put, List.setIfInBounds_toArray, List.set_cons_zero, List.set_cons_succ])
            | (go_outline; fail "take 27")
          first
            | (refine held_on 28 rfl (by kernel_rfl) (fun _ _ _ h => h) (by rfl) (by assumption) (v := ?_) ?_ ?_
               rotate_left
               · intro w hS; (try dsimp only at hS); first | (go_simp; done) | (go_simp; with_reducible rfl)
               try simp only [Act.put, List.setIfInBounds_toArray, List.set_cons_zero, List.set_cons_succ])
            | (refine held_off 28 rfl (by kernel_rfl) (fun _ _ _ h => h) (by rfl) (by assumption) ?_
               try simp only [Act.put, List.setIfInBounds_toArray, List.set_cons_zero, List.set_cons_succ])
            | (go_outline; fail "take 28")
          first
            | (refine held_on 29 rfl (by kernel_rfl) (fun _ _ _ h => h) (by rfl) (by assumption) (v := ?_) ?_ ?_
               rotate_left
               · intro w hS; (try dsimp only at hS); first | (go_simp; done) | (go_simp; with_reducible rfl)
               try simp only [Act.put, List.setIfInBounds_toArray, List.set_cons_zero, List.set_cons_succ])
            | (refine held_off 29 rfl (by kernel_rfl) (fun _ _ _ h => h) (by rfl) (by assumption) ?_
               try simp only [Act.put, List.setIfInBounds_toArray, List.set_cons_zero, List.set_cons_succ])
            | (go_outline; fail "take 29")
          first
            | (refine held_on 30 rfl (by kernel_rfl) (fun _ _ _ h => h) (by rfl) (by assumption) (v := ?_) ?_ ?_
               rotate_left
               · intro w hS; (try dsimp only at hS); first | (go_simp; done) | (go_simp; with_reducible rfl)
               try simp only [Act.put, List.setIfInBounds_toArray, List.set_cons_zero, List.set_cons_succ])
            | (refine held_off 30 rfl (by kernel_rfl) (fun _ _ _ h => h) (by rfl) (by assumption) ?_
               try simp only [Act.put, List.setIfInBounds_toArray, List.set_cons_zero, List.set_cons_succ])
            | (go_outline; fail "take 30")
          first
            | (refine held_on 32 rfl (by kernel_rfl) (fun _ _ _ h => h) (by rfl) (by assumption) (v := ?_) ?_ ?_
               rotate_left
               · intro w hS; (try dsimp only at hS); first | (go_simp; done) | (go_simp; with_reducible rfl)
               try simp only [Act.put, List.setIfInBounds_toArray, List.set_cons_zero, List.set_cons_succ])
            | (refine held_off 32 rfl (by kernel_rfl) (fun _ _ _ h => h) (by rfl) (by assumption) ?_
               try simp only [Act.put, List.setIfInBounds_toArray, List.set_cons_zero, List.set_cons_succ])
            | (go_outline; fail "take 32")
          first
            | (refine held_on 33 rfl (by kernel_rfl) (fun _ _ _ h => h) (by rfl) (by assumption) (v := ?_) ?_ ?_
               rotate_left
               · intro w hS; (try dsimp only at hS); first | (go_simp; done) | (go_simp; with_reducible rfl)
               try simp only [Act.put, List.setIfInBounds_toArray, List.set_cons_zero, List.set_cons_succ])
            | (refine held_off 33 rfl (by kernel_rfl) (fun _ _ _ h => h) (by rfl) (by assumption) ?_
               try simp only [Act.put, List.setIfInBounds_toArray, List.set_cons_zero, List.set_cons_succ])
            | (go_outline; fail "take 33")
          first
            | (refine held_on 34 rfl (by kernel_rfl) (fun _ _ _ h => h) (by rfl) (by assumption) (v := ?_) ?_ ?_
               rotate_left
               · intro w hS; (try dsimp only at hS); first | (go_simp; done) | (go_simp; with_reducible rfl)
               try simp only [Act.put, List.setIfInBounds_toArray, List.set_cons_zero, List.set_cons_succ])
            | (refine held_off 34 rfl (by kernel_rfl) (fun _ _ _ h => h) (by rfl) (by assumption) ?_
               try simp only [Act.put, List.setIfInBounds_toArray, List.set_cons_zero, List.set_cons_succ])
            | (go_outline; fail "take 34")
          first
            | (refine held_on 35 rfl (by kernel_rfl) (fun _ _ _ h => h) (by rfl) (by assumption) (v := ?_) ?_ ?_
               rotate_left
               · intro w hS; (try dsimp only at hS); first | (go_simp; done) | (go_simp; with_reducible rfl)
               try simp only [Act.put, List.setIfInBounds_toArray, List.set_cons_zero, List.set_cons_succ])
            | (refine held_off 35 rfl (by kernel_rfl) (fun _ _ _ h => h) (by rfl) (by assumption) ?_
               try simp only [Act.put, List.setIfInBounds_toArray, List.set_cons_zero, List.set_cons_succ])
            | (go_outline; fail "take 35")
          refine wpAnyH_ready (rs := [31]) (by kernel_rfl) (by simp) (AllReadyH.cons rfl (fun K hK => ?_) AllReadyH.nil)
          go_simp
          refine (all_calls _ l room ys _ HB2.out.list).mono ?_
          rintro e wC ⟨vC, rfl, hoC, hbC⟩
          obtain ⟨aC, cC, hvC⟩ := (owns_reads hoC).len
          subst hvC
          have hS : wC.cell? ⟨c, 0, none⟩ = some (.bool true) ∧ wC.cell? ⟨c, 1, none⟩ = some (.int .u32 b) ∧ wC.cell? ⟨r, 0, none⟩ = some (.slice aB ys.length cB) := ⟨(hbC.cell (p := ⟨c, 0, none⟩) (World.block_lt_of_cell? _ _ kB0)).trans kB0, (hbC.cell (p := ⟨c, 1, none⟩) (World.block_lt_of_cell? _ _ kB1)).trans kB1, (hbC.cell (p := ⟨r, 0, none⟩) hrlt).trans rB⟩
          have HOC := Lib.hid hoC
          have HBC := Lib.hid hbC
          clear hoC hbC
          go_wp2_with fail
          refine hK.out _ _ hS (fun hHeld => ?_)
          clear hK K
          refine wpAnyH_ready (rs := [36]) (by kernel_rfl) (by simp) (AllReadyH.cons rfl (fun K hK => ?_) AllReadyH.nil)
          go_simp
          refine (same_calls _ _ _ ys ys (owns_reads HOC.out) (HGB2.out.below HBC.out (Nat.le_refl _)) (by have := HB2.out.list.size; unfold maxLen; omega)).mono ?_
          rintro e wD ⟨rfl, d, rfl⟩
          go_wp2_with fail
          refine hK.out _ _ hS (fun hHeld => ?_)
          clear hK K
          first
            | (refine held_on 37 rfl (by kernel_rfl) (fun _ _ _ h => h) (by rfl) (by assumption) (v := ?_) ?_ ?_
               rotate_left
               · intro w hS; (try dsimp only at hS); first | (go_simp; done) | (go_simp; with_reducible rfl)
               try simp only [Act.put, List.setIfInBounds_toArray, List.set_cons_zero, List.set_cons_succ])
            | (refine held_off 37 rfl (by kernel_rfl) (fun _ _ _ h => h) (by rfl) (by assumption) ?_
               try simp only [Act.put, List.setIfInBounds_toArray, List.set_cons_zero, List.set_cons_succ])
            | (go_outline; fail "take 37")
          first
            | (refine held_on 38 rfl (by kernel_rfl) (fun _ _ _ h => h) (by rfl) (by assumption) (v := ?_) ?_ ?_
               rotate_left
               · intro w hS; (try dsimp only at hS); first | (go_simp; done) | (go_simp; with_reducible rfl)
               try simp only [Act.put, List.setIfInBounds_toArray, List.set_cons_zero, List.set_cons_succ])
            | (refine held_off 38 rfl (by kernel_rfl) (fun _ _ _ h => h) (by rfl) (by assumption) ?_
               try simp only [Act.put, List.setIfInBounds_toArray, List.set_cons_zero, List.set_cons_succ])
            | (go_outline; fail "take 38")
          refine wpAnyH_done (by kernel_rfl) ?_ _
          go_wp2_with fail
          go_roundg (acts'.length - (k + 1))
          case measure => have := HX.out; omega
          case rel => exact ⟨k + 1, ys, _, _, by have := HX.out; omega, by go_num, HB2.out.same (below_drewN HBC.out _)⟩
    · have hb := HC.out.below
      have : ¬ ((k : Int) < (acts'.length : Int)) := by omega
      go_wp2_with fail
      go_ret
      exact ⟨rfl, hb⟩
set_option maxHeartbeats 1000000 in
theorem walk_out (room : Int) (v : Value) (w : World) (hr : room < 0 ∨ 4096 < room) :
    Calls Try.prog 3 #[.int .i64 room, v] w fun e w' => e = .returned (.bool true) ∧ Below w.heap.size w w' := by
  have hd : (decide (room < 0) || decide (4096 < room)) = true := by simpa using hr
  go_enter Try.func3, Try.ntmps3
  go_wp2_with fail
  refine (shown15_calls w).mono ?_
  rintro e w0 ⟨rfl, hb0⟩
  go_wp2_with fail
  refine (new_bad_calls w0 room hr).mono ?_
  rintro e w1 ⟨rfl, rfl⟩
  go_wp2_with fail
  all_goals
    go_ret
    exact ⟨rfl, hb0⟩
theorem walk (room : Int) (acts : List (Bool × Int)) (v : Value) (w : World) 
    (hv : Reads w 2 v acts.length (acts.flatMap actCells)) (hl : acts.length ≤ maxLen) (hw : ∀ p ∈ acts, (Lit.int .u32 p.2).wf = true) :
    Calls Try.prog 3 #[.int .i64 room, v] w fun e w' => e = .returned (.bool true) ∧ Below w.heap.size w w' := by
  by_cases h0 : 0 ≤ room
  · by_cases h1 : room ≤ 4096
    · exact walk_in room acts v w h0 h1 hv hl hw
    · exact walk_out room v w (.inr (by omega))
  · exact walk_out room v w (.inl (by omega))
end Go.Proofs.Ytikdejiiklpepaa.ghostPlays
