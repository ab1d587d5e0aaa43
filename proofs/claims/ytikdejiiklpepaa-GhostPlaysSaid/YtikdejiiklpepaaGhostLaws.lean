/- What this text proves: the contracts of the helpers of package pumicelaw15. Conditions: each theorem's own. -/
import Derived.Test.YtikdejiiklpepaaGhostRef
import Derived.Test.YtikdejiiklpepaaRowKit
namespace Go.Proofs.Ytikdejiiklpepaa
open Go Go.RowKit
open Go.Proofs

/-- the blocks from B on that are there. -/
def from_ (B : Nat) (w : World) (k : Nat) : Prop := B ≤ k ∧ k < w.heap.size

theorem GList.grow {w : World} {l : Nat} {room : Int} {xs : List Int} {F G : Nat → Prop} (h : GList w l room xs F) (hg : ∀ k, F k → G k) (hl : ∀ k, G k → k < w.heap.size) : GList w l room xs G := by
  obtain ⟨bm, ns, h1, h2, h3⟩ := h.has
  exact ⟨⟨bm, ns, h1, h2, fun k hk => hg k (h3 k hk)⟩, hl⟩

theorem new_from (B : Nat) (w : World) (n : Int) (h0 : 0 ≤ n) (h1 : n ≤ 4096) (hB : B ≤ w.heap.size) :
    Calls Try.prog 9 #[.int .i64 n] w fun e w' => ∃ l, e = .returned (.tuple #[pt l, .int .i64 0]) ∧ GList w' l n [] (from_ B w') ∧ Below B w w' := by
  refine (new_calls w n h0 h1).mono ?_
  rintro e w' ⟨l, rfl, hg, hu⟩
  exact ⟨l, rfl, hg.grow (fun k hk => ⟨Nat.le_trans hB hk.1, hk.2⟩) (fun k hk => hk.2), hu.below hB (fun _ f => f.elim)⟩
theorem ask_from (B : Nat) (w : World) (l : Nat) (room : Int) (xs : List Int) (a : Int) (hw : (Lit.int .u32 a).wf = true) (h : GList w l room xs (from_ B w)) (hB : B ≤ w.heap.size) :
    Calls Try.prog 13 #[pt l, .int .u32 a] w fun e w' => e = .returned (.bool (decide (a ∈ xs))) ∧ GList w' l room (askList room xs a) (from_ B w') ∧ Below B w w' := by
  refine (ask_calls w l room xs _ a hw h).mono ?_
  rintro e w' ⟨rfl, hg, hu⟩
  have hs := hu.size
  refine ⟨rfl, hg.grow (fun k hk => ?_) (fun k hk => hk.2), hu.below hB (fun _ f => f.1)⟩
  rcases hk with hk | hk
  · exact ⟨hk.1, Nat.lt_of_lt_of_le hk.2 hs⟩
  · exact ⟨Nat.le_trans hB hk.1, hk.2⟩
theorem drop_from (B : Nat) (w : World) (l : Nat) (room : Int) (xs : List Int) (a : Int) (hw : (Lit.int .u32 a).wf = true) (h : GList w l room xs (from_ B w)) (hB : B ≤ w.heap.size) :
    Calls Try.prog 11 #[pt l, .int .u32 a] w fun e w' => e = .returned (.bool (decide (a ∈ xs))) ∧ GList w' l room (xs.erase a) (from_ B w') ∧ Below B w w' := by
  refine (drop_calls w l room xs _ a hw h).mono ?_
  rintro e w' ⟨rfl, hg, hu⟩
  have hs := hu.size
  exact ⟨rfl, hg.grow (fun k hk => ⟨hk.1, Nat.lt_of_lt_of_le hk.2 hs⟩) (fun k hk => hk.2), hu.below hB (fun _ f => f.1)⟩
theorem all_from (B : Nat) (w : World) (l : Nat) (room : Int) (xs : List Int) (h : GList w l room xs (from_ B w)) (hB : B ≤ w.heap.size) :
    Calls Try.prog 16 #[pt l] w fun e w' => ∃ v, e = .returned v ∧ w'.ownsRow w.heap.size 33 1 v xs.length (xs.map (.int .u32)) ∧ GList w' l room xs (from_ B w') ∧ Below B w w' := by
  refine (all_calls w l room xs _ h).mono ?_
  rintro e w' ⟨v, rfl, hv, hb⟩
  refine ⟨v, rfl, hv, (h.upd (below_upd hb) (fun k hk => Nat.not_le.2 hk.2)).grow (fun k hk => ⟨hk.1, Nat.lt_of_lt_of_le hk.2 hb.size⟩) (fun k hk => hk.2), hb.mono hB⟩

set_option maxHeartbeats 2000000 in
theorem shown15_calls (w : World) : Calls Try.prog 8 #[] w fun e w' => e = .returned (.bool true) ∧ Below w.heap.size w w' := by
  obtain ⟨B, hB⟩ : ∃ B, B = w.heap.size := ⟨_, rfl⟩
  rw [← hB]
  have HB : Hid (B = w.heap.size) := Lib.hid hB
  clear hB
  go_enter Try.func8, Try.ntmps8
  go_wp2_with fail
  refine (new_from B w 2 (by omega) (by omega) (by rw [HB.out]; exact Nat.le_refl _)).mono ?_
  rintro e w0 ⟨l, rfl, hg, hb0⟩
  have hs0 : B ≤ w0.heap.size := by have := hb0.size; rw [HB.out]; exact this
  go_wp2_with fail
  refine (ask_from B w0 l 2 [] 5 (by decide) hg hs0).mono ?_
  rintro e w1 ⟨rfl, hg1, hb⟩
  have hb1 := hb0.trans hb; have hs1 := Nat.le_trans hs0 hb.size; clear hb hb0 hg hs0
  rw [show askList 2 [] 5 = [5] by decide] at hg1
  go_wp2_with fail
  refine (ask_from B w1 l 2 [5] 7 (by decide) hg1 hs1).mono ?_
  rintro e w2 ⟨rfl, hg2, hb⟩
  have hb2 := hb1.trans hb; have hs2 := Nat.le_trans hs1 hb.size; clear hb hb1 hg1 hs1
  rw [show askList 2 [5] 7 = [7, 5] by decide] at hg2
  go_wp2_with fail
  refine (ask_from B w2 l 2 [7, 5] 5 (by decide) hg2 hs2).mono ?_
  rintro e w3 ⟨rfl, hg3, hb⟩
  have hb3 := hb2.trans hb; have hs3 := Nat.le_trans hs2 hb.size; clear hb hb2 hg2 hs2
  rw [show askList 2 [7, 5] 5 = [7] by decide] at hg3
  go_wp2_with fail
  refine (ask_from B w3 l 2 [7] 9 (by decide) hg3 hs3).mono ?_
  rintro e w4 ⟨rfl, hg4, hb⟩
  have hb4 := hb3.trans hb; have hs4 := Nat.le_trans hs3 hb.size; clear hb hb3 hg3 hs3
  rw [show askList 2 [7] 9 = [9, 7] by decide] at hg4
  go_wp2_with fail
  refine (ask_from B w4 l 2 [9, 7] 11 (by decide) hg4 hs4).mono ?_
  rintro e w5 ⟨rfl, hg5, hb⟩
  have hb5 := hb4.trans hb; have hs5 := Nat.le_trans hs4 hb.size; clear hb hb4 hg4 hs4
  rw [show askList 2 [9, 7] 11 = [11, 9] by decide] at hg5
  go_wp2_with fail
  refine (ask_from B w5 l 2 [11, 9] 7 (by decide) hg5 hs5).mono ?_
  rintro e w6 ⟨rfl, hg6, hb⟩
  have hb6 := hb5.trans hb; have hs6 := Nat.le_trans hs5 hb.size; clear hb hb5 hg5 hs5
  rw [show askList 2 [11, 9] 7 = [7, 11] by decide] at hg6
  go_wp2_with fail
  refine (all_from B w6 l 2 [7, 11] hg6 hs6).mono ?_
  rintro e w7 ⟨v, rfl, hv, hg7, hb⟩
  have hb7 := hb6.trans hb; have hs7 := Nat.le_trans hs6 hb.size; clear hb hb6 hg6 hs6
  go_wp2_with fail
  refine (same_calls _ v _ [7, 11] [7, 11] ((owns_reads hv).keep (fun k _ hk => Below.heap_alloc _ _ _ hk)) (owns_reads (owns_lit w7 [.int .u32 7, .int .u32 11] 33 (by unfold maxLen; simp))) (by unfold maxLen; simp)).mono ?_
  rintro e w8 ⟨rfl, d, rfl⟩
  go_wp2_with fail
  go_ret
  refine ⟨rfl, ?_⟩
  have := hb7.alloc hs7 (.cells #[.int .u32 7, .int .u32 11] 33)
  exact ⟨this.os, this.tape, this.output, this.size, this.block⟩

theorem few_calls (w : World) (v : Value) (n : Nat) (xs : List Value) (h : Reads w 2 v n xs) (hn : n ≤ maxLen) :
    Calls Try.prog 10 #[v] w fun e w' => ∃ v', e = .returned v' ∧ Sliced 2 v n v' 0 (min n 300) ∧ w = w' := by
  obtain ⟨a, c, rfl⟩ := h.len
  unfold maxLen at hn
  have hsz : ∀ w, (sizeOf 35).run Try.prog w = .ok 2 w := fun w => by kernel_rfl
  by_cases hc : n ≤ 300
  · rw [Nat.min_eq_left hc]
    have HH := Lib.hid h; clear h
    go_enter Try.func10, Try.ntmps10
    go_wp2_with (first | ((with_reducible change wpList _ _ _ (⟨_, Op.slice _ _ _ _ _, _, _, _, _⟩ :: _) _ _); refine wpl_slice rfl _ _ _ _ rfl 35 2 Try.underlying22 hsz _ _ _ HH.out rfl 0 n (.inl ⟨rfl, rfl⟩) (.inr rfl) (Nat.zero_le _) (Nat.le_refl _) ?_; intro v1 hs1; have HS := Lib.hid hs1; clear hs1))
    go_ret
    exact ⟨v1, rfl, HS.out, rfl⟩
  · rw [Nat.min_eq_right (by omega)]
    have HH := Lib.hid h; clear h
    have h300 : (300 : Int) ≤ n := by omega
    go_enter Try.func10, Try.ntmps10
    go_wp2_with (first | ((with_reducible change wpList _ _ _ (⟨_, Op.slice _ _ _ _ _, _, _, _, _⟩ :: _) _ _); refine wpl_slice rfl _ _ _ _ rfl 35 2 Try.underlying22 hsz _ _ _ HH.out rfl 0 300 (.inl ⟨rfl, rfl⟩) (.inr rfl) (Nat.zero_le _) (by omega) ?_; intro v1 hs1; have HS := Lib.hid hs1; clear hs1))
    go_ret
    exact ⟨v1, rfl, HS.out, rfl⟩

/-- an act's cells. -/
def actCells (p : Bool × Int) : List Value := [.bool p.1, .int .u32 p.2]
theorem cellsAct : Try.prog.cellsOf 35 = 2 := by kernel_rfl
theorem flatAct : flatK Try.prog 5 35 = some [.bool, .int .u32] := by rfl

/-- Acts that came in. -/
theorem open_acts {H : Type} {enc : TypeId × Value → H} {w : World} {spare : Nat → Bool} {held : Bool} {base0 : Nat} {v : Value} {d : DataW H} {p : List MemPlace} (hok : ∃ a n c, v = .slice a n c) (h : DataW.Trod enc Try.prog w base0 spare held 22 v d p) :
    ∃ acts : List (Bool × Int), Reads w 2 v acts.length (acts.flatMap actCells) ∧ acts.length ≤ maxLen ∧ ∀ p ∈ acts, (Lit.int .u32 p.2).wf = true := by
  obtain ⟨n, xs, h1, h2, h3, _⟩ := open_flat Try.underlying22 cellsAct flatAct hok h
  obtain ⟨l, g1, g2, g3⟩ := list_of_pieces actCells (fun p => (Lit.int .u32 p.2).wf = true) 2 (fun _ => rfl) n xs h1.1 (fun i hi => by
    have hf := h3 i hi
    generalize (xs.drop (i * 2)).take 2 = cs at hf ⊢
    match cs, hf with
    | [_, _], ⟨⟨b, rfl⟩, ⟨a, rfl, hw⟩, _⟩ => exact ⟨(b, a), rfl, hw⟩)
  subst g1 g2
  exact ⟨l, h1, h2, g3⟩

/-- what acts come to. -/
def act1 (room : Int) (xs : List Int) (p : Bool × Int) : List Int := if p.1 then xs.erase p.2 else askList room xs p.2
def play (room : Int) (acts : List (Bool × Int)) : List Int := acts.foldl (act1 room) []
theorem play_snoc (room : Int) (acts : List (Bool × Int)) (k : Nat) (hk : k < acts.length) : play room (acts.take (k + 1)) = act1 room (play room (acts.take k)) acts[k] := by
  unfold play
  rw [List.take_succ_eq_append_getElem hk, List.foldl_append]
  rfl
theorem GList.alloc {w : World} {l : Nat} {room : Int} {xs : List Int} {B : Nat} (h : GList w l room xs (from_ B w)) (o : Obj) : GList (w.alloc o) l room xs (from_ B (w.alloc o)) :=
  (h.upd ((Upd.refl (fun _ => False) w).alloc o) (fun _ _ f => f)).grow (fun k hk => ⟨hk.1, Nat.lt_of_lt_of_le hk.2 (by simp)⟩) (fun k hk => hk.2)
theorem GList.once {w : World} {l : Nat} {room : Int} {xs : List Int} {F : Nat → Prop} (h : GList w l room xs F) : xs.Nodup := by
  obtain ⟨bm, ns, h1, rfl, _⟩ := h.has
  exact h1.once
theorem GList.wf {w : World} {l : Nat} {room : Int} {xs : List Int} {F : Nat → Prop} (h : GList w l room xs F) : ∀ x ∈ xs, (Lit.int .u32 x).wf = true := by
  obtain ⟨bm, ns, h1, rfl, _⟩ := h.has
  intro x hx
  obtain ⟨m, hm, rfl⟩ := List.mem_map.1 hx
  exact h1.wf m hm
theorem GList.size {w : World} {l : Nat} {room : Int} {xs : List Int} {F : Nat → Prop} (h : GList w l room xs F) : (xs.length : Int) ≤ room ∧ room ≤ 4096 := by
  obtain ⟨bm, ns, h1, rfl, _⟩ := h.has
  exact ⟨by simpa using h1.size, h1.most⟩

/-- behind k acts. -/
structure Acted (w : World) (B l : Nat) (room : Int) (acts : List (Bool × Int)) (k : Nat) (wr : World) : Prop where
  list : GList wr l room (play room (acts.take k)) (from_ B wr)
  size : B ≤ wr.heap.size
  below : Below B w wr

theorem Acted.drop {w : World} {B l : Nat} {room : Int} {acts : List (Bool × Int)} {k : Nat} {wr : World} (h : Acted w B l room acts k wr) (hk : k < acts.length) {b : Int} (he : acts[k] = (true, b)) (hw : (Lit.int .u32 b).wf = true) (o : Obj) :
    Calls Try.prog 11 #[pt l, .int .u32 b] (wr.alloc o) fun e w' => (∃ r, e = .returned (.bool r)) ∧ Acted w B l room acts (k + 1) w' ∧ Upd (from_ B wr) (wr.alloc o) w' := by
  have hl : GList (wr.alloc o) l room (play room (acts.take k)) (from_ B wr) := h.list.upd ((Upd.refl (fun _ => False) wr).alloc o) (fun _ _ f => f)
  have hs := h.size
  refine (drop_calls (wr.alloc o) l room _ _ b hw hl).mono ?_
  rintro e w' ⟨rfl, hg, hu⟩
  have hz := hu.size
  simp only [World.size_alloc] at hz
  refine ⟨⟨_, rfl⟩, ⟨?_, by omega, (h.below.alloc h.size o).trans (hu.below (by simp; omega) (fun _ f => f.1))⟩, hu⟩
  rw [play_snoc _ _ _ hk, he]
  refine GList.grow (xs := (play room (acts.take k)).erase b) hg (fun j hj => ?_) (fun j hj => hj.2)
  exact ⟨hj.1, by have := hj.2; omega⟩
theorem Acted.ask {w : World} {B l : Nat} {room : Int} {acts : List (Bool × Int)} {k : Nat} {wr : World} (h : Acted w B l room acts k wr) (hk : k < acts.length) {b : Int} (he : acts[k] = (false, b)) (hw : (Lit.int .u32 b).wf = true) (o : Obj) :
    Calls Try.prog 13 #[pt l, .int .u32 b] (wr.alloc o) fun e w' => (∃ r, e = .returned (.bool r)) ∧ Acted w B l room acts (k + 1) w' ∧ Upd (from_ B wr) (wr.alloc o) w' := by
  have hl : GList (wr.alloc o) l room (play room (acts.take k)) (from_ B wr) := h.list.upd ((Upd.refl (fun _ => False) wr).alloc o) (fun _ _ f => f)
  have hs := h.size
  refine (ask_calls (wr.alloc o) l room _ _ b hw hl).mono ?_
  rintro e w' ⟨rfl, hg, hu⟩
  have hz := hu.size
  simp only [World.size_alloc] at hz
  refine ⟨⟨_, rfl⟩, ⟨?_, by omega, (h.below.alloc h.size o).trans (hu.below (by simp; omega) (fun _ f => f.1))⟩, hu⟩
  rw [play_snoc _ _ _ hk, he]
  refine GList.grow (xs := askList room (play room (acts.take k)) b) hg (fun j hj => ?_) (fun j hj => hj.2)
  rcases hj with hj | hj
  · exact ⟨hj.1, by have := hj.2; omega⟩
  · exact ⟨by have := hj.1; simp at this; omega, hj.2⟩
/-- a loop over acts. -/
def ActRel (w : World) (B l : Nat) (room : Int) (acts : List (Bool × Int)) (m : Nat) (i : Value) (wr : World) : Prop := ∃ k : Nat, k + m = acts.length ∧ i = .int .i64 k ∧ Acted w B l room acts k wr
theorem sizeAct (w : World) : (sizeOf 35).run Try.prog w = .ok 2 w := by kernel_rfl

theorem acts_cells {acts : List (Bool × Int)} {k : Nat} (hk : k < acts.length) {g : Bool} {b : Int} (he : acts[k] = (g, b)) : (acts.flatMap actCells)[k * 2 + 0]? = some (.bool g) ∧ (acts.flatMap actCells)[k * 2 + 1]? = some (.int .u32 b) := by
  rw [flatMap_get actCells 2 (fun _ => rfl) _ _ _ hk (by decide), flatMap_get actCells 2 (fun _ => rfl) _ _ _ hk (by decide), he]
  exact ⟨rfl, rfl⟩

theorem cellsU32 : Try.prog.cellsOf 33 = 1 := by kernel_rfl
theorem flatU32 : flatK Try.prog 5 33 = some [.int .u32] := by rfl
/-- Numbers that came in. -/
theorem open_u32s {H : Type} {enc : TypeId × Value → H} {w : World} {spare : Nat → Bool} {held : Bool} {base0 : Nat} {v : Value} {d : DataW H} {p : List MemPlace} (hok : ∃ a n c, v = .slice a n c) (h : DataW.Trod enc Try.prog w base0 spare held 29 v d p) :
    ∃ xs : List Int, Reads w 1 v xs.length (xs.map (.int .u32)) ∧ xs.length ≤ maxLen ∧ ∀ x ∈ xs, (Lit.int .u32 x).wf = true := by
  obtain ⟨n, xs, h1, h2, h3, _⟩ := open_flat Try.underlying29 cellsU32 flatU32 hok h
  obtain ⟨l, g1, g2, g3⟩ := list_of_pieces (fun x => [Value.int .u32 x]) (fun x => (Lit.int .u32 x).wf = true) 1 (fun _ => rfl) n xs h1.1 (fun i hi => by
    have hf := h3 i hi
    generalize (xs.drop (i * 1)).take 1 = cs at hf ⊢
    match cs, hf with
    | [_], ⟨⟨a, rfl, hw⟩, _⟩ => exact ⟨a, rfl, hw⟩)
  have e := flatMap_one (Value.int .u32) l
  subst g1 g2
  rw [e] at h1
  exact ⟨l, h1, h2, g3⟩
theorem elem_u32 {xs : List Int} {q : Nat} (h : q < xs.length) : ∃ x, x ∈ xs ∧ (xs.map (Value.int .u32))[q]? = some (.int .u32 x) := ⟨xs[q], List.getElem_mem _, by simp [h]⟩
end Go.Proofs.Ytikdejiiklpepaa
