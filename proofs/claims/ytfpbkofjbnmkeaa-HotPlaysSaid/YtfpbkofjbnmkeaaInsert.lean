/- What this text proves: slices.Insert of one number ahead of a row of numbers. Conditions: the row lies in memory of its own. -/
import Derived.Test.YtfpbkofjbnmkeaaU32
import Derived.Shelf.Spec.SlicesInsertGrow
import Derived.RegionTactic
import Derived.ChangeAlike
import Derived.StillTailTactics
import Derived.Outline
import Derived.Lib.Hide
import Derived.Deep.LoopGhost
namespace Go.Proofs.Ytfpbkofjbnmkeaa
open Go Go.RowKit Go.Shelf Go.Lib
open Go.Proofs
set_option linter.unusedVariables false
set_option linter.unusedSimpArgs false

/-- the row is empty. -/
theorem insert_empty {w : World} {base : Nat} {v : Value} (h : w.ownsRow base 23 1 v 0 []) (a : Int) {vb : Nat} (hvb : w.heap[vb]? = some (.cells #[.int .u32 a] 23 (0, 0))) (hbase : base ≤ w.heap.size) :
    Calls Try.prog 33 #[v, .int .i64 0, .slice (some ⟨vb, 0, none⟩) 1 1] w fun e w' => ∃ v', e = .returned v' ∧ w'.ownsRow base 23 1 v' 1 [.int .u32 a] ∧ Upd (fun k => v.ownBlock = some k) w w' ∧ (∀ k, v'.ownBlock = some k → v.ownBlock = some k ∨ fresh w w' k) := by
  obtain ⟨i0, hi, hz0, hz1, hz2⟩ := info_parts infoU
  have hsrc : Reads w 1 (.slice (some ⟨vb, 0, none⟩) 1 1) 1 [.int .u32 a] := ⟨rfl, .inr ⟨_, _, rfl, by omega, fun j u hj => by
    rw [add_lit]
    have : j = 0 := by have := (List.getElem?_eq_some_iff.1 hj).1; simp at this; omega
    subst this
    rw [cell_at hvb]
    simpa using hj⟩⟩
  have HS := Lib.hid hsrc; have HH := Lib.hid h; have HB := Lib.hid hbase
  have hv : v = .slice none 0 0 ∨ ∃ g c, v = .slice (some ⟨g, 0, none⟩) 0 c := by
    rcases h.2 with ⟨rfl, _⟩ | ⟨g, cap, cur, rfl, _⟩
    · exact .inl rfl
    · exact .inr ⟨g, cap, rfl⟩
  clear h hsrc hvb hbase
  rcases hv with rfl | ⟨g, c, rfl⟩
  · go_enter Try.func33, Try.ntmps33
    go_wp2_with (first
      | ((with_reducible change wpList _ _ _ (⟨_, Op.call { callee := Callee.builtin Builtin.append, args := _, argTypes := _ }, _, _, _, _⟩ :: _) _ _); refine wpl_append rfl _ _ 44 rfl base 23 i0 (.int .u32 0) 1 4 Try.underlying44 hi hz0 hz1 hz2 rfl (by decide) _ _ _ HH.out rfl _ _ _ HS.out rfl (by intro u hu; obtain rfl := List.mem_singleton.1 hu; rfl) (by unfold maxLen; omega) (by omega) HB.out ?_; intro v' w' ho hg hk; have HO := Lib.hid (And.intro ho (And.intro hg hk)); clear ho hg hk))
    go_ret
    refine ⟨v', rfl, by simpa using HO.out.1, (Upd.refl _ w).grown HO.out.2.1 (fun k hk _ => hk), fun k hk => ?_⟩
    rcases HO.out.2.2 with e | e
    · exact .inl (by rw [← e]; exact hk)
    · refine .inr ?_
      rw [e] at hk
      have := (HO.out.1.lt k (by rw [e]; exact hk)).2
      exact ⟨by injection hk with hk; omega, this⟩
  · go_enter Try.func33, Try.ntmps33
    go_wp2_with (first
      | ((with_reducible change wpList _ _ _ (⟨_, Op.call { callee := Callee.builtin Builtin.append, args := _, argTypes := _ }, _, _, _, _⟩ :: _) _ _); refine wpl_append rfl _ _ 44 rfl base 23 i0 (.int .u32 0) 1 4 Try.underlying44 hi hz0 hz1 hz2 rfl (by decide) _ _ _ HH.out rfl _ _ _ HS.out rfl (by intro u hu; obtain rfl := List.mem_singleton.1 hu; rfl) (by unfold maxLen; omega) (by omega) HB.out ?_; intro v' w' ho hg hk; have HO := Lib.hid (And.intro ho (And.intro hg hk)); clear ho hg hk))
    all_goals go_ret
    all_goals refine ⟨v', rfl, by simpa using HO.out.1, (Upd.refl _ w).grown HO.out.2.1 (fun k hk _ => hk), fun k hk => ?_⟩
    all_goals rcases HO.out.2.2 with e | e
    all_goals first
      | exact .inl (by rw [← e]; exact hk)
      | (refine .inr ?_
         have := (HO.out.1.lt k hk).2
         rw [e] at hk
         exact ⟨by injection hk with hk; omega, this⟩)
/-- there is room. -/
theorem insert_shift {w : World} {base n g c : Nat} {xs : List Int} (h : w.ownsRow base 23 1 (.slice (some ⟨g, 0, none⟩) n c) n (U xs)) (a : Int) {vb : Nat} (hvb : w.heap[vb]? = some (.cells #[.int .u32 a] 23 (0, 0))) (hne : vb ≠ g) (hn : 0 < n) (hroom : n + 1 ≤ c) :
    Calls Try.prog 33 #[.slice (some ⟨g, 0, none⟩) n c, .int .i64 0, .slice (some ⟨vb, 0, none⟩) 1 1] w fun e w' => e = .returned (.slice (some ⟨g, 0, none⟩) (n + 1) c) ∧ w' = (w.drew.setCells g 1 (U xs)).setCells g 0 [.int .u32 a] := by
  have hl : xs.length = n := by have := h.1; simpa using this
  obtain ⟨cur, hg, hcs, hcm⟩ : ∃ cur, w.heap[g]? = some (.cells cur 23 (0, 0)) ∧ cur.size = c ∧ c ≤ maxLen := by
    rcases h.2 with ⟨h0, _⟩ | ⟨g', cap, cur, hv, hb, hg, hnc, hcm, hcs, htake⟩
    · cases h0
    · cases hv
      exact ⟨cur, hg, by simpa using hcs, hcm⟩
  unfold maxLen at hcm
  have hov : ∀ lb cb, (callFunc 35 #[.slice (some ⟨vb, 0, none⟩) 1 1, .slice (some ⟨g, 1, none⟩) lb cb]).run Try.prog w = .ok (.value (.bool false)) w := fun lb cb => by
    rw [run_callFunc_extern Try.func35 (by kernel_rfl) (by kernel_rfl) (by kernel_rfl) (e := Extern.SlicesOverlaps.overlaps #[44, 44] #[4]) (by kernel_rfl),
      Lib.run_overlaps_apart w 44 4 23 Try.underlying44 1 (fun w => by kernel_rfl) ⟨vb, 0, none⟩ ⟨g, 1, none⟩ 1 1 lb cb hne 23 23 1 c (by unfold World.shape?; rw [hvb]; rfl) (by unfold World.shape?; rw [hg]; simp [hcs]) (by omega) (free_at hvb 0) (free_at hvb 1)]
    rfl
  have hsz : (Try.prog.info? 23).map (·.size) = some 1 := by kernel_rfl
  have hcell : ∀ j v, (U xs)[j]? = some v → w.cell? ⟨g, j, none⟩ = some v := fun j v hv => owns_cell h hv
  have hspare : ∀ j, j < c → (w.cell? ⟨g, j, none⟩).isSome = true := fun j hj => by
    rw [cell_at hg, Array.getElem?_eq_getElem (by omega)]; rfl
  have hUl : (U xs).length = n := by simp [hl]
  have hcp1 : ∀ ty l1 dc l2 sc, l1 = n → l2 = n + 1 → (Builtin.copy_ #[44, 44] ty #[.slice (some ⟨g, 1, none⟩) l1 dc, .slice (some ⟨g, 0, none⟩) l2 sc]).run Try.prog w.drew = .ok (goInt (U xs).length) (w.drew.setCells g 1 (U xs)) := fun ty l1 dc l2 sc e1 e2 =>
    run_copy_cells w.drew _ _ ty 23 g 1 l1 dc ⟨g, 0, none⟩ l2 sc (U xs) Try.underlying44 hsz (by rw [hUl, e1, e2]; simp only [Nat.min_def]; split <;> omega)
      (fun j v hj => by rw [Addr.add_lit, Nat.zero_add]; exact hcell j v hj)
      (fun j hj => hspare _ (by rw [hUl] at hj; omega)) (fun j hj => free_at hg _) (U_one xs)
  obtain ⟨W1, hW1⟩ : ∃ W1, W1 = w.drew.setCells g 1 (U xs) := ⟨_, rfl⟩
  have hsp1 : ∀ k, k < c → (W1.cell? ⟨g, k, none⟩).isSome = true := fun k hk => by
    rw [hW1]
    exact isSome_setCells g (U xs) 1 w.drew (fun j hj => hspare (1 + j) (by rw [hUl] at hj; omega)) k (hspare k hk)
  have hcp2 : ∀ (W : World), (∀ x, W.cell? x = W1.cell? x) → (∀ x, W.frozen? x = W1.frozen? x) → ∀ ty l1 dc, l1 = n + 1 → (Builtin.copy_ #[44, 44] ty #[.slice (some ⟨g, 0, none⟩) l1 dc, .slice (some ⟨vb, 0, none⟩) 1 1]).run Try.prog W = .ok (goInt [Value.int .u32 a].length) (W.setCells g 0 [.int .u32 a]) := fun W hWc hWf ty l1 dc e1 =>
    run_copy_cells W _ _ ty 23 g 0 l1 dc ⟨vb, 0, none⟩ 1 1 [.int .u32 a] Try.underlying44 hsz (by rw [e1]; simp only [Nat.min_def, List.length_cons, List.length_nil]; split <;> omega)
      (fun j v hj => by
        rw [Addr.add_lit, hWc, hW1, World.cell?_setCells_out g _ _ _ _ (fun h _ => absurd h hne)]
        have : j = 0 := by have := (List.getElem?_eq_some_iff.1 hj).1; simp at this; omega
        subst this
        show w.cell? _ = _
        rw [cell_at hvb]
        simpa using hj)
      (fun j hj => by rw [hWc]; exact hsp1 _ (by simp at hj; omega)) (fun j hj => by rw [hWf, hW1, World.frozen?_setCells]; exact free_at hg _) (by intro u hu; obtain rfl := List.mem_singleton.1 hu; rfl)
  rw [← hW1] at hcp1 ⊢
  have hz2 : ¬ ((0 : Int) = (n : Int)) := by omega
  have HH := Lib.hid h
  clear h hcell hspare hsp1
  have mixed : Try.prog.follows .mixedOrders = true := by kernel_rfl
  have hw1 : IntKind.i64.wrap 1 = 1 := by rw [IntKind.wrap_i64]; omega
  have hb2 : ¬ (c = 1) := by omega
  have hb4 : ¬ (c = 0) := by omega
  have hb3 : (1 : Int) ≤ (n : Int) + 1 := by omega
  have hb5 : (0 : Int) ≤ (n : Int) + 1 := by omega
  have hb6 : (0 : Int) ≤ (n : Int) := by omega
  go_enter Try.func33, Try.ntmps33
  go_wp2_with (simp only [hov])
  go_region_law_o (refine step_copy_runI rfl _ _ 44 44 rfl (.slice (some ⟨g, 1, none⟩) n (c - 1)) (.slice (some ⟨g, 0, none⟩) (n + 1) c) (by simp [Act.eval, Act.put]) (by simp [Act.eval, Act.put]) (hcp1 _ _ _ _ _ rfl rfl) ?_)
  go_wp2_with (at_builtin; refine wpList_copy_runI _ rfl _ _ 44 44 rfl (.slice (some ⟨g, 0, none⟩) (n + 1) c) _ (by simp [Act.eval, Act.put]) rfl (hcp2 _ (fun _ => rfl) (fun _ => rfl) _ _ _ rfl) ?_)
  go_ret
  exact ⟨rfl, by rw [hW1]⟩
set_option maxHeartbeats 4000000 in
/-- there is no room. -/
theorem insert_grow {w : World} {base n g c : Nat} {xs : List Int} (h : w.ownsRow base 23 1 (.slice (some ⟨g, 0, none⟩) n c) n (U xs)) (a : Int) {vb : Nat} (hvb : w.heap[vb]? = some (.cells #[.int .u32 a] 23 (0, 0))) (hn : 0 < n) (hn8 : n ≤ 8192) (hroom : c < n + 1) :
    Calls Try.prog 33 #[.slice (some ⟨g, 0, none⟩) n c, .int .i64 0, .slice (some ⟨vb, 0, none⟩) 1 1] w fun e w' => ∃ (G : Nat) (ROW : Array Value), ROW.size = G ∧ n + 1 ≤ G ∧ G ≤ maxLen ∧ e = .returned (.slice (some ⟨w.heap.size, 0, none⟩) (n + 1) G) ∧ w' = ((w.alloc (.cells ROW 23)).drew.setCells w.heap.size 0 [.int .u32 a]).drew.setCells w.heap.size 1 (U xs) := by
  have hl : xs.length = n := by have := h.1; simpa using this
  obtain ⟨cur, hg, hcs, hcm, hnc⟩ : ∃ cur, w.heap[g]? = some (.cells cur 23 (0, 0)) ∧ cur.size = c ∧ c ≤ maxLen ∧ n ≤ c := by
    rcases h.2 with ⟨h0, _⟩ | ⟨g', cap, cur, hv, hb, hg, hnc, hcm, hcs, htake⟩
    · cases h0
    · cases hv
      exact ⟨cur, hg, by simpa using hcs, hcm, hnc⟩
  obtain ⟨i0, hi0, hz0, hzs, hzb⟩ := info_parts infoU
  have hz2 : ¬ ((0 : Int) = (n : Int)) := by omega
  have hz3 : (c : Int) < (n : Int) + 1 := by omega
  have hsz : (Try.prog.info? 23).map (·.size) = some 1 := by kernel_rfl
  have hbw : g < w.heap.size := lt_of_at hg
  have hvw : vb < w.heap.size := lt_of_at hvb
  have hkk : (n : Int) + 1 = ((n + 1 : Nat) : Int) := by omega
  have hUl : (U xs).length = n := by simp [hl]
  have hold : (Builtin.firstCells i0.size 0 (.slice (some ⟨g, 0, none⟩) 0 c)).run Try.prog w.drew = .ok ([] : List Value).toArray w.drew := by
    rw [hzs]
    exact run_firstCells_some w.drew 1 0 ⟨g, 0, none⟩ 0 c [] rfl (fun j v hj => by simp at hj)
  obtain ⟨G, hG⟩ : ∃ G, G = grownCap w (n + 1) c 23 := ⟨_, rfl⟩
  obtain ⟨ROW, hROW⟩ : ∃ ROW : Array Value, ROW = ([] : List Value).toArray ++ Builtin.zeroCells (Value.int .u32 0).cells (n + 1) ++ Builtin.zeroCells (Value.int .u32 0).cells (G - (n + 1)) := ⟨_, rfl⟩
  have hrz : ∀ ty, (Builtin.append_ #[44, 3] ty #[.slice (some ⟨g, 0, none⟩) 0 c, .int .i64 ((n : Int) + 1)]).run Try.prog w =
      .ok (.slice (some ⟨w.heap.size, 0, none⟩) (n + 1) G) (w.drew.alloc (.cells ROW 23)) := fun ty => by
    have h := Lib.run_append_grow_zeros w 44 3 ty 23 i0 _ .u32 .i64 Try.underlying44 Try.underlying3 hi0 hz0 (some ⟨g, 0, none⟩) 0 c [] hold (n + 1) (by omega) (by omega) (by omega) (by omega) (by rw [hzb]; omega) (by rw [hzb, Nat.zero_add]; exact growslice_fits hroom (by omega))
    rw [Nat.zero_add] at h
    rw [hkk, hROW, hG]
    exact h
  have hGn : n + 1 ≤ G := by rw [hG]; exact grownCap_ge w _ _ _
  have hGm : G ≤ maxLen := by rw [hG]; exact grownCap_le_maxLen w (n + 1) c 23 (by unfold maxLen; omega)
  have hRs : ROW.size = G := by
    rw [hROW]
    simp [Builtin.zeroCells, Value.cells]
    omega
  obtain ⟨W1, hW1⟩ : ∃ W1, W1 = w.drew.alloc (.cells ROW 23) := ⟨_, rfl⟩
  rw [← hW1] at hrz
  have hN : ∀ j, j < n + 1 → (W1.cell? ⟨w.heap.size, j, none⟩).isSome = true := fun j hj => by
    rw [hW1, World.cell?_alloc_at (w := w.drew) ROW _ w.heap.size j rfl, Array.getElem?_eq_getElem (by omega)]; rfl
  have hNf : ∀ j, W1.frozen? ⟨w.heap.size, j, none⟩ = false := fun j => by rw [hW1]; exact World.frozen?_alloc_at (w := w.drew) ROW _ w.heap.size j rfl
  have hOb : ∀ j v, w.cell? ⟨g, j, none⟩ = some v → W1.cell? ⟨g, j, none⟩ = some v := fun j v h => by rw [hW1, World.cell?_alloc_past (w := w.drew) _ g j hbw]; exact h
  have hOv : ∀ j v, w.cell? ⟨vb, j, none⟩ = some v → W1.cell? ⟨vb, j, none⟩ = some v := fun j v h => by rw [hW1, World.cell?_alloc_past (w := w.drew) _ vb j hvw]; exact h
  have hcpA : ∀ (W : World), (∀ x, W.cell? x = W1.cell? x) → (∀ x, W.frozen? x = W1.frozen? x) → ∀ ty l1 dc, l1 = n + 1 → (Builtin.copy_ #[44, 44] ty #[.slice (some ⟨w.heap.size, 0, none⟩) l1 dc, .slice (some ⟨vb, 0, none⟩) 1 1]).run Try.prog W = .ok (goInt [Value.int .u32 a].length) (W.setCells w.heap.size 0 [.int .u32 a]) := fun W hWc hWf ty l1 dc e1 =>
    run_copy_cells W _ _ ty 23 w.heap.size 0 l1 dc ⟨vb, 0, none⟩ 1 1 [.int .u32 a] Try.underlying44 hsz (by rw [e1]; simp only [Nat.min_def, List.length_cons, List.length_nil]; split <;> omega)
      (fun j v hj => by
        rw [Addr.add_lit, hWc]
        refine hOv _ v ?_
        have : j = 0 := by have := (List.getElem?_eq_some_iff.1 hj).1; simp at this; omega
        subst this
        rw [cell_at hvb]
        simpa using hj)
      (fun j hj => by rw [hWc]; exact hN _ (by simp at hj; omega)) (fun j hj => by rw [hWf]; exact hNf _) (by intro u hu; obtain rfl := List.mem_singleton.1 hu; rfl)
  have hGi : ¬ (G = 0) := by omega
  have hGim : ¬ (G = 1) := by omega
  have hci : ¬ (c = 0) := by omega
  have hbN : g ≠ w.heap.size := by omega
  have hcpB : ∀ (W : World), (∀ x, W.cell? x = (W1.setCells w.heap.size 0 [.int .u32 a]).cell? x) → (∀ x, W.frozen? x = (W1.setCells w.heap.size 0 [.int .u32 a]).frozen? x) → ∀ ty l1 dc l2 sc, l1 = n → l2 = n → (Builtin.copy_ #[44, 44] ty #[.slice (some ⟨w.heap.size, 1, none⟩) l1 dc, .slice (some ⟨g, 0, none⟩) l2 sc]).run Try.prog W = .ok (goInt (U xs).length) (W.setCells w.heap.size 1 (U xs)) := fun W hWc hWf ty l1 dc l2 sc e1 e2 =>
    run_copy_cells W _ _ ty 23 w.heap.size 1 l1 dc ⟨g, 0, none⟩ l2 sc (U xs) Try.underlying44 hsz (by rw [hUl, e1, e2]; simp only [Nat.min_def]; split <;> omega)
      (fun j v hj => by
        rw [Addr.add_lit, hWc, World.cell?_setCells_out _ _ _ _ _ (fun h _ => absurd h hbN), Nat.zero_add]
        exact hOb _ v (owns_cell h hj))
      (fun j hj => by rw [hWc]; exact isSome_setCells w.heap.size [.int .u32 a] 0 W1 (fun t ht => hN (0 + t) (by simp at ht; omega)) (1 + j) (hN _ (by rw [hUl] at hj; omega)))
      (fun j hj => by rw [hWf, World.frozen?_setCells]; exact hNf _) (U_one xs)
  subst hW1
  have hE1 : ∀ x, ((w.alloc (.cells ROW 23)).drew).cell? x = (w.drew.alloc (.cells ROW 23)).cell? x := fun x => rfl
  have hE2 : ∀ x, ((w.alloc (.cells ROW 23)).drew).frozen? x = (w.drew.alloc (.cells ROW 23)).frozen? x := fun x => rfl
  have hF1 : ∀ x, (((w.alloc (.cells ROW 23)).drew.setCells w.heap.size 0 [.int .u32 a]).drew).cell? x = ((w.drew.alloc (.cells ROW 23)).setCells w.heap.size 0 [.int .u32 a]).cell? x := fun x => rfl
  have hF2 : ∀ x, (((w.alloc (.cells ROW 23)).drew.setCells w.heap.size 0 [.int .u32 a]).drew).frozen? x = ((w.drew.alloc (.cells ROW 23)).setCells w.heap.size 0 [.int .u32 a]).frozen? x := fun x => rfl
  have mixed : Try.prog.follows .mixedOrders = true := by kernel_rfl
  have hw1 : IntKind.i64.wrap 1 = 1 := by rw [IntKind.wrap_i64]; omega
  have hb3 : (1 : Int) ≤ (n : Int) + 1 := by omega
  have hb5 : (0 : Int) ≤ (n : Int) + 1 := by omega
  have hb6 : (0 : Int) ≤ (n : Int) := by omega
  have HX := Lib.hid (And.intro hRs (And.intro hGn hGm))
  clear hkk hold hROW hG hRs h hg hvb hN hNf hOb hOv hGn hGm
  go_enter Try.func33, Try.ntmps33
  go_wp2_with (first
    | (at_builtin; refine Lib.wpList_append_run _ rfl _ _ _ _ rfl _ _ rfl rfl _ _ (hrz _) ?_)
    | (at_builtin; refine wpList_copy_runI _ rfl _ _ 44 44 rfl (.slice (some ⟨w.heap.size, 0, none⟩) (n + 1) G) _ (by simp [Act.eval, Act.put]) rfl (hcpA _ hE1 hE2 _ _ _ rfl) ?_))
  go_region_law_o (refine step_copy_runI rfl _ _ 44 44 rfl (.slice (some ⟨w.heap.size, 1, none⟩) n (G - 1)) (.slice (some ⟨g, 0, none⟩) n c) (by simp [Act.eval, Act.put]) (by simp [Act.eval, Act.put]) (hcpB _ hF1 hF2 _ _ _ _ _ rfl rfl) ?_)
  go_wp2_with fail
  go_ret
  exact ⟨G, ROW, HX.out.1, HX.out.2.1, HX.out.2.2, rfl, rfl⟩
theorem split_row {R : List Value} {n : Nat} (h : n + 1 ≤ R.length) : ∃ r mid post, R = [r] ++ mid ++ post ∧ mid.length = n := by
  cases R with
  | nil => simp at h
  | cons r R =>
    refine ⟨r, R.take n, R.drop n, by simp, ?_⟩
    simp at h
    simp
    omega
theorem insert_calls {w : World} {base n : Nat} {v : Value} {xs : List Int} (h : w.ownsRow base 23 1 v n (U xs)) (a : Int) {vb : Nat} (hvb : w.heap[vb]? = some (.cells #[.int .u32 a] 23 (0, 0))) (hne : v.ownBlock ≠ some vb) (hn8 : n ≤ 8192) (hbase : base ≤ w.heap.size) :
    Calls Try.prog 33 #[v, .int .i64 0, .slice (some ⟨vb, 0, none⟩) 1 1] w fun e w' => ∃ v', e = .returned v' ∧ w'.ownsRow base 23 1 v' (n + 1) (U (a :: xs)) ∧ Upd (fun k => v.ownBlock = some k) w w' ∧ (∀ k, v'.ownBlock = some k → v.ownBlock = some k ∨ fresh w w' k) := by
  have hl : xs.length = n := by have := h.1; simpa using this
  rcases Nat.eq_zero_or_pos n with h0 | hn
  · subst h0
    have e : xs = [] := List.eq_nil_of_length_eq_zero hl
    subst e
    exact insert_empty h a hvb hbase
  · have hown := h
    rcases h.2 with ⟨_, h0⟩ | ⟨g, c, cur, rfl, hb, hg, hnc, hcm, hcs, htake⟩
    · omega
    have hvg : vb ≠ g := fun e => hne (by rw [e]; rfl)
    have hgl := lt_of_at hg
    by_cases hroom : n + 1 ≤ c
    · refine (insert_shift hown a hvb hvg hn hroom).mono ?_
      rintro e w' ⟨rfl, rfl⟩
      obtain ⟨r, mid, post, hR, hml⟩ := split_row (R := cur.toList) (n := n) (by rw [Array.length_toList, hcs]; omega)
      have hg1 : w.drew.heap[g]? = some (.cells ([r] ++ mid ++ post).toArray 23 (0, 0)) := by rw [← hR]; exact hg
      have h1 := at_setCells (U xs) mid [r] hg1 (by simp [hml, hl])
      have h2 := at_setCells (post := U xs ++ post) [Value.int .u32 a] [r] [] (w := w.drew.setCells g 1 (U xs)) (g := g) (by simpa using h1) rfl
      have hps : 1 + n + post.length = c := by
        have := congrArg List.length hR
        simp at this
        omega
      refine ⟨_, rfl, ⟨by simp [hl], .inr ⟨g, c, _, rfl, hb, h2, hroom, hcm, ?_, ?_⟩⟩, ?_, fun k hk => .inl hk⟩
      · simp [hl]
        omega
      · simp only [List.nil_append, List.toList_toArray]
        rw [← List.append_assoc, List.take_append_of_le_length (by simp [hl]), List.take_of_length_le (by simp [hl])]
        simp
      · exact Upd.setCells (S := fun k => (Value.slice (some ⟨g, 0, none⟩) n c).ownBlock = some k) (fun _ => rfl) _ _ (Upd.setCells (S := fun k => (Value.slice (some ⟨g, 0, none⟩) n c).ownBlock = some k) (fun _ => rfl) _ _ (Upd.refl _ w).drew)
    · refine (insert_grow hown a hvb hn hn8 (by omega)).mono ?_
      rintro e w' ⟨G, ROW, hRs, hGn, hGm, rfl, rfl⟩
      obtain ⟨r, mid, post, hR, hml⟩ := split_row (R := ROW.toList) (n := n) (by rw [Array.length_toList, hRs]; omega)
      have hg1 : (w.alloc (.cells ROW 23)).drew.heap[w.heap.size]? = some (.cells ([] ++ [r] ++ (mid ++ post)).toArray 23 (0, 0)) := by
        rw [heap_alloc_drew]
        simp only [List.nil_append]
        rw [← List.append_assoc, ← hR]
      have h1 := at_setCells [Value.int .u32 a] [r] [] hg1 rfl
      have h2 := at_setCells (post := post) (U xs) mid [Value.int .u32 a] (w := ((w.alloc (.cells ROW 23)).drew.setCells w.heap.size 0 [.int .u32 a]).drew) (g := w.heap.size) (e := 23) (f := (0, 0)) (h1.trans (by simp)) (by simp [hml, hl])
      have hps : 1 + n + post.length = G := by
        have := congrArg List.length hR
        simp at this
        omega
      have hu : Upd (fun k => (Value.slice (some ⟨g, 0, none⟩) n c).ownBlock = some k) w (((w.alloc (.cells ROW 23)).drew.setCells w.heap.size 0 [.int .u32 a]).drew.setCells w.heap.size 1 (U xs)) :=
        Upd.setCells (fun hf => absurd hf (Nat.lt_irrefl _)) _ _ (Upd.setCells (fun hf => absurd hf (Nat.lt_irrefl _)) _ _ ((Upd.refl _ w).alloc _).drew).drew
      refine ⟨_, rfl, ⟨by simp [hl], .inr ⟨w.heap.size, G, _, rfl, hbase, h2, hGn, hGm, ?_, ?_⟩⟩, hu, fun k hk => .inr ?_⟩
      · simp [hl]
        omega
      · simp only [List.toList_toArray]
        rw [List.take_append_of_le_length (by simp [hl]), List.take_of_length_le (by simp [hl])]
        simp
      · have e : w.heap.size = k := by injection hk
        exact ⟨by omega, by rw [← e]; exact lt_of_at h2⟩
end Go.Proofs.Ytfpbkofjbnmkeaa
