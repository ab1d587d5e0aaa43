/- What this text proves: contracts of package pumiceref16. Conditions: each theorem's own. -/
import Derived.Test.YtfpbkofjbnmkeaaHotActs
import Derived.Test.YtfpbkofjbnmkeaaGhostRef
namespace Go.Proofs.Ytfpbkofjbnmkeaa
open Go Go.RowKit Go.Lib
open Go.Proofs
set_option linter.unusedVariables false
set_option linter.unusedSimpArgs false

abbrev It := Int × List Int
def It.cells (p : It) : List Value := [.int .u32 p.1, .string (strOfNums p.2)]
def itVal (p : It) : Value := .agg (It.cells p).toArray
def zeroIt : It := (0, [])
theorem infoItem : (Try.prog.info? 67).map (fun i => (i.zero, i.size, i.bytes)) = some (some (.agg #[.int .u32 0, .string ⟨#[]⟩]), 2, 24) := by kernel_rfl
theorem sizeItem (w : World) : (sizeOf 67).run Try.prog w = .ok 2 w := by kernel_rfl
/-- the document's cache: its row v, its list g. -/
structure RLies (w : World) (r : Nat) (room k : Int) (its : List It) (gl : List Int) (F : Nat → Prop) (v : Value) (g : Nat) (Fg : Nat → Prop) : Prop where
  here : w.heap[r]? = some (.cells #[v, .int .i64 room, pt g] 65 (0, 0))
  row : w.ownsRow 0 67 2 v its.length (its.flatMap It.cells)
  list : RList w g k gl Fg
  fr : F r
  fv : ∀ q, v.ownBlock = some q → F q ∧ q ≠ r ∧ ¬ Fg q
  fg : ∀ q, Fg q → F q ∧ q ≠ r
  lt : ∀ q, F q → q < w.heap.size
def RAt (w : World) (r : Nat) (room k : Int) (its : List It) (gl : List Int) (F : Nat → Prop) : Prop := ∃ v g Fg, RLies w r room k its gl F v g Fg
theorem RLies.upd {S : Nat → Prop} {w w' : World} {r : Nat} {room k : Int} {its : List It} {gl : List Int} {F : Nat → Prop} {v : Value} {g : Nat} {Fg : Nat → Prop} (H : RLies w r room k its gl F v g Fg) (hu : Upd S w w') (hs : ∀ q, F q → ¬ S q) : RLies w' r room k its gl F v g Fg :=
  ⟨hu.at H.here (hs r H.fr), ownsRow_upd H.row hu (fun q hq => hs q (H.fv q hq).1), H.list.upd hu (fun q hq => hs q (H.fg q hq).1), H.fr, H.fv, H.fg, fun q hq => Nat.lt_of_lt_of_le (H.lt q hq) hu.size⟩
theorem RAt.upd {S : Nat → Prop} {w w' : World} {r : Nat} {room k : Int} {its : List It} {gl : List Int} {F : Nat → Prop} (H : RAt w r room k its gl F) (hu : Upd S w w') (hs : ∀ q, F q → ¬ S q) : RAt w' r room k its gl F := by
  obtain ⟨v, g, Fg, H⟩ := H
  exact ⟨v, g, Fg, H.upd hu hs⟩
/-- the row is another one, which is new. -/
theorem RLies.put {w w' : World} {r : Nat} {room k : Int} {its its' : List It} {gl : List Int} {F : Nat → Prop} {v v' : Value} {g : Nat} {Fg : Nat → Prop} (H : RLies w r room k its gl F v g Fg) (hu : Upd (fun q => q = r) w w')
    (hh : w'.heap[r]? = some (.cells #[v', .int .i64 room, pt g] 65 (0, 0))) (ho : w'.ownsRow w.heap.size 67 2 v' its'.length (its'.flatMap It.cells)) : RLies w' r room k its' gl (fun q => F q ∨ fresh w w' q) v' g Fg := by
  refine ⟨hh, ownsRow_base ho (fun _ _ => Nat.zero_le _), H.list.upd hu (fun q hq => (H.fg q hq).2), .inl H.fr, fun q hq => ?_, fun q hq => ⟨.inl (H.fg q hq).1, (H.fg q hq).2⟩, fun q hq => ?_⟩
  · have h1 := ho.lt q hq
    exact ⟨.inr h1, fun e => by have := H.lt r H.fr; omega, fun f => by have := H.lt q (H.fg q f).1; omega⟩
  · rcases hq with hq | hq
    · exact Nat.lt_of_lt_of_le (H.lt q hq) hu.size
    · exact hq.2
theorem RLies.grow {w : World} {r : Nat} {room k : Int} {its : List It} {gl : List Int} {F G : Nat → Prop} {v : Value} {g : Nat} {Fg : Nat → Prop} (H : RLies w r room k its gl F v g Fg) (hg : ∀ q, F q → G q) (hl : ∀ q, G q → q < w.heap.size) : RLies w r room k its gl G v g Fg :=
  ⟨H.here, H.row, H.list, hg r H.fr, fun q hq => ⟨hg q (H.fv q hq).1, (H.fv q hq).2⟩, fun q hq => ⟨hg q (H.fg q hq).1, (H.fg q hq).2⟩, hl⟩
theorem flatMap_drop {α : Type} (f : α → List Value) (size : Nat) (hf : ∀ a, (f a).length = size) (l : List α) (n : Nat) (hn : n ≤ l.length) : (l.flatMap f).drop (n * size) = (l.drop n).flatMap f := by
  conv => lhs; rw [← List.take_append_drop n l, List.flatMap_append]
  exact List.drop_left' (by rw [flatMap_len f size hf, List.length_take, Nat.min_eq_left hn])
theorem its_cells {its : List It} {k : Nat} (hk : k < its.length) : (its.flatMap It.cells)[k * 2 + 0]? = some (.int .u32 its[k].1) ∧ (its.flatMap It.cells)[k * 2 + 1]? = some (.string (strOfNums its[k].2)) := by
  constructor
  · rw [flatMap_get It.cells 2 (fun _ => rfl) its k 0 hk (by omega)]; rfl
  · rw [flatMap_get It.cells 2 (fun _ => rfl) its k 1 hk (by omega)]; rfl
theorem its_one (its : List It) : ∀ u ∈ its.flatMap It.cells, u.oneCell' = true := fun u hu => by
  obtain ⟨p, _, hp⟩ := List.mem_flatMap.1 hu
  simp only [It.cells, List.mem_cons, List.not_mem_nil, or_false] at hp
  rcases hp with rfl | rfl <;> rfl
def findI (its : List It) (a : Int) : Option It := its.find? (fun p => decide (p.1 = a))
def delI (its : List It) (a : Int) : List It := its.eraseP (fun p => decide (p.1 = a))
theorem find_at {its : List It} {a : Int} {k : Nat} (hk : k < its.length) (hn : ∀ p ∈ its.take k, p.1 ≠ a) (ha : its[k].1 = a) : findI its a = some its[k] ∧ delI its a = its.take k ++ its.drop (k + 1) := by
  have e : its = its.take k ++ its[k] :: its.drop (k + 1) := by rw [List.getElem_cons_drop, List.take_append_drop]
  constructor
  · unfold findI
    rw [List.find?_eq_some_iff_append]
    exact ⟨by simpa using ha, its.take k, its.drop (k + 1), e, fun p hp => by simpa using hn p hp⟩
  · unfold delI
    conv => lhs; rw [e]
    rw [List.eraseP_append_right _ (fun p hp => by simpa using hn p hp), List.eraseP_cons_of_pos (by simpa using ha)]
theorem find_not {its : List It} {a : Int} (hn : ∀ p ∈ its, p.1 ≠ a) : findI its a = none ∧ delI its a = its := by
  constructor
  · unfold findI
    rw [List.find?_eq_none]
    exact fun p hp => by simpa using hn p hp
  · unfold delI
    exact List.eraseP_of_forall_not (fun p hp => by simpa using hn p hp)
set_option maxHeartbeats 2000000 in
set_option maxRecDepth 10000 in
theorem take_calls {w : World} {r : Nat} {room k : Int} {its : List It} {gl : List Int} {F : Nat → Prop} {v : Value} {g : Nat} {Fg : Nat → Prop} (H : RLies w r room k its gl F v g Fg) (a : Int) (hx : its.length ≤ 5000) :
    Calls Try.prog 27 #[pt r, .int .u32 a] w fun e w' => e = .returned (.tuple #[itVal ((findI its a).getD zeroIt), .bool (findI its a).isSome]) ∧ (∃ v', RLies w' r room k (delI its a) gl (fun q => F q ∨ fresh w w' q) v' g Fg) ∧ Upd F w w' := by
  obtain ⟨ao, c, hv⟩ := (owns_reads H.row).len
  subst hv
  have hu0 : Upd (fun _ => False) w (w.alloc (.cells #[.int .u32 0, .string ⟨#[]⟩] 67)) := (Upd.refl _ w).alloc _
  have H0 := H.upd hu0 (fun _ _ f => f)
  have hz := heap_alloc_last w (.cells #[.int .u32 0, .string ⟨#[]⟩] 67)
  obtain ⟨W0, hW0⟩ : ∃ W0, W0 = w.alloc (.cells #[.int .u32 0, .string ⟨#[]⟩] 67) := ⟨_, rfl⟩
  have c0 : (w.alloc (.cells #[.int .u32 0, .string ⟨#[]⟩] 67)).cell? ⟨r, 0, none⟩ = some (.slice ao its.length c) := cell_at H0.here 0
  rw [← hW0] at hu0 H0 hz c0
  have HH := Lib.hid (And.intro H (And.intro H0 (And.intro hu0 hz)))
  have HW0 := Lib.hid hW0
  clear H H0 hu0 hz hW0
  obtain ⟨i0, hi, hz0, hz1, hz2⟩ := info_parts infoItem
  go_enter Try.func27, Try.ntmps27
  go_wp2_with fail
  go_loopg [6] its.length (fun n i wr => ∃ q : Nat, q + n = its.length ∧ i = .int .i64 q ∧ wr = W0 ∧ Hid (∀ p ∈ its.take q, p.1 ≠ a))
  case atStart => exact ⟨0, by simp, rfl, HW0.out.symm, Lib.hid (fun p hp => by simp at hp)⟩
  case round =>
    obtain ⟨q, hq, rfl, rfl, HN⟩ := hrel
    have HR : Hid (Reads wr 2 (.slice ao its.length c) its.length (its.flatMap It.cells)) := Lib.hid (owns_reads HH.out.2.1.row)
    by_cases hlt : q < its.length
    · have hcc := its_cells hlt
      obtain ⟨x, hxx⟩ : ∃ x, x = its[q] := ⟨_, rfl⟩
      rw [← hxx] at hcc
      have HK := Lib.hid hcc; have HX := Lib.hid (And.intro hlt hxx)
      clear hcc hxx
      by_cases hxa : x.1 = a
      · have hbt : (x.1 == a) = true := by simpa using hxa
        have HXA := Lib.hid hxa
        obtain ⟨wa, hwa⟩ : ∃ wa, wa = wr.alloc (.cells #[.int .u32 x.1, .string (strOfNums x.2)] 67) := ⟨_, rfl⟩
        have hszr : wa.heap.size = wr.heap.size + 1 := by rw [hwa, size_alloc]
        have huA : Upd (fun _ => False) wr wa := by rw [hwa]; exact (Upd.refl _ wr).alloc _
        have hrlt : r < wr.heap.size := HH.out.2.1.lt r HH.out.2.1.fr
        have hm := World.ownsRow_made (e := 67) (size := 2) wa #[] 0 (Nat.le_refl _) (Nat.zero_le _) rfl
        have hra : Reads (wa.alloc (.cells #[] 67)) 2 (.slice ao its.length c) its.length (its.flatMap It.cells) := (HR.out.upd huA (fun _ _ f => f)).upd ((Upd.refl (fun _ => False) wa).alloc _) (fun _ _ f => f)
        have h7 : wa.heap[wr.heap.size]? = some (.cells #[.int .u32 x.1, .string (strOfNums x.2)] 67 (0, 0)) := by rw [hwa]; exact heap_alloc_last wr _
        rw [hszr] at hm
        have HA := Lib.hid (And.intro hszr (And.intro huA (And.intro hrlt (And.intro hm (And.intro hra h7)))))
        have hvlt : ∀ g, (Value.slice ao its.length c).ownBlock = some g → g < wr.heap.size := fun g hg => HH.out.2.1.lt g (HH.out.2.1.fv g hg).1
        have HVL := Lib.hid hvlt
        have HWA := Lib.hid hwa
        rw [hwa] at hm hra
        have HM := Lib.hid hm; have HRA := Lib.hid hra
        have hrlt2 : r < wr.heap.size + 1 := by omega
        clear hwa hszr huA hm hra h7 hvlt hxa
        go_wp2_with (first
          | ((with_reducible change wpList _ _ _ (⟨_, Op.indexAddr _ _ _, _, _, _, _⟩ :: _) _ _); refine wpl_index rfl _ _ _ rfl 67 2 Try.underlying63 sizeItem (by decide) _ _ _ HR.out rfl q rfl HX.out.1 ?_; intro bk off _ hcell; have e0 := hcell 0 _ HK.out.1; have e1 := hcell 1 _ HK.out.2; clear hcell; simp only [Nat.add_zero] at e0)
          | ((with_reducible change wpList _ _ _ (⟨_, Op.slice _ _ _ _ _, _, _, _, _⟩ :: _) _ _); refine wpl_slice rfl _ _ _ _ rfl 67 2 Try.underlying63 sizeItem _ _ _ HRA.out rfl 0 q (.inl ⟨rfl, rfl⟩) (.inr rfl) (Nat.zero_le _) (Nat.le_of_lt HX.out.1) ?_; intro v1 hs1; have HV1 := Lib.hid (hs1.1 _ _ HRA.out); clear hs1)
          | ((with_reducible change wpList _ _ _ (⟨_, Op.call { callee := Callee.builtin Builtin.append, args := _, argTypes := _ }, _, _, _, _⟩ :: _) _ _); refine wpl_append rfl _ _ 63 rfl (wr.heap.size + 1) 67 i0 (.agg #[.int .u32 0, .string ⟨#[]⟩]) 2 24 Try.underlying63 hi hz0 hz1 hz2 rfl (by decide) _ _ _ HM.out rfl _ _ _ HV1.out rfl (fun u hu => its_one its u (List.mem_of_mem_drop (List.mem_of_mem_take hu))) (by unfold maxLen; have := HX.out.1; omega) (by have := HX.out.1; omega) (by rw [size_alloc, size_alloc]; omega) ?_
             intro v2 w1 hown1 hg1 _
             have hu1 : Upd (fun g => wr.heap.size + 1 ≤ g) wa w1 := by
               rw [HWA.out]
               exact ((Upd.refl _ _).alloc _).grown hg1 (fun g hg _ => by simp [Value.ownBlock] at hg; omega)
             have HO1 := Lib.hid hown1
             have hur : Upd (fun g => wr.heap.size + 1 ≤ g) wr w1 := (HA.out.2.1.mono (fun _ _ f => f.elim)).trans hu1 (fun _ _ f => f)
             have HU1 := Lib.hid hu1
             have HR1 := Lib.hid (HR.out.upd hur (fun g hg => by have := HVL.out g hg; omega))
             have c01 : w1.cell? ⟨r, 0, none⟩ = some (.slice ao its.length c) := hur.cell c0 (by show ¬ (wr.heap.size + 1 ≤ r); have := HA.out.2.2.1; omega)
             clear hown1 hg1 hu1 hur)
          | ((with_reducible change wpList _ _ _ (⟨_, Op.call { callee := Callee.builtin Builtin.append, args := _, argTypes := _ }, _, _, _, _⟩ :: _) _ _); refine wpl_append rfl _ _ 63 rfl (wr.heap.size + 1) 67 i0 (.agg #[.int .u32 0, .string ⟨#[]⟩]) 2 24 Try.underlying63 hi hz0 hz1 hz2 rfl (by decide) _ _ _ HO1.out rfl _ _ _ HV3.out rfl (fun u hu => its_one its u (List.mem_of_mem_drop (List.mem_of_mem_take hu))) (by unfold maxLen; have := HX.out.1; omega) (by have := HX.out.1; omega) (by have h1 := HU1.out.size; have h2 := HA.out.1; omega) ?_
             intro v4 w2 hown2 hg2 _
             obtain ⟨ao4, c4, hv4⟩ := (owns_reads hown2).len
             subst hv4
             have hua2 : Upd (fun g => wr.heap.size + 1 ≤ g) wa w2 := HU1.out.grown hg2 (fun g hg _ => (HO1.out.lt g hg).1)
             have hur2 : Upd (fun g => wr.heap.size + 1 ≤ g) wr w2 := (HA.out.2.1.mono (fun _ _ f => f.elim)).trans hua2 (fun _ _ f => f)
             have hzl := lt_of_at HH.out.2.2.2
             have hr2 := hur2.at HH.out.2.1.here (by omega)
             have hz2' := hur2.at HH.out.2.2.2 (by omega)
             have h72 := hua2.at HA.out.2.2.2.2.2 (by omega)
             have c02 : w2.cell? ⟨r, 0, none⟩ = some (.slice ao its.length c) := cell_at hr2 0
             have f02 : w2.frozen? ⟨r, 0, none⟩ = false := free_at hr2 0
             have d70 : w2.cell? ⟨wr.heap.size, 0, none⟩ = some (.int .u32 x.1) := cell_at h72 0
             have d71 : w2.cell? ⟨wr.heap.size, 1, none⟩ = some (.string (strOfNums x.2)) := cell_at h72 1
             have z20 : w2.cell? ⟨w.heap.size, 0, none⟩ = some (.int .u32 0) := cell_at hz2' 0
             have z21 : w2.cell? ⟨w.heap.size, 1, none⟩ = some (.string ⟨#[]⟩) := cell_at hz2' 1
             have zf2 : ∀ i, w2.frozen? ⟨w.heap.size, i, none⟩ = false := fun i => free_at hz2' i
             have hrw : r ≠ w.heap.size := fun e => by have := HH.out.1.lt r HH.out.1.fr; omega
             have hr7 : r ≠ wr.heap.size := by omega
             have hw7 : w.heap.size ≠ wr.heap.size := by omega
             have HO2 := Lib.hid (And.intro hown2 (And.intro hur2 (And.intro hr2 hz2')))
             clear hown2 hg2 hua2 hur2 hr2 hz2' h72 hzl)
          | ((with_reducible change wpList _ _ _ (⟨_, Op.slice _ _ _ _ _, _, _, _, _⟩ :: _) _ _); refine wpl_slice rfl _ _ _ _ rfl 67 2 Try.underlying63 sizeItem _ _ _ HR1.out rfl (q + 1) its.length (.inr rfl) (.inl ⟨rfl, rfl⟩) HX.out.1 (Nat.le_refl _) ?_; intro v3 hs3; have HV3 := Lib.hid (hs3.1 _ _ HR1.out); clear hs3))
        have hX := HX.out
        have hfd := find_at hX.1 HN.out (by rw [← hX.2]; exact HXA.out)
        have hwz := lt_of_at HH.out.2.2.2
        have hz3 : (((w2.setCell ⟨r, 0, none⟩ (.slice ao4 (q + (its.length - (q + 1))) c4)).setCell ⟨w.heap.size, 0, none⟩ (.int .u32 x.1)).setCell ⟨w.heap.size, 1, none⟩ (.string (strOfNums x.2))).heap[w.heap.size]? = some (.cells #[.int .u32 x.1, .string (strOfNums x.2)] 67 (0, 0)) := by
          have h1 : (w2.setCell ⟨r, 0, none⟩ (.slice ao4 (q + (its.length - (q + 1))) c4)).heap[w.heap.size]? = some (.cells #[.int .u32 0, .string ⟨#[]⟩] 67 (0, 0)) := by rw [at_setCell_other 0 _ (fun e => hrw e.symm)]; exact HO2.out.2.2.2
          have h2 := at_setCell_same h1 0 (.int .u32 x.1)
          have h3 := at_setCell_same h2 1 (.string (strOfNums x.2))
          exact h3
        have hr3 : (((w2.setCell ⟨r, 0, none⟩ (.slice ao4 (q + (its.length - (q + 1))) c4)).setCell ⟨w.heap.size, 0, none⟩ (.int .u32 x.1)).setCell ⟨w.heap.size, 1, none⟩ (.string (strOfNums x.2))).heap[r]? = some (.cells #[.slice ao4 (q + (its.length - (q + 1))) c4, .int .i64 room, pt g] 65 (0, 0)) := by
          rw [at_setCell_other 1 _ hrw, at_setCell_other 0 _ hrw]
          exact at_setCell_same HO2.out.2.2.1 0 _
        have hlen : (delI its a).length = q + (its.length - (q + 1)) := by rw [hfd.2]; simp; omega
        have hown : w2.ownsRow (wr.heap.size + 1) 67 2 (.slice ao4 (q + (its.length - (q + 1))) c4) (delI its a).length ((delI its a).flatMap It.cells) := by
          have h1 := HO2.out.1
          have e : (delI its a).flatMap It.cells = [] ++ List.take ((q - 0) * 2) (List.drop (0 * 2) (its.flatMap It.cells)) ++ List.take ((its.length - (q + 1)) * 2) (List.drop ((q + 1) * 2) (its.flatMap It.cells)) := by
            rw [hfd.2, List.flatMap_append, Nat.zero_mul, List.drop_zero, Nat.sub_zero, flatMap_take It.cells 2 (fun _ => rfl), flatMap_drop It.cells 2 (fun _ => rfl) its (q + 1) hX.1, List.take_of_length_le (l := (its.drop (q + 1)).flatMap It.cells) (by rw [flatMap_len It.cells 2 (fun _ => rfl), List.length_drop]; exact Nat.le_refl _), List.nil_append]
          rw [e, hlen]
          simpa using h1
        have hS : Upd (fun q => q = r ∨ q = w.heap.size) w2 (((w2.setCell ⟨r, 0, none⟩ (.slice ao4 (q + (its.length - (q + 1))) c4)).setCell ⟨w.heap.size, 0, none⟩ (.int .u32 x.1)).setCell ⟨w.heap.size, 1, none⟩ (.string (strOfNums x.2))) :=
          (((Upd.refl (fun q => q = r ∨ q = w.heap.size) w2).setCell (p := ⟨r, 0, none⟩) (fun _ => .inl rfl) _).setCell (p := ⟨w.heap.size, 0, none⟩) (fun _ => .inr rfl) _).setCell (p := ⟨w.heap.size, 1, none⟩) (fun _ => .inr rfl) _
        have hw2 : Upd (fun _ => False) w w2 := HH.out.2.2.1.trans HO2.out.2.1 (fun i hi f => by have h1 := HH.out.2.2.1.size; omega)
        have hall : Upd (fun q => q = r) w (((w2.setCell ⟨r, 0, none⟩ (.slice ao4 (q + (its.length - (q + 1))) c4)).setCell ⟨w.heap.size, 0, none⟩ (.int .u32 x.1)).setCell ⟨w.heap.size, 1, none⟩ (.string (strOfNums x.2))) :=
          (hw2.mono (fun _ _ f => f.elim)).trans hS (fun i hi f => f.elim id (fun e => by omega))
        have hown3 := ownsRow_base (base' := w.heap.size) (ownsRow_upd hown hS (fun q' hq' e => by
          have h1 := (hown.lt q' hq').1
          rcases e with e | e <;> omega)) (fun q' hq' => by have h1 := (hown.lt q' hq').1; have h2 := HH.out.2.2.1.size; omega)
        have hput := HH.out.1.put hall hr3 hown3
        refine bodyPost_ret (results_cell_tmp rfl rfl [.int .u32 x.1, .string (strOfNums x.2)] _ (range_at hz3 (fun j v hv => by simpa using hv)) Try.underlying67 rfl (by kernel_rfl)) rfl ⟨?_, ⟨_, hput⟩, hall.mono (fun q' _ e => by rw [e]; exact HH.out.1.fr)⟩
        rw [hfd.1, ← hX.2]
        rfl
      · have hbf : (x.1 == a) = false := by simpa using hxa
        go_wp2_with (first
          | ((with_reducible change wpList _ _ _ (⟨_, Op.indexAddr _ _ _, _, _, _, _⟩ :: _) _ _); refine wpl_index rfl _ _ _ rfl 67 2 Try.underlying63 sizeItem (by decide) _ _ _ HR.out rfl q rfl HX.out.1 ?_; intro bk off _ hcell; have e0 := hcell 0 _ HK.out.1; clear hcell; simp only [Nat.add_zero] at e0))
        go_roundg (its.length - (q + 1))
        case measure => have := HX.out.1; omega
        case rel =>
          refine ⟨q + 1, by have := HX.out.1; omega, by go_num, rfl, Lib.hid (fun p hp => ?_)⟩
          have hl := HX.out.1
          rw [List.take_succ_eq_append_getElem hl] at hp
          rcases List.mem_append.1 hp with hp | hp
          · exact HN.out p hp
          · rw [List.mem_singleton.1 hp, ← HX.out.2]; exact hxa
    · have hnl : ¬ ((q : Int) < (its.length : Int)) := by omega
      have hall : ∀ p ∈ its, p.1 ≠ a := by
        have : its.take q = its := List.take_of_length_le (by omega)
        rw [← this]; exact HN.out
      have HALL := Lib.hid hall
      have hzz := HH.out.2.2.2
      have z0 : wr.cell? ⟨w.heap.size, 0, none⟩ = some (.int .u32 0) := cell_at hzz 0
      have z1 : wr.cell? ⟨w.heap.size, 1, none⟩ = some (.string ⟨#[]⟩) := cell_at hzz 1
      have zf := fun i => free_at hzz i
      clear hall hzz
      go_wp2_with fail
      have hfd := find_not HALL.out
      have hz3 := at_setCell_same (at_setCell_same HH.out.2.2.2 0 (.int .u32 0)) 1 (.string ⟨#[]⟩)
      have hu3 : Upd (fun _ => False) w ((wr.setCell ⟨w.heap.size, 0, none⟩ (.int .u32 0)).setCell ⟨w.heap.size, 1, none⟩ (.string ⟨#[]⟩)) := (HH.out.2.2.1.setCell (p := ⟨w.heap.size, 0, none⟩) (fun f => absurd f (Nat.lt_irrefl _)) _).setCell (p := ⟨w.heap.size, 1, none⟩) (fun f => absurd f (Nat.lt_irrefl _)) _
      have h3 := HH.out.1.upd hu3 (fun _ _ f => f)
      refine bodyPost_ret (results_cell_tmp rfl rfl [.int .u32 0, .string ⟨#[]⟩] _ (range_at hz3 (fun j v hv => by simpa using hv)) Try.underlying67 rfl (by kernel_rfl)) rfl ⟨?_, ⟨.slice ao its.length c, ?_⟩, hu3.mono (fun _ _ f => f.elim)⟩
      · rw [hfd.1]
        rfl
      · rw [hfd.2]
        exact h3.grow (fun q hq => .inl hq) (fun q hq => hq.elim (h3.lt q) (fun f => f.2))
set_option maxHeartbeats 2000000 in
set_option maxRecDepth 10000 in
theorem front_calls {w : World} {r m : Nat} {k : Int} {its : List It} {gl : List Int} {F : Nat → Prop} {v : Value} {g : Nat} {Fg : Nat → Prop} (H : RLies w r (m : Int) k its gl F v g Fg) (p : It) (hx : its.length ≤ 5000) :
    Calls Try.prog 29 #[pt r, itVal p] w fun e w' => e = .returned (.tuple #[]) ∧ (∃ v', RLies w' r (m : Int) k ((p :: its).take m) gl (fun q => F q ∨ fresh w w' q) v' g Fg) ∧ Upd F w w' := by
  obtain ⟨ao, c, hv⟩ := (owns_reads H.row).len
  subst hv
  obtain ⟨i0, hi, hz0, hz1, hz2⟩ := info_parts infoItem
  obtain ⟨q, hq, hqm⟩ : ∃ q : Nat, q = min (its.length + 1) m ∧ q ≤ its.length + 1 := ⟨_, rfl, Nat.min_le_left _ _⟩
  have hcase : (m < its.length + 1 ∧ q = m) ∨ (its.length + 1 ≤ m ∧ q = its.length + 1) := by omega
  have hqt : (p :: its).take m = (p :: its).take q := by
    rcases hcase with ⟨_, e⟩ | ⟨h1, e⟩
    · rw [e]
    · rw [List.take_of_length_le (by simp; omega), List.take_of_length_le (by simp; omega)]
  obtain ⟨wa, hwa⟩ : ∃ wa, wa = (w.alloc (.cells #[.int .u32 p.1, .string (strOfNums p.2)] 67)).alloc (.cells #[.int .u32 p.1, .string (strOfNums p.2)] 67) := ⟨_, rfl⟩
  have hsza : wa.heap.size = w.heap.size + 2 := by rw [hwa, size_alloc, size_alloc]
  have huA : Upd (fun _ => False) w wa := by rw [hwa]; exact ((Upd.refl _ w).alloc _).alloc _
  have hm : wa.ownsRow (w.heap.size + 1) 67 2 (.slice (some ⟨w.heap.size + 1, 0, none⟩) 1 1) 1 [.int .u32 p.1, .string (strOfNums p.2)] := by
    rw [hwa]
    exact ⟨rfl, .inr ⟨w.heap.size + 1, 1, _, rfl, Nat.le_refl _, heap_alloc2 w _ _, Nat.le_refl _, by unfold maxLen; omega, rfl, rfl⟩⟩
  have HA := H.upd huA (fun _ _ f => f)
  have hra := owns_reads HA.row
  have HWA := Lib.hid (And.intro hwa (And.intro hsza (And.intro huA (And.intro H HA))))
  have hrl := H.lt r H.fr
  rw [hwa] at hm hra
  have HM := Lib.hid hm; have HRA := Lib.hid hra; have HQT := Lib.hid (And.intro hqt (And.intro hqm hq))
  have c0 : wa.cell? ⟨r, 0, none⟩ = some (.slice ao its.length c) := cell_at HA.here 0
  rw [hwa] at c0
  have c00 : w.cell? ⟨r, 0, none⟩ = some (.slice ao its.length c) := cell_at H.here 0
  have hrl1 : r < w.heap.size + 1 := by omega
  clear hwa hsza huA H HA hm hra hqt hqm hq
  have hp : itVal p = .agg #[.int .u32 p.1, .string (strOfNums p.2)] := rfl
  rw [hp]
  clear hp
  rcases hcase with ⟨hc1, hc2⟩ | ⟨hc1, hc2⟩
  all_goals
    have HC2 := Lib.hid hc2
    clear hc2
    go_enter Try.func29, Try.ntmps29
    go_wp2_with (first
      | ((with_reducible change wpList _ _ _ (⟨_, Op.call { callee := Callee.builtin Builtin.append, args := _, argTypes := _ }, _, _, _, _⟩ :: _) _ _); refine wpl_append rfl _ _ 63 rfl (w.heap.size + 1) 67 i0 (.agg #[.int .u32 0, .string ⟨#[]⟩]) 2 24 Try.underlying63 hi hz0 hz1 hz2 rfl (by decide) _ _ _ HM.out rfl _ _ _ HRA.out rfl (its_one its) (by unfold maxLen; omega) (by omega) (by rw [size_alloc, size_alloc]; omega) ?_
         intro v2 w2 hown hg2 _
         obtain ⟨g2, c2, hv2, hle2, _, _⟩ := owns_pos hown (by omega)
         subst hv2
         have hu2 : Upd (fun g => w.heap.size + 1 ≤ g) wa w2 := by
           rw [HWA.out.1]
           exact ((Upd.refl _ _)).grown hg2 (fun g hg _ => by rw [own_lit hg]; exact Nat.le_refl _)
         have hw2 : Upd (fun _ => False) w w2 := HWA.out.2.2.1.trans hu2 (fun i hi f => by omega)
         have hr2 := hw2.at HWA.out.2.2.2.1.here (fun f => f)
         have c02 : w2.cell? ⟨r, 0, none⟩ = some (.slice ao its.length c) := cell_at hr2 0
         have c12 : w2.cell? ⟨r, 1, none⟩ = some (.int .i64 (m : Int)) := cell_at hr2 1
         have f02 : w2.frozen? ⟨r, 0, none⟩ = false := free_at hr2 0
         have HO := Lib.hid (And.intro hown (And.intro hw2 hr2))
         clear hown hg2 hu2 hw2 hr2))
    go_end0
    have ho := ownsRow_take HO.out.1 (k := q) (by have := HQT.out.2.1; omega)
    have hq := HQT.out
    have hc := HC2.out
    have hl : ((p :: its).take q).length = q := by rw [List.length_take, List.length_cons]; omega
    have hcs : ((p :: its).take q).flatMap It.cells = ([Value.int .u32 p.1, Value.string (strOfNums p.2)] ++ its.flatMap It.cells).take (q * 2) := by
      rw [← flatMap_take It.cells 2 (fun _ => rfl)]
      rfl
    have hown : w2.ownsRow (w.heap.size + 1) 67 2 (.slice (some ⟨g2, 0, none⟩) q c2) ((p :: its).take q).length (((p :: its).take q).flatMap It.cells) := by
      rw [hl, hcs]
      exact ho
    have hS : Upd (fun i => i = r) w2 (w2.setCell ⟨r, 0, none⟩ (.slice (some ⟨g2, 0, none⟩) q c2)) := (Upd.refl (fun i => i = r) w2).setCell (p := ⟨r, 0, none⟩) (fun _ => rfl) _
    have hall := (HO.out.2.1.mono (fun _ _ f => f.elim)).trans hS (fun i hi f => f)
    have hput := HWA.out.2.2.2.1.put hall (at_setCell_same HO.out.2.2 0 _) (ownsRow_base (base' := w.heap.size) (ownsRow_upd hown hS (fun i hi e => by have h1 := (hown.lt i hi).1; omega)) (fun i hi => by have h1 := (hown.lt i hi).1; omega))
    rw [← hq.1] at hput
    have hqe : (min (1 + (its.length : Int)) (m : Int)).toNat = q := by omega
    try rw [hqe]
    exact ⟨rfl, ⟨.slice (some ⟨g2, 0, none⟩) q c2, hput⟩, hall.mono (fun i _ e => by rw [e]; exact HWA.out.2.2.2.1.fr)⟩
end Go.Proofs.Ytfpbkofjbnmkeaa
