/- What this text proves: contracts of package table's Load at a table that there may be, and of pumiceref11's SameRows. Conditions: each theorem's own. -/
import Derived.Test.YtbffcogpicaloaaTableLaws
import Derived.Laws.StructEq
namespace Go.Proofs.Ytbffcogpicaloaa
open Go Go.RowKit
open Go.Proofs

/-- a table that there may be. -/
structure Tab.Ok (t : Tab) : Prop where
  good : t.Good
  kinds : ∀ i, i < t.rows.length → ((t.rows.getD i .zero).kind = 0 ∧ (t.rows.getD i .zero).seq = 0 ∧ t.opn ≠ i) ∨
    (((t.rows.getD i .zero).kind = 1 ∧ t.opn = i ∨ (t.rows.getD i .zero).kind = 2 ∧ t.opn ≠ i) ∧ 1 ≤ (t.rows.getD i .zero).seq ∧ (t.rows.getD i .zero).seq < t.next)
  apart : ∀ i j, i < t.rows.length → j < t.rows.length → (t.rows.getD i .zero).kind ≠ 0 → (t.rows.getD j .zero).kind ≠ 0 → (t.rows.getD i .zero).seq = (t.rows.getD j .zero).seq → i = j
  one : 1 ≤ t.next
theorem newT_ok (n : Nat) (hn : n ≤ 256) : (newT n).Ok := by
  have e : ∀ i, i < n → ((newT n).rows.getD i .zero) = .zero := fun i hi => by
    rw [getD_at (by simpa [newT] using hi)]
    simp [newT]
  refine ⟨newT_good n hn, fun i hi => .inl ?_, fun i j hi _ hk => ?_, by simp [newT]⟩
  · rw [e i (by simpa [newT] using hi)]
    exact ⟨rfl, rfl, by simp [newT]⟩
  · rw [e i (by simpa [newT] using hi)] at hk
    exact absurd rfl hk
theorem getD_set {rows : List Seg} {j : Nat} (hj : j < rows.length) (s : Seg) (i : Nat) : (rows.set j s).getD i .zero = if i = j then s else rows.getD i .zero := by
  simp only [List.getD_eq_getElem?_getD, List.getElem?_set]
  by_cases e : j = i
  · subst e
    simp [hj]
  · rw [if_neg e, if_neg (fun h => e h.symm)]
theorem Tab.Ok.open {t : Tab} (h : t.Ok) (hn : t.next + 1 < 9223372036854775808) : (openT t).2.Ok := by
  have hg := (h.good.open hn).1
  rcases openT_cases t with ⟨c, _, e⟩ | ⟨j, hj, hk, ho, _, e⟩
  · rw [e]; exact h
  · rw [e] at hg ⊢
    have hone := h.one
    refine ⟨hg, fun i hi => ?_, fun i k hi hk1 hi2 hk2 hs => ?_, by show 1 ≤ t.next + 1; omega⟩
    · have hi' : i < t.rows.length := by simpa using hi
      simp only [getD_set hj]
      by_cases eij : i = j
      · subst eij
        simp only [if_true]
        exact .inr ⟨.inl ⟨by simp [opened], by simp⟩, hone, by simp only [opened]; omega⟩
      · simp only [if_neg eij]
        rcases h.kinds i hi' with ⟨h1, h2, h3⟩ | ⟨h1, h2, h3⟩
        · exact .inl ⟨h1, h2, by show (j : Int) ≠ i; omega⟩
        · refine .inr ⟨.inr ⟨?_, by show (j : Int) ≠ i; omega⟩, h2, by show _ < t.next + 1; omega⟩
          rcases h1 with h1 | h1
          · omega
          · exact h1.1
    · have hi' : i < t.rows.length := by simpa using hi
      have hk' : k < t.rows.length := by simpa using hk1
      simp only [getD_set hj] at hi2 hk2 hs
      by_cases eij : i = j <;> by_cases ekj : k = j
      · omega
      · simp only [eij, if_true, if_neg ekj, opened] at hs hk2
        have := h.kinds k hk'
        omega
      · simp only [if_neg eij, ekj, if_true, opened] at hs hi2
        have := h.kinds i hi'
        omega
      · simp only [if_neg eij, if_neg ekj] at hs hi2 hk2
        exact h.apart i k hi' hk' hi2 hk2 hs
theorem Tab.Ok.seal {t : Tab} (h : t.Ok) : (sealT t).2.Ok := by
  have hg := h.good.seal.1
  unfold sealT at hg ⊢
  split
  · exact h
  · rename_i ho
    rw [if_neg ho] at hg
    have hj : t.opn.toNat < t.rows.length := by have := h.good.opn; omega
    obtain ⟨j, hjo⟩ : ∃ j : Nat, t.opn = j := ⟨_, (Int.toNat_of_nonneg (by omega)).symm⟩
    have hjn : t.opn.toNat = j := by omega
    rw [hjn] at hj hg ⊢
    have hkj := h.kinds j hj
    refine ⟨hg, fun i hi => ?_, fun i k hi hk1 hi2 hk2 hs => ?_, h.one⟩
    · have hi' : i < t.rows.length := by simpa using hi
      simp only [getD_set hj]
      by_cases eij : i = j
      · subst eij
        simp only [if_true]
        exact .inr ⟨.inr ⟨by simp, by show (-1 : Int) ≠ i; omega⟩, by omega, by show (t.rows.getD i .zero).seq < t.next; omega⟩
      · simp only [if_neg eij]
        rcases h.kinds i hi' with ⟨h1, h2, h3⟩ | ⟨h1, h2, h3⟩
        · exact .inl ⟨h1, h2, by show (-1 : Int) ≠ i; omega⟩
        · refine .inr ⟨.inr ⟨?_, by show (-1 : Int) ≠ i; omega⟩, h2, h3⟩
          rcases h1 with h1 | h1
          · omega
          · exact h1.1
    · have hi' : i < t.rows.length := by simpa using hi
      have hk' : k < t.rows.length := by simpa using hk1
      have e : ∀ i, i < t.rows.length → ((t.rows.set j { t.rows.getD j .zero with kind := 2 }).getD i .zero).kind ≠ 0 → (t.rows.getD i .zero).kind ≠ 0 ∧ ((t.rows.set j { t.rows.getD j .zero with kind := 2 }).getD i .zero).seq = (t.rows.getD i .zero).seq := by
        intro i hi hk
        rw [getD_set hj] at hk ⊢
        by_cases eij : i = j
        · subst eij
          simp only [if_true]
          exact ⟨by omega, trivial⟩
        · simp only [if_neg eij] at hk ⊢
          exact ⟨hk, trivial⟩
      have e1 := e i hi' hi2
      have e2 := e k hk' hk2
      exact h.apart i k hi' hk' e1.1 e2.1 (by rw [← e1.2, ← e2.2]; exact hs)
theorem Tab.Ok.release {t : Tab} (h : t.Ok) (s : Int) : (releaseT t s).2.Ok := by
  have hg := (h.good.release s).1
  unfold releaseT at hg ⊢
  split
  · exact h
  · rename_i h1
    rw [if_neg h1] at hg
    split
    · exact h
    · rename_i h2
      rw [if_neg h2] at hg
      obtain ⟨j, hjo⟩ : ∃ j : Nat, s = j := ⟨_, (Int.toNat_of_nonneg (by omega)).symm⟩
      subst hjo
      rw [Int.toNat_natCast] at h2 hg ⊢
      have hj : j < t.rows.length := by omega
      have hkj := h.kinds j hj
      refine ⟨hg, fun i hi => ?_, fun i k hi hk1 hi2 hk2 hs => ?_, h.one⟩
      · have hi' : i < t.rows.length := by simpa using hi
        simp only [getD_set hj]
        by_cases eij : i = j
        · subst eij
          simp only [if_true]
          exact .inl ⟨trivial, trivial, by show t.opn ≠ i; omega⟩
        · simp only [if_neg eij]
          exact h.kinds i hi'
      · have hi' : i < t.rows.length := by simpa using hi
        have hk' : k < t.rows.length := by simpa using hk1
        simp only [getD_set hj] at hi2 hk2 hs
        by_cases eij : i = j
        · simp [eij] at hi2
        · by_cases ekj : k = j
          · simp [ekj] at hk2
          · simp only [if_neg eij, if_neg ekj] at hs hi2 hk2
            exact h.apart i k hi' hk' hi2 hk2 hs
theorem Tab.Ok.act {t : Tab} (h : t.Ok) (hn : t.next + 1 < 9223372036854775808) (a : Int × Int) : (doT t a).2.Ok := by
  unfold doT
  split
  · exact h.open hn
  · split
    · exact h.seal
    · exact h.release a.2

/-! ### Load -/
/-- the numbers that were had, of so many segments. -/
def hadM (rows : List Seg) : List (Value × Value) := (rows.filter (fun s => decide (s.kind ≠ 0))).map fun s => (.int .u64 s.seq, .bool true)
theorem hadM_snoc {rows : List Seg} {k : Nat} (hk : k < rows.length) : hadM (rows.take (k + 1)) = if (rows.getD k .zero).kind = 0 then hadM (rows.take k) else hadM (rows.take k) ++ [(.int .u64 (rows.getD k .zero).seq, .bool true)] := by
  rw [getD_at hk, List.take_succ_eq_append_getElem hk]
  unfold hadM
  rw [List.filter_append, List.map_append]
  by_cases h : rows[k].kind = 0
  · simp [h]
  · simp [h]
theorem hadM_none {t : Tab} (h : t.Ok) {k : Nat} (hk : k < t.rows.length) (h0 : (t.rows.getD k .zero).kind ≠ 0) : alook (hadM (t.rows.take k)) (.int .u64 (t.rows.getD k .zero).seq) = none := by
  unfold alook
  rw [Option.map_eq_none_iff, List.find?_eq_none]
  intro p hp
  unfold hadM at hp
  obtain ⟨s, hs, rfl⟩ := List.mem_map.1 hp
  obtain ⟨hs1, hs2⟩ := List.mem_filter.1 hs
  obtain ⟨i, hi, rfl⟩ := List.getElem_of_mem hs1
  have hik : i < k := by have := hi; simp at this; omega
  have hi' : i < t.rows.length := by omega
  simp only [List.getElem_take, decide_eq_true_eq] at hs2 ⊢
  intro e
  injection e with _ e
  have := h.apart i k hi' hk (by rw [getD_at hi']; exact hs2) h0 (by rw [getD_at hi']; exact e)
  omega
def opnAt (t : Tab) (k : Nat) : Int := if 0 ≤ t.opn ∧ t.opn < k then t.opn else -1
theorem opnAt_end {t : Tab} (h : t.Good) : opnAt t t.rows.length = t.opn := by
  unfold opnAt
  have := h.opn
  split <;> omega
structure LoadSt (w : World) (bt bm : Nat) (v : Value) (t : Tab) (F : Nat → Prop) (k : Nat) (wr : World) : Prop where
  tab : TabV wr bt v { t with opn := opnAt t k } F
  map : MapAt wr Try.prog 27 bm (hadM (t.rows.take k))
  bm : ¬ F bm ∧ w.heap.size ≤ bm
  below : Below w.heap.size w wr
def LoadRel (w : World) (bt bm : Nat) (v : Value) (t : Tab) (F : Nat → Prop) (g : Nat) (i : Value) (wr : World) : Prop := ∃ k : Nat, k + g = t.rows.length ∧ i = .int .i64 k ∧ LoadSt w bt bm v t F k wr
theorem kU64 : Maps.Keyed Try.prog 27 := Maps.int_keyed Try.underlying27
theorem zBool (w : World) : (zeroValue 4).run Try.prog w = .ok (.bool false) w := by kernel_rfl

set_option maxRecDepth 10000 in
set_option maxHeartbeats 4000000 in
theorem load_calls (w : World) (v : Value) (t : Tab) (h : t.Ok) (hn : t.rows.length ≤ 256) (hr : Reads w 3 v t.rows.length (t.rows.flatMap Seg.cells)) :
    Calls Try.prog 18 #[v, .int .u64 t.next] w fun e w' => ∃ b v' F, e = .returned (.tuple #[.pointer (some ⟨b, 0, none⟩), .int .i64 0]) ∧ TabV w' b v' t F ∧ (∀ k, F k → w.heap.size ≤ k) ∧ Below w.heap.size w w' := by
  obtain ⟨va, vc, hva⟩ := hr.len
  subst hva
  have hone := h.one
  have hnx := h.good.next
  have hnz : (t.next == 0) = false := by simp; omega
  have hlen : ¬ (256 : Int) < t.rows.length := by omega
  have HR := Lib.hid hr; clear hr
  have HT := Lib.hid h; clear h
  have HNX := Lib.hid (And.intro hone hnx); clear hone hnx
  have hmm := @run_makeMap Try.prog
  go_enter Try.func18, Try.ntmps18
  go_wp2_with fail
  refine (clone_calls w _ _ _ HR.out (segs_one _) (by omega)).mono ?_
  rintro e w1 ⟨v1, rfl, ho1, hb1⟩
  obtain ⟨a1, c1, hv1⟩ := (owns_reads ho1).len
  subst hv1
  have HO1 := Lib.hid ho1; clear ho1
  have HB1 := Lib.hid hb1; clear hb1
  go_wp2_with fail
  clear hmm
  have hst : LoadSt w w1.heap.size (w1.heap.size + 1) (.slice a1 t.rows.length c1) t (fun k => w.heap.size ≤ k ∧ k < w1.heap.size + 1) 0 ((w1.alloc (.cells #[.slice a1 t.rows.length c1, .int .u64 t.next, .int .i64 (-1)] 61)).alloc (.map #[] 0)) := by
    have hsz := HB1.out.size
    have hal : Upd (fun _ => False) w1 (w1.alloc (.cells #[.slice a1 t.rows.length c1, .int .u64 t.next, .int .i64 (-1)] 61)) := (Upd.refl _ _).alloc _
    have ho : opnAt t 0 = -1 := by unfold opnAt; rw [if_neg (by omega)]
    refine ⟨⟨?_, ?_, fun k hk => ?_, ⟨hsz, by omega⟩, fun k hk => by have := hk.2; simp; omega⟩, ?_, ⟨fun f => by have := f.2; omega, by omega⟩, (HB1.out.alloc hsz _).alloc (by simp; omega) _⟩
    · rw [ho]; exact at_alloc_old (at_alloc_new _ _) _
    · exact ownsRow_upd (ownsRow_base HO1.out (fun _ _ => Nat.zero_le _)) (hal.alloc _) (fun _ _ f => f)
    · have := HO1.out.lt k hk
      exact ⟨⟨this.1, by omega⟩, by omega⟩
    · have := MapAt.made (w1.alloc (.cells #[.slice a1 t.rows.length c1, .int .u64 t.next, .int .i64 (-1)] 61)) Try.prog 27
      simpa [hadM] using this
  have HST := Lib.hid hst; clear hst
  generalize w1.heap.size = bt at *
  obtain ⟨bm, hbm⟩ : ∃ bm, bm = bt + 1 := ⟨_, rfl⟩
  rw [← hbm] at HST ⊢
  clear hbm HB1 HO1
  go_loopg [25] t.rows.length (fun g i wr => LoadRel w bt bm (.slice a1 t.rows.length c1) t (fun k => w.heap.size ≤ k ∧ k < bm) g i wr)
  case atStart => exact ⟨0, by simp, rfl, HST.out⟩
  case round =>
    obtain ⟨k, hk, rfl, hst⟩ := hrel
    have HC := Lib.hid hst; clear hst
    by_cases hlt : k < t.rows.length
    · have HX := Lib.hid hlt
      have HRR := Lib.hid (HR.out.below HC.out.below (Nat.le_refl _))
      obtain ⟨sq, hsq⟩ : ∃ x, x = (t.rows.getD k .zero).seq := ⟨_, rfl⟩
      obtain ⟨wk, hwk⟩ : ∃ x, x = (t.rows.getD k .zero).wear := ⟨_, rfl⟩
      have hkinds := HT.out.kinds k hlt
      rw [← hsq] at hkinds
      rcases hkinds with ⟨hkd, hs0, hop⟩ | ⟨⟨hkd, hop⟩ | ⟨hkd, hop⟩, hs1, hs2⟩
      · subst hs0
        have HCL : Hid ((t.rows.flatMap Seg.cells)[k * 3 + 0]? = some (.int .u8 0) ∧ (t.rows.flatMap Seg.cells)[k * 3 + 1]? = some (.int .u64 0) ∧ (t.rows.flatMap Seg.cells)[k * 3 + 2]? = some (.int .u32 wk)) := Lib.hid ⟨(Seg.at_ HX.out (by omega)).trans (by show some (Value.int .u8 (t.rows.getD k .zero).kind) = _; rw [hkd]), (Seg.at_ HX.out (by omega)).trans (by show some (Value.int .u64 (t.rows.getD k .zero).seq) = _; rw [← hsq]), (Seg.at_ HX.out (by omega)).trans (by show some (Value.int .u32 (t.rows.getD k .zero).wear) = _; rw [← hwk])⟩
        have HQ := Lib.hid (And.intro hsq (And.intro hwk (And.intro hkd hop))); clear hsq hwk hkd hop
        obtain ⟨W, hW⟩ : ∃ W, W = wr.alloc (.cells #[.int .u8 0, .int .u64 0, .int .u32 wk] 36) := ⟨_, rfl⟩
        obtain ⟨cc, hcc⟩ : ∃ cc, cc = wr.heap.size := ⟨_, rfl⟩
        have m0 : W.cell? ⟨cc, 0, none⟩ = some (.int .u8 0) := by rw [hW, hcc]; simp
        have m1 : W.cell? ⟨cc, 1, none⟩ = some (.int .u64 0) := by rw [hW, hcc]; simp
        have hWS : LoadSt w bt bm (.slice a1 t.rows.length c1) t (fun k => w.heap.size ≤ k ∧ k < bm) k W ∧ cc ≠ bm := by
          have h1 := HC.out
          have hal : Upd (fun _ => False) wr W := by rw [hW]; exact (Upd.refl _ _).alloc _
          exact ⟨⟨h1.tab.upd hal (fun _ _ f => f), h1.map.upd hal (fun f => f), h1.bm, h1.below.trans (hal.below h1.below.size (fun _ f => f.elim))⟩, by have := h1.map.lt; omega⟩
        have HWS := Lib.hid hWS.1
        have hcb := hWS.2
        clear hWS
        have HKD := Lib.hid HQ.out.2.2.1
        have HOP := Lib.hid HQ.out.2.2.2
        subst hW hcc
        go_wp2_with (first
          | ((with_reducible change wpList _ _ _ (⟨_, Op.indexAddr _ _ _, _, _, _, _⟩ :: _) _ _); refine wpl_index rfl _ _ _ rfl 36 3 Try.underlying33 sizeSeg (by decide) _ _ _ HRR.out rfl k rfl HX.out ?_; intro bk off _ hcell; have c0 := hcell 0 _ HCL.out.1; have c1 := hcell 1 _ HCL.out.2.1; have c2 := hcell 2 _ HCL.out.2.2; clear hcell; simp only [Nat.add_zero] at c0))
        go_roundg (t.rows.length - (k + 1))
        case measure => have := HX.out; omega
        case rel =>
          have h1 := HWS.out
          have e1 : opnAt t (k + 1) = opnAt t k := by have := HOP.out; unfold opnAt; split <;> split <;> omega
          have e2 := hadM_snoc HX.out
          rw [if_pos HKD.out] at e2
          exact ⟨k + 1, by have := HX.out; omega, by go_num, ⟨by rw [e1]; exact h1.tab, by rw [e2]; exact h1.map, h1.bm, h1.below⟩⟩
      · have hoa : opnAt t k = -1 := by unfold opnAt; rw [if_neg (by omega)]
        have HCL : Hid ((t.rows.flatMap Seg.cells)[k * 3 + 0]? = some (.int .u8 1) ∧ (t.rows.flatMap Seg.cells)[k * 3 + 1]? = some (.int .u64 sq) ∧ (t.rows.flatMap Seg.cells)[k * 3 + 2]? = some (.int .u32 wk)) := Lib.hid ⟨(Seg.at_ HX.out (by omega)).trans (by show some (Value.int .u8 (t.rows.getD k .zero).kind) = _; rw [hkd]), (Seg.at_ HX.out (by omega)).trans (by show some (Value.int .u64 (t.rows.getD k .zero).seq) = _; rw [← hsq]), (Seg.at_ HX.out (by omega)).trans (by show some (Value.int .u32 (t.rows.getD k .zero).wear) = _; rw [← hwk])⟩
        have HQ := Lib.hid (And.intro hsq (And.intro hwk (And.intro hkd hop))); clear hsq hwk hkd hop
        obtain ⟨W, hW⟩ : ∃ W, W = wr.alloc (.cells #[.int .u8 1, .int .u64 sq, .int .u32 wk] 36) := ⟨_, rfl⟩
        obtain ⟨cc, hcc⟩ : ∃ cc, cc = wr.heap.size := ⟨_, rfl⟩
        have m0 : W.cell? ⟨cc, 0, none⟩ = some (.int .u8 1) := by rw [hW, hcc]; simp
        have m1 : W.cell? ⟨cc, 1, none⟩ = some (.int .u64 sq) := by rw [hW, hcc]; simp
        have hWS : LoadSt w bt bm (.slice a1 t.rows.length c1) t (fun k => w.heap.size ≤ k ∧ k < bm) k W ∧ cc ≠ bm := by
          have h1 := HC.out
          have hal : Upd (fun _ => False) wr W := by rw [hW]; exact (Upd.refl _ _).alloc _
          exact ⟨⟨h1.tab.upd hal (fun _ _ f => f), h1.map.upd hal (fun f => f), h1.bm, h1.below.trans (hal.below h1.below.size (fun _ f => f.elim))⟩, by have := h1.map.lt; omega⟩
        have HWS := Lib.hid hWS.1
        have hcb := hWS.2
        clear hWS
        have n2 : W.cell? ⟨bt, 2, none⟩ = some (.int .i64 (opnAt t k)) := cell_at HWS.out.tab.here 2
        have f2 := free_at HWS.out.tab.here 2
        have hbl := lt_of_at HWS.out.tab.here
        have hbb : bt ≠ bm := fun e => HWS.out.bm.1 (e ▸ HWS.out.tab.self)
        have HMW := Lib.hid HWS.out.map
        have hs0 : (sq == 0) = false := by simp; omega
        have hsn : decide (t.next ≤ sq) = false := by simp; omega
        have hkn : (t.rows.getD k .zero).kind ≠ 0 := by rw [HQ.out.2.2.1]; decide
        have hnone := hadM_none HT.out HX.out hkn
        rw [← HQ.out.1] at hnone
        have HSW : Hid ((Lit.int .u64 sq).wf = true) := Lib.hid (by have := HNX.out; simp [Lit.wf, IntKind.min, IntKind.max, IntKind.signed, IntKind.bits]; omega)
        have hlook : (Instr.lookup 64 (.map (some bm)) (.int .u64 sq) false).run Try.prog W = .ok (.bool false) W := by
          have := HMW.out.look (t := 64) (c := false) kU64 Try.underlying64 (zBool W) (Maps.keyOf_int_mk Try.underlying27 HSW.out)
          rw [hnone] at this
          simpa using this
        have hsnoc := hadM_snoc HX.out
        rw [if_neg hkn, ← HQ.out.1, ← aput_none hnone (val := .bool true)] at hsnoc
        have HSN := Lib.hid (And.intro hsnoc hkn); clear hsnoc hkn hnone
        rw [hoa] at n2
        have HOP := Lib.hid (And.intro HQ.out.2.2.2 (And.intro HQ.out.2.2.1 hoa))
        subst hW hcc
        go_wp2_with (first
          | ((with_reducible change wpList _ _ _ (⟨_, Op.indexAddr _ _ _, _, _, _, _⟩ :: _) _ _); refine wpl_index rfl _ _ _ rfl 36 3 Try.underlying33 sizeSeg (by decide) _ _ _ HRR.out rfl k rfl HX.out ?_; intro bk off _ hcell; have c0 := hcell 0 _ HCL.out.1; have c1 := hcell 1 _ HCL.out.2.1; have c2 := hcell 2 _ HCL.out.2.2; clear hcell; simp only [Nat.add_zero] at c0)
          | (at_mapUpdate; refine wpl_mapUpdate rfl _ _ _ 64 rfl 27 4 kU64 Try.underlying64 bm _ HMW.out rfl _ (.bool true) _ (Maps.keyOf_int_mk Try.underlying27 HSW.out) rfl rfl ?_; intro w6 hm6 hu6; have HM6 := Lib.hid (And.intro hm6 hu6); clear hm6 hu6; have e2 : w6.cell? ⟨bt, 2, none⟩ = some (.int .i64 (-1)) := HM6.out.2.cell n2 hbb; have g2 : w6.frozen? ⟨bt, 2, none⟩ = false := (World.frozen?_of_block (a := ⟨bt, 2, none⟩) (HM6.out.2.block bt hbl hbb)).trans f2; have e0 : w6.cell? ⟨wr.heap.size, 0, none⟩ = some (.int .u8 1) := HM6.out.2.cell m0 hcb; have e1 : w6.cell? ⟨wr.heap.size, 1, none⟩ = some (.int .u64 sq) := HM6.out.2.cell m1 hcb))
        go_roundg (t.rows.length - (k + 1))
        case measure => have := HX.out; omega
        case rel =>
          have h1 := HWS.out
          have e3 : opnAt t (k + 1) = k := by have := HOP.out.1; unfold opnAt; rw [if_pos (by omega)]; exact this
          have hu := HM6.out.2
          have t1 := (h1.tab.upd hu (fun i hi e => h1.bm.1 (e ▸ hi))).setOpn k
          refine ⟨k + 1, by have := HX.out; omega, by go_num, ⟨by rw [e3]; exact t1, ?_, h1.bm, ?_⟩⟩
          · rw [HSN.out.1]
            exact HM6.out.1.upd ((Upd.refl (fun i => i = bt) w6).setCell (fun _ => rfl) _) (fun e => hbb e.symm)
          · have hb := h1.below
            exact (hb.trans (hu.below hb.size (fun i e => by rw [e]; exact h1.bm.2))).trans (((Upd.refl (fun i => i = bt) w6).setCell (fun _ => rfl) _).below (Nat.le_trans hb.size hu.size) (fun i e => by rw [e]; exact h1.tab.self.1))
      · have hoa : opnAt t (k + 1) = opnAt t k := by unfold opnAt; split <;> split <;> omega
        have HCL : Hid ((t.rows.flatMap Seg.cells)[k * 3 + 0]? = some (.int .u8 2) ∧ (t.rows.flatMap Seg.cells)[k * 3 + 1]? = some (.int .u64 sq) ∧ (t.rows.flatMap Seg.cells)[k * 3 + 2]? = some (.int .u32 wk)) := Lib.hid ⟨(Seg.at_ HX.out (by omega)).trans (by show some (Value.int .u8 (t.rows.getD k .zero).kind) = _; rw [hkd]), (Seg.at_ HX.out (by omega)).trans (by show some (Value.int .u64 (t.rows.getD k .zero).seq) = _; rw [← hsq]), (Seg.at_ HX.out (by omega)).trans (by show some (Value.int .u32 (t.rows.getD k .zero).wear) = _; rw [← hwk])⟩
        have HQ := Lib.hid (And.intro hsq (And.intro hwk (And.intro hkd hop))); clear hsq hwk hkd hop
        obtain ⟨W, hW⟩ : ∃ W, W = wr.alloc (.cells #[.int .u8 2, .int .u64 sq, .int .u32 wk] 36) := ⟨_, rfl⟩
        obtain ⟨cc, hcc⟩ : ∃ cc, cc = wr.heap.size := ⟨_, rfl⟩
        have m0 : W.cell? ⟨cc, 0, none⟩ = some (.int .u8 2) := by rw [hW, hcc]; simp
        have m1 : W.cell? ⟨cc, 1, none⟩ = some (.int .u64 sq) := by rw [hW, hcc]; simp
        have hWS : LoadSt w bt bm (.slice a1 t.rows.length c1) t (fun k => w.heap.size ≤ k ∧ k < bm) k W ∧ cc ≠ bm := by
          have h1 := HC.out
          have hal : Upd (fun _ => False) wr W := by rw [hW]; exact (Upd.refl _ _).alloc _
          exact ⟨⟨h1.tab.upd hal (fun _ _ f => f), h1.map.upd hal (fun f => f), h1.bm, h1.below.trans (hal.below h1.below.size (fun _ f => f.elim))⟩, by have := h1.map.lt; omega⟩
        have HWS := Lib.hid hWS.1
        have hcb := hWS.2
        clear hWS
        have n2 : W.cell? ⟨bt, 2, none⟩ = some (.int .i64 (opnAt t k)) := cell_at HWS.out.tab.here 2
        have f2 := free_at HWS.out.tab.here 2
        have hbl := lt_of_at HWS.out.tab.here
        have hbb : bt ≠ bm := fun e => HWS.out.bm.1 (e ▸ HWS.out.tab.self)
        have HMW := Lib.hid HWS.out.map
        have hs0 : (sq == 0) = false := by simp; omega
        have hsn : decide (t.next ≤ sq) = false := by simp; omega
        have hkn : (t.rows.getD k .zero).kind ≠ 0 := by rw [HQ.out.2.2.1]; decide
        have hnone := hadM_none HT.out HX.out hkn
        rw [← HQ.out.1] at hnone
        have HSW : Hid ((Lit.int .u64 sq).wf = true) := Lib.hid (by have := HNX.out; simp [Lit.wf, IntKind.min, IntKind.max, IntKind.signed, IntKind.bits]; omega)
        have hlook : (Instr.lookup 64 (.map (some bm)) (.int .u64 sq) false).run Try.prog W = .ok (.bool false) W := by
          have := HMW.out.look (t := 64) (c := false) kU64 Try.underlying64 (zBool W) (Maps.keyOf_int_mk Try.underlying27 HSW.out)
          rw [hnone] at this
          simpa using this
        have hsnoc := hadM_snoc HX.out
        rw [if_neg hkn, ← HQ.out.1, ← aput_none hnone (val := .bool true)] at hsnoc
        have HSN := Lib.hid (And.intro hsnoc hkn); clear hsnoc hkn hnone
        have HOP := Lib.hid (And.intro hoa HQ.out.2.2.1); clear hoa
        subst hW hcc
        go_wp2_with (first
          | ((with_reducible change wpList _ _ _ (⟨_, Op.indexAddr _ _ _, _, _, _, _⟩ :: _) _ _); refine wpl_index rfl _ _ _ rfl 36 3 Try.underlying33 sizeSeg (by decide) _ _ _ HRR.out rfl k rfl HX.out ?_; intro bk off _ hcell; have c0 := hcell 0 _ HCL.out.1; have c1 := hcell 1 _ HCL.out.2.1; have c2 := hcell 2 _ HCL.out.2.2; clear hcell; simp only [Nat.add_zero] at c0)
          | (at_mapUpdate; refine wpl_mapUpdate rfl _ _ _ 64 rfl 27 4 kU64 Try.underlying64 bm _ HMW.out rfl _ (.bool true) _ (Maps.keyOf_int_mk Try.underlying27 HSW.out) rfl rfl ?_; intro w6 hm6 hu6; have HM6 := Lib.hid (And.intro hm6 hu6); clear hm6 hu6; have e2 : w6.cell? ⟨bt, 2, none⟩ = some (.int .i64 (opnAt t k)) := HM6.out.2.cell n2 hbb; have g2 : w6.frozen? ⟨bt, 2, none⟩ = false := (World.frozen?_of_block (a := ⟨bt, 2, none⟩) (HM6.out.2.block bt hbl hbb)).trans f2; have e0 : w6.cell? ⟨wr.heap.size, 0, none⟩ = some (.int .u8 2) := HM6.out.2.cell m0 hcb; have e1 : w6.cell? ⟨wr.heap.size, 1, none⟩ = some (.int .u64 sq) := HM6.out.2.cell m1 hcb))
        go_roundg (t.rows.length - (k + 1))
        case measure => have := HX.out; omega
        case rel =>
          have h1 := HWS.out
          have hu := HM6.out.2
          have t1 := (h1.tab.upd hu (fun i hi e => h1.bm.1 (e ▸ hi)))
          refine ⟨k + 1, by have := HX.out; omega, by go_num, ⟨by rw [HOP.out.1]; exact t1, ?_, h1.bm, ?_⟩⟩
          · rw [HSN.out.1]
            exact HM6.out.1
          · have hb := h1.below
            exact (hb.trans (hu.below hb.size (fun i e => by rw [e]; exact h1.bm.2)))
    · obtain rfl : k = t.rows.length := by omega
      go_wp2_with fail
      go_ret2
      have h1 := HC.out
      have e := opnAt_end HT.out.good
      have h2 := h1.tab
      rw [e] at h2
      exact ⟨_, _, _, rfl, h2, fun k hk => hk.1, h1.below⟩

/-! ### SameRows -/
theorem neqSeg (s r : Seg) (w : World) : (binOp .neq 36 (.agg s.cells.toArray) (.agg r.cells.toArray)).run Try.prog w = .ok (.bool (!(s.kind == r.kind && s.seq == r.seq && s.wear == r.wear))) w := by
  have hS : Try.prog.underlying 36 = some (.struct (Try.prog.fieldsOf 36)) := by kernel_rfl
  have hp : Try.prog.stoodInHeld 36 = false := by kernel_rfl
  have u8 := Try.underlying5
  have u64 := Try.underlying27
  have u32 := Try.underlying32
  have a8 := Try.isAgg5
  have a64 := Try.isAgg27
  have a32 := Try.isAgg32
  have z8 := Try.sizeOf5
  have z64 := Try.sizeOf27
  have z32 := Try.sizeOf32
  simp only [Seg.cells]
  rw [run_neq_struct, show (10000 : Nat) = 9999 + 1 from rfl, run_equalIn_agg w 9999 36 _ _ hS hp]
  simp only [Program.fieldsOf, Try.underlying36]
  go_simp
  by_cases h1 : s.kind = r.kind <;> by_cases h2 : s.seq = r.seq <;> by_cases h3 : s.wear = r.wear <;> simp [h1, h2, h3]
theorem guardSeg (x y : Operand) (xs ys : Array Value) (w : World) : (eqGuard .neq 36 x y (.agg xs) (.agg ys)).run Try.prog w = .ok () w :=
  run_eqGuard_agg w .neq 36 x y xs ys (by kernel_rfl)

set_option maxHeartbeats 2000000 in
theorem sameRows_calls (w : World) (u v : Value) (rows : List Seg) (hu : Reads w 3 u rows.length (rows.flatMap Seg.cells)) (hv : Reads w 3 v rows.length (rows.flatMap Seg.cells)) (hx : rows.length ≤ 100000) :
    Calls Try.prog 19 #[u, v] w fun e w' => e = .returned (.bool true) ∧ ∃ n, w' = w.drewN n := by
  obtain ⟨au, cu, hu1⟩ := hu.len
  obtain ⟨av, cv, hv1⟩ := hv.len
  subst hu1 hv1
  have HU := Lib.hid hu
  have HV := Lib.hid hv
  clear hu hv
  go_enter Try.func19, Try.ntmps19
  go_wp2_with fail
  go_loopg [5] rows.length (fun n i wr => (∃ k : Nat, k + n = rows.length ∧ i = .int .i64 k) ∧ ∃ d, wr = w.drewN d)
  case atStart => exact ⟨⟨0, by simp, rfl⟩, 0, rfl⟩
  case round =>
    obtain ⟨⟨k, hk, rfl⟩, d, rfl⟩ := hrel
    by_cases hlt : k < rows.length
    · obtain ⟨s, hs⟩ : ∃ s, s = rows.getD k .zero := ⟨_, rfl⟩
      have hc : ∀ j, j < 3 → (rows.flatMap Seg.cells)[k * 3 + j]? = s.cells[j]? := fun j hj => by rw [hs]; exact Seg.at_ hlt hj
      obtain ⟨bu, ou, hiu, _, hcu⟩ := HU.out.index (P := Try.prog) Try.underlying33 sizeSeg (by decide) hlt
      obtain ⟨bv, ov, hiv, _, hcv⟩ := HV.out.index (P := Try.prog) Try.underlying33 sizeSeg (by decide) hlt
      have u0 := hcu 0 _ ((hc 0 (by omega)).trans rfl)
      have u1 := hcu 1 _ ((hc 1 (by omega)).trans rfl)
      have u2 := hcu 2 _ ((hc 2 (by omega)).trans rfl)
      have v0 := hcv 0 _ ((hc 0 (by omega)).trans rfl)
      have v1 := hcv 1 _ ((hc 1 (by omega)).trans rfl)
      have v2 := hcv 2 _ ((hc 2 (by omega)).trans rfl)
      simp only [Nat.add_zero] at u0 v0
      have hne : ∀ W, (binOp .neq 36 (.agg #[.int .u8 s.kind, .int .u64 s.seq, .int .u32 s.wear]) (.agg #[.int .u8 s.kind, .int .u64 s.seq, .int .u32 s.wear])).run Try.prog W = .ok (.bool false) W := fun W => by
        have := neqSeg s s W
        simpa [Seg.cells] using this
      have hgd := fun x y W => guardSeg x y #[.int .u8 s.kind, .int .u64 s.seq, .int .u32 s.wear] #[.int .u8 s.kind, .int .u64 s.seq, .int .u32 s.wear] W
      clear hc hcu hcv hs
      go_wp2_with fail
      go_quiet (fail)
      go_wp2_with fail
      go_roundg (gk - 1)
      case measure => omega
      case rel => exact ⟨⟨k + 1, by omega, by go_num⟩, _, rfl⟩
    · have : ¬ ((k : Int) < (rows.length : Int)) := by omega
      go_wp2_with fail
      go_ret
      exact ⟨rfl, _, rfl⟩
end Go.Proofs.Ytbffcogpicaloaa
