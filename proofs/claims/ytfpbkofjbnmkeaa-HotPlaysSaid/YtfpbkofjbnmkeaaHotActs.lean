/- What this text proves: acts of package pumicelaw16 that came in, and those of them that are played. No conditions. -/
import Derived.Test.YtfpbkofjbnmkeaaHotShown
import Derived.Test.YtfpbkofjbnmkeaaInRows
namespace Go.Proofs.Ytfpbkofjbnmkeaa
open Go Go.ChangeShapes Go.WideShapes Go.ChangeAt Go.RowKit Go.Lib
open Go.Proofs
set_option linter.unusedVariables false
set_option linter.unusedSimpArgs false

structure HAct where
  kind : Int
  addr : Int
  v : Value
  bs : List Int
def HAct.cells (a : HAct) : List Value := [.int .u8 a.kind, .int .u32 a.addr, a.v]
structure HAct.Good (W : World) (a : HAct) : Prop where
  kind : (Lit.int .u8 a.kind).wf = true
  addr : (Lit.int .u32 a.addr).wf = true
  reads : Reads W 1 a.v a.bs.length (By a.bs)
  lt : a.bs.length ≠ 0 → ∀ q, a.v.ownBlock = some q → q < W.heap.size
theorem HAct.Good.upd {W W' : World} {a : HAct} (g : a.Good W) (hu : Upd (fun _ => False) W W') : a.Good W' := ⟨g.kind, g.addr, g.reads.upd hu (fun _ _ f => f), fun h0 q hq => Nat.lt_of_lt_of_le (g.lt h0 q hq) hu.size⟩
theorem cellsU8 : Try.prog.cellsOf 5 = 1 := by kernel_rfl
theorem cellsU32' : Try.prog.cellsOf 23 = 1 := by kernel_rfl
theorem cellsBytes : Try.prog.cellsOf 30 = 1 := by kernel_rfl
theorem flatU8 : flatK Try.prog 5 5 = some [.int .u8] := by rfl
theorem cellsHAct : Try.prog.cellsOf 32 = 3 := by kernel_rfl
theorem sizeHAct (w : World) : (sizeOf 32).run Try.prog w = .ok 3 w := by kernel_rfl
theorem bytes_of {H : Type} {enc : TypeId × Value → H} {w : World} {spare : Nat → Bool} {held : Bool} {base0 : Nat} {fuel : Nat} {cs : List Value} {x : DataW H × List MemPlace} (h : DataW.trod enc Try.prog w base0 spare held fuel 30 cs = some x) :
    ∃ v bs, cs = [v] ∧ Reads w 1 v bs.length (By bs) ∧ (bs.length ≠ 0 → ∀ q, v.ownBlock = some q → q < w.heap.size) := by
  obtain ⟨v, n, xs, rfl, h1, h2, h3, h4⟩ := open_slice_any Try.underlying30 cellsU8 h
  obtain ⟨l, g1, g2, g3⟩ := list_of_pieces (fun x => [Value.int .u8 x]) (fun x => True) 1 (fun _ => rfl) n xs h1.1 (fun i hi => by
    obtain ⟨q, y, hy⟩ := h3 i hi
    have hf := flat_fits _ _ _ _ _ _ flatU8 hy
    generalize (xs.drop (i * 1)).take 1 = cs at hf ⊢
    match cs, hf with
    | [_], ⟨⟨a, rfl, hw⟩, _⟩ => exact ⟨a, rfl, trivial⟩)
  have e := flatMap_one (Value.int .u8) l
  subst g1 g2
  rw [e] at h1
  exact ⟨v, l, rfl, h1, fun h0 => h4 (by omega)⟩
theorem act_of {H : Type} {enc : TypeId × Value → H} {w : World} {spare : Nat → Bool} {held : Bool} {base0 : Nat} {fuel : Nat} {cs : List Value} {x : DataW H × List MemPlace} (h : DataW.trod enc Try.prog w base0 spare held fuel 32 cs = some x) :
    ∃ a : HAct, cs = a.cells ∧ a.Good w := by
  obtain ⟨xs, m, _, _, hl, hxl, hf⟩ := DataW.trod_struct Try.underlying32 h
  rw [cellsHAct] at hl
  obtain ⟨c0, c1, c2, rfl⟩ : ∃ a b c, cs = [a, b, c] := by
    rcases cs with _ | ⟨x, _ | ⟨y, _ | ⟨z, _ | ⟨u, r⟩⟩⟩⟩ <;> simp at hl
    exact ⟨x, y, z, rfl⟩
  have h0 := hf 0 _ rfl
  have h1 := hf 1 _ rfl
  have h2 := hf 2 _ rfl
  have hx3 : xs.length = 3 := hxl
  rw [List.getElem?_eq_getElem (by omega)] at h0 h1 h2
  obtain ⟨k, e0, _, w0⟩ := DataW.trod_int (cs := [c0]) Try.underlying5 (by simpa [cellsU8] using h0)
  obtain ⟨ad, e1, _, w1⟩ := DataW.trod_int (cs := [c1]) Try.underlying23 (by simpa [cellsU32'] using h1)
  obtain ⟨v, bs, e2, hr, hq⟩ := bytes_of (cs := [c2]) (by simpa [cellsBytes] using h2)
  simp only [List.cons.injEq, and_true] at e0 e1 e2
  subst e0 e1 e2
  exact ⟨⟨k, ad, c2, bs⟩, rfl, w0, w1, hr, hq⟩
theorem open_hacts {H : Type} {enc : TypeId × Value → H} {w : World} {spare : Nat → Bool} {held : Bool} {base0 : Nat} {v : Value} {d : DataW H} {p : List MemPlace} (hok : ∃ a n c, v = .slice a n c) (h : DataW.Trod enc Try.prog w base0 spare held 22 v d p) :
    ∃ acts : List HAct, Reads w 3 v acts.length (acts.flatMap HAct.cells) ∧ acts.length ≤ maxLen ∧ ∀ a ∈ acts, a.Good w := by
  obtain ⟨a0, n0, c0, rfl⟩ := hok
  obtain ⟨fuel, hf⟩ := h
  obtain ⟨v, n, xs, hv, h1, h2, h3, h4⟩ := open_slice_any Try.underlying22 cellsHAct hf
  have ev : v = .slice a0 n0 c0 := by simpa [Value.cells, eq_comm] using hv
  subst ev
  obtain ⟨l, g1, g2, g3⟩ := list_of_pieces HAct.cells (HAct.Good w) 3 (fun _ => rfl) n xs h1.1 (fun i hi => by
    obtain ⟨q, y, hy⟩ := h3 i hi
    exact act_of hy)
  subst g1 g2
  exact ⟨l, h1, h2, g3⟩
theorem hacts_cells {acts : List HAct} {k : Nat} (hk : k < acts.length) {a : HAct} (h : acts[k] = a) : (acts.flatMap HAct.cells)[k * 3 + 0]? = some (.int .u8 a.kind) ∧ (acts.flatMap HAct.cells)[k * 3 + 1]? = some (.int .u32 a.addr) ∧ (acts.flatMap HAct.cells)[k * 3 + 2]? = some a.v := by
  refine ⟨?_, ?_, ?_⟩
  · rw [flatMap_get HAct.cells 3 (fun _ => rfl) acts k 0 hk (by omega), h]; rfl
  · rw [flatMap_get HAct.cells 3 (fun _ => rfl) acts k 1 hk (by omega), h]; rfl
  · rw [flatMap_get HAct.cells 3 (fun _ => rfl) acts k 2 hk (by omega), h]; rfl
set_option maxHeartbeats 2000000 in
theorem few_calls (w : World) (v : Value) (acts : List HAct) (h : Reads w 3 v acts.length (acts.flatMap HAct.cells)) (hl : acts.length ≤ maxLen) (hg : ∀ a ∈ acts, a.Good w) :
    Calls Try.prog 10 #[v] w fun e w' => ∃ v' k, e = .returned v' ∧ (∀ W, Reads W 3 v acts.length (acts.flatMap HAct.cells) → Reads W 3 v' k ((acts.take k).flatMap HAct.cells)) ∧ k ≤ acts.length ∧ k ≤ 200 ∧ (∀ a ∈ acts.take k, a.bs.length ≤ 20000) ∧ w = w' := by
  obtain ⟨sa, sc, rfl⟩ := h.len
  have HH := Lib.hid h; have HG := Lib.hid hg
  unfold maxLen at hl
  clear h hg
  go_enter Try.func10, Try.ntmps10
  go_wp2_with fail
  go_loopg [3, 7] acts.length (fun g lf i wr => ∃ (k : Nat) (left : Int), k + g = acts.length ∧ i = .int .i64 k ∧ lf = .int .i64 left ∧ 0 ≤ left ∧ left ≤ 20000 ∧ k ≤ 200 ∧ wr = w ∧ Hid (∀ a ∈ acts.take k, a.bs.length ≤ 20000))
  case atStart => exact ⟨0, 20000, by simp, rfl, rfl, by decide, by decide, by decide, rfl, Lib.hid (fun a ha => by simp at ha)⟩
  case round =>
    obtain ⟨k, left, hk, rfl, rfl, hl0, hl1, hk2, rfl, HS⟩ := hrel
    by_cases hlt : k < acts.length
    · by_cases h200 : (200 : Int) ≤ k
      · go_wp2_with (first | ((with_reducible change wpList _ _ _ (⟨_, Op.slice _ _ _ _ _, _, _, _, _⟩ :: _) _ _); refine wpl_slice rfl _ _ _ _ rfl 32 3 Try.underlying22 sizeHAct _ _ _ HH.out rfl 0 k (.inl ⟨rfl, rfl⟩) (.inr rfl) (Nat.zero_le _) (Nat.le_of_lt hlt) ?_; intro v1 hs1; have HV := Lib.hid hs1; clear hs1))
        go_ret
        refine ⟨v1, k, rfl, fun W hW => ?_, by omega, hk2, HS.out, rfl⟩
        have := HV.out.1 W _ hW
        simp only [Nat.zero_mul, List.drop_zero, Nat.sub_zero] at this
        rwa [flatMap_take HAct.cells 3 (fun _ => rfl)] at this
      · obtain ⟨a, hak⟩ : ∃ a, acts[k] = a := ⟨_, rfl⟩
        have hga := HG.out a (by rw [← hak]; exact List.getElem_mem _)
        have hc := hacts_cells hlt hak
        obtain ⟨ba, bc, hbv⟩ := hga.reads.len
        rw [hbv] at hc
        have HK := Lib.hid hc; have HX := Lib.hid hlt; have HAK := Lib.hid hak
        have hm : a.bs.length ≤ maxLen ∨ True := .inr trivial
        clear hc hak hga hbv hm
        by_cases hbig : left < (a.bs.length : Int)
        · go_wp2_with (first
            | ((with_reducible change wpList _ _ _ (⟨_, Op.indexAddr _ _ _, _, _, _, _⟩ :: _) _ _); refine wpl_indexg rfl _ _ _ rfl 32 3 Try.underlying22 sizeHAct (by decide) _ _ _ HH.out rfl k rfl HX.out ?_; intro bk off _ hcell; have c2 := hcell 2 _ HK.out.2.2; clear hcell)
            | ((with_reducible change wpList _ _ _ (⟨_, Op.slice _ _ _ _ _, _, _, _, _⟩ :: _) _ _); refine wpl_slice rfl _ _ _ _ rfl 32 3 Try.underlying22 sizeHAct _ _ _ HH.out rfl 0 k (.inl ⟨rfl, rfl⟩) (.inr rfl) (Nat.zero_le _) (Nat.le_of_lt HX.out) ?_; intro v1 hs1; have HV := Lib.hid hs1; clear hs1))
          go_ret
          refine ⟨v1, rfl, k, fun W hW => ?_, by omega, hk2, HS.out, rfl⟩
          have := HV.out.1 W _ hW
          simp only [Nat.zero_mul, List.drop_zero, Nat.sub_zero] at this
          rwa [flatMap_take HAct.cells 3 (fun _ => rfl)] at this
        · go_wp2_with (first
            | ((with_reducible change wpList _ _ _ (⟨_, Op.indexAddr _ _ _, _, _, _, _⟩ :: _) _ _); refine wpl_indexg rfl _ _ _ rfl 32 3 Try.underlying22 sizeHAct (by decide) _ _ _ HH.out rfl k rfl HX.out ?_; intro bk off _ hcell; have c2 := hcell 2 _ HK.out.2.2; clear hcell))
          go_roundg (acts.length - (k + 1))
          case measure => have := HX.out; omega
          case rel =>
            refine ⟨k + 1, left - a.bs.length, by have := HX.out; omega, by go_num, by go_num, by omega, by omega, by omega, rfl, Lib.hid (fun x hx => ?_)⟩
            have hl := HX.out
            rw [List.take_add_one, List.getElem?_eq_getElem hl] at hx
            rcases List.mem_append.1 hx with hx | hx
            · exact HS.out x hx
            · have e : x = a := by rw [← HAK.out]; simpa using hx
              rw [e]
              omega
    · have : ¬ ((k : Int) < (acts.length : Int)) := by omega
      go_wp2_with fail
      go_ret
      have hkl : k = acts.length := by omega
      subst hkl
      exact ⟨_, rfl, acts.length, fun W hW => by rw [List.take_of_length_le (Nat.le_refl _)]; exact hW, Nat.le_refl _, hk2, HS.out, rfl⟩
end Go.Proofs.Ytfpbkofjbnmkeaa
