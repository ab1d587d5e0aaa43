/- What this text proves: chunk keys (32 bytes and a number) as cells, and as keys of maps. No conditions. -/
import Derived.Test.YtpjdfnilhhknkaaOwn
import Derived.Test.YtpjdfnilhhknkaaChecked
namespace Go.Proofs.Ytpjdfnilhhknkaa
open Go Go.RowKit
open Go.Proofs

structure KeyV where
  sum : List Int
  n : Int
deriving DecidableEq
def KeyV.cells (k : KeyV) : List Value := k.sum.map (.int .u8) ++ [.int .u32 k.n]
structure KeyV.Good (k : KeyV) : Prop where
  len : k.sum.length = 32
  byte : ∀ b ∈ k.sum, (Lit.int .u8 b).wf = true
  num : (Lit.int .u32 k.n).wf = true
theorem KeyV.clen {k : KeyV} (h : k.Good) : k.cells.length = 33 := by simp [KeyV.cells, h.len]
theorem KeyV.inj {a b : KeyV} (ha : a.Good) (hb : b.Good) (h : a.cells = b.cells) : a = b := by
  unfold KeyV.cells at h
  have h1 := List.append_inj h (by simp [ha.len, hb.len])
  obtain ⟨s, n⟩ := a
  obtain ⟨s', n'⟩ := b
  have e1 : s = s' := by
    have := h1.1
    exact (List.map_inj_right (fun x y e => by injection e)).1 this
  have e2 : n = n' := by
    have := h1.2
    simpa using this
  rw [e1, e2]
abbrev KeyV.val (k : KeyV) : Value := .agg k.cells.toArray

theorem mapM_some {α β : Type} (f : α → Option β) (g : α → β) : ∀ l : List α, (∀ x ∈ l, f x = some (g x)) → l.mapM f = some (l.map g)
  | [], _ => rfl
  | a :: l, h => by
    rw [List.mapM_cons, h a (by simp), mapM_some f g l (fun x hx => h x (by simp [hx]))]
    rfl
section
variable {P : Program} {d : Nat} {t : TypeId} {cs : List Value}
theorem keyLits_int {q : IntKind} {n : Int} (hu : P.underlying t = some (.int q)) (hw : (Lit.int q n).wf = true) : P.keyLits (d + 1) t [.int q n] = some [.int q n] := by
  rw [Program.keyLits.eq_def]
  simp only [hu, hw]
  simp
theorem keyLits_array {n : Nat} {e : TypeId} (hu : P.underlying t = some (.array n e)) (hl : cs.length = P.cellsOf t) :
    P.keyLits (d + 1) t cs = ((List.range n).mapM fun i => P.keyLits d e ((cs.drop (i * P.cellsOf e)).take (P.cellsOf e))).map List.flatten := by
  rw [Program.keyLits.eq_def]
  simp only [hu]
  rw [if_pos hl]
theorem keyLits_struct {fs : Array Field} (hu : P.underlying t = some (.struct fs)) (hl : cs.length = P.cellsOf t) (hf : fs.all (·.name != "_") = true) :
    P.keyLits (d + 1) t cs = (fs.toList.mapM fun f => P.keyLits d f.type ((cs.drop f.offset).take (P.cellsOf f.type))).map List.flatten := by
  rw [Program.keyLits.eq_def]
  simp only [hu]
  rw [if_pos ⟨hl, hf⟩]
end
theorem bytes_flatten (sum : List Int) (h : sum.length = 32) : ((List.range 32).map fun i => [Lit.int IntKind.u8 (sum.getD i 0)]).flatten = sum.map (Lit.int .u8) := by
  have : ((List.range 32).map fun i => [Lit.int IntKind.u8 (sum.getD i 0)]).flatten = (List.range 32).map fun i => Lit.int IntKind.u8 (sum.getD i 0) := by
    generalize List.range 32 = l
    induction l with
    | nil => rfl
    | cons a l ih => simp only [List.map_cons, List.flatten_cons, ih]; rfl
  rw [this]
  apply List.ext_getElem
  · simp [h]
  · intro i h1 h2
    have hi' : i < sum.length := by simpa using h2
    simp [hi']
theorem underKey : Try.prog.underlying 32 = some (.struct (Try.prog.fieldsOf 32)) := by kernel_rfl
theorem key_lit {k : KeyV} (h : k.Good) : ∃ l, keyOf Try.prog 32 k.val = some l := by
  have hs : ∃ d, Try.prog.types.size = d + 2 := ⟨Try.prog.types.size - 2, by kernel_rfl⟩
  obtain ⟨d, hd⟩ := hs
  have c0 : Try.prog.cellsOf 32 = 33 := by kernel_rfl
  have c1 : Try.prog.cellsOf 29 = 32 := by kernel_rfl
  have c2 : Try.prog.cellsOf 5 = 1 := by kernel_rfl
  have c3 : Try.prog.cellsOf 30 = 1 := by kernel_rfl
  have hk : Try.prog.keyType 32 = true := by kernel_rfl
  have hf : (KeyV.val k).formed Try.prog 32 = true := by
    simp only [Value.formed, underKey, c0]
    simp [KeyV.clen h]
  have hsum : Try.prog.keyLits (d + 1 + 1) 29 (k.sum.map (Value.int .u8)) = some (k.sum.map (Lit.int .u8)) := by
    rw [keyLits_array (n := 32) (e := 5) (by kernel_rfl) (by rw [c1]; simp [h.len]), c2, mapM_some _ (fun i => [Lit.int .u8 (k.sum.getD i 0)]) _ (fun i hi => by
      have hi' : i < k.sum.length := by rw [h.len]; simpa using hi
      have e : ((k.sum.map (Value.int .u8)).drop (i * 1)).take 1 = [.int .u8 k.sum[i]] := by
        rw [Nat.mul_one, List.drop_eq_getElem_cons (by simpa using hi')]
        simp
      rw [e, keyLits_int Try.underlying5 (h.byte k.sum[i] (List.getElem_mem _))]
      simp [hi']), Option.map_some, bytes_flatten _ h.len]
  have hn : Try.prog.keyLits (d + 1 + 1) 30 [Value.int .u32 k.n] = some [Lit.int .u32 k.n] := keyLits_int Try.underlying30 h.num
  have e1 : (k.cells.drop 0).take 32 = k.sum.map (Value.int .u8) := by
    rw [List.drop_zero]
    unfold KeyV.cells
    rw [List.take_append_of_le_length (by simp [h.len]), List.take_of_length_le (by simp [h.len])]
  have e2 : (k.cells.drop 32).take 1 = [Value.int .u32 k.n] := by
    unfold KeyV.cells
    rw [List.drop_append_of_le_length (by simp [h.len]), List.drop_of_length_le (by simp [h.len])]
    rfl
  have hl : Try.prog.keyLits (d + 1 + 1 + 1) 32 k.cells = some (k.sum.map (Lit.int .u8) ++ [Lit.int .u32 k.n]) := by
    rw [keyLits_struct Try.underlying32 (by rw [c0]; exact KeyV.clen h) (by kernel_rfl)]
    simp only [List.mapM_cons, List.mapM_nil, c1, c3, e1, e2, hsum, hn]
    simp
  refine ⟨.string (keyBytes (k.sum.map (Lit.int .u8) ++ [Lit.int .u32 k.n])), ?_⟩
  unfold keyOf
  rw [underKey]
  simp only [hk, hf, Bool.and_self, if_true, hd, Value.cells, List.toList_toArray]
  rw [hl, Option.map_some]
/-- the keys of maps. -/
theorem keyedKey : Maps.Keyed Try.prog 32 := Maps.Keyed.of_law (deep_law_laid laidOutTry (m := 5) (by omega) (of_decide_eq_true (by kernel_rfl)) (by kernel_rfl) (by kernel_rfl))
end Go.Proofs.Ytpjdfnilhhknkaa
