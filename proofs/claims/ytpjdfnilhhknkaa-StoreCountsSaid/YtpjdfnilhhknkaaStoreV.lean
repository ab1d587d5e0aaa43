/- What this text proves: plain laws on chunks, and where a store lies. Conditions: each theorem's own. -/
import Derived.Test.YtpjdfnilhhknkaaKey
import Derived.Test.YtpjdfnilhhknkaaAgg
namespace Go.Proofs.Ytpjdfnilhhknkaa
open Go Go.RowKit
open Go.Proofs

structure PlaceV where
  seg : Int
  page : Int
  pages : Int
deriving DecidableEq
def PlaceV.cells (p : PlaceV) : List Value := [.int .i64 p.seg, .int .i64 p.page, .int .i64 p.pages]
structure ChunkV where
  key : KeyV
  place : PlaceV
  refs : Int
deriving DecidableEq
def ChunkV.cells (c : ChunkV) : List Value := c.key.cells ++ (c.place.cells ++ [.int .i64 c.refs])
abbrev ChunkV.val (c : ChunkV) : Value := .agg c.cells.toArray
def ChunkV.pair (c : ChunkV) : Value × Value := (c.key.val, c.val)
def zeroKey : KeyV := ⟨List.replicate 32 0, 0⟩
def zeroChunk : ChunkV := ⟨zeroKey, ⟨0, 0, 0⟩, 0⟩
theorem zeroKey_good : zeroKey.Good := ⟨rfl, fun b hb => by obtain ⟨_, rfl⟩ := List.mem_replicate.1 hb; decide, by decide⟩
theorem ChunkV.clen {c : ChunkV} (h : c.key.Good) : c.cells.length = 37 := by simp [ChunkV.cells, KeyV.clen h, PlaceV.cells]

/-! ### a store as a list of chunks -/
def getC (l : List ChunkV) (k : KeyV) : Option ChunkV := l.find? (fun c => c.key = k)
def putC (l : List ChunkV) (c : ChunkV) : List ChunkV := if (getC l c.key).isSome then l.map (fun d => if d.key = c.key then c else d) else l ++ [c]
def delC (l : List ChunkV) (k : KeyV) : List ChunkV := l.filter (fun c => c.key ≠ k)
theorem getC_key {l : List ChunkV} {k : KeyV} {c : ChunkV} (h : getC l k = some c) : c.key = k ∧ c ∈ l := by
  unfold getC at h
  exact ⟨by simpa using List.find?_some h, List.mem_of_find?_eq_some h⟩
theorem KeyV.val_inj {a b : KeyV} (ha : a.Good) (hb : b.Good) : a.val = b.val ↔ a = b := by
  constructor
  · intro h
    have h1 : a.cells.toArray = b.cells.toArray := by injection h
    exact KeyV.inj ha hb (by simpa using h1)
  · rintro rfl; rfl
theorem look_store {l : List ChunkV} (hl : ∀ c ∈ l, c.key.Good) {k : KeyV} (hk : k.Good) : alook (l.map ChunkV.pair) k.val = (getC l k).map ChunkV.val := by
  classical
  unfold alook getC
  induction l with
  | nil => rfl
  | cons c l ih =>
    have hc := hl c (by simp)
    have ih := ih (fun d hd => hl d (by simp [hd]))
    simp only [List.map_cons, List.find?_cons]
    by_cases e : c.key = k
    · have : (ChunkV.pair c).1 = k.val := by rw [← e]; rfl
      simp only [this, decide_true, e]
      rfl
    · have : ¬ (ChunkV.pair c).1 = k.val := fun h => e ((KeyV.val_inj hc hk).1 h)
      simp only [this, decide_false, e]
      exact ih
theorem put_store {l : List ChunkV} (hl : ∀ c ∈ l, c.key.Good) {c : ChunkV} (hc : c.key.Good) : aput (l.map ChunkV.pair) c.key.val c.val = (putC l c).map ChunkV.pair := by
  classical
  unfold aput putC
  rw [look_store hl hc]
  by_cases h : (getC l c.key).isSome
  · rw [if_pos (by simpa using h), if_pos h, List.map_map, List.map_map]
    refine List.map_congr_left (fun d hd => ?_)
    have hd' := hl d hd
    simp only [Function.comp_apply]
    by_cases e : d.key = c.key
    · have : (ChunkV.pair d).1 = c.key.val := by rw [← e]; rfl
      rw [if_pos this, if_pos e]
      rfl
    · have : ¬ (ChunkV.pair d).1 = c.key.val := fun h => e ((KeyV.val_inj hd' hc).1 h)
      rw [if_neg this, if_neg e]
  · rw [if_neg (by simpa using h), if_neg h, List.map_append]
    rfl
theorem del_store {l : List ChunkV} (hl : ∀ c ∈ l, c.key.Good) {k : KeyV} (hk : k.Good) : adel (l.map ChunkV.pair) k.val = (delC l k).map ChunkV.pair := by
  classical
  unfold adel delC
  rw [List.filter_map]
  congr 1
  refine List.filter_congr (fun d hd => ?_)
  have hd' := hl d hd
  have : ((ChunkV.pair d).1 = k.val) ↔ d.key = k := KeyV.val_inj hd' hk
  simp only [Function.comp_apply, ne_eq, this]

/-- Block b is the store of the chunks l, its map in block m; it lies in the blocks of F. -/
structure StoreV (w : World) (b m : Nat) (l : List ChunkV) (F : Nat → Prop) : Prop where
  here : w.heap[b]? = some (.cells #[.map (some m)] 71 (0, 0))
  map : MapAt w Try.prog 32 m (l.map ChunkV.pair)
  good : ∀ c ∈ l, c.key.Good
  self : F b ∧ F m ∧ b ≠ m
  lt : ∀ k, F k → k < w.heap.size
theorem StoreV.upd {S : Nat → Prop} {w w' : World} {b m : Nat} {l : List ChunkV} {F : Nat → Prop} (h : StoreV w b m l F) (hu : Upd S w w') (hs : ∀ k, F k → ¬ S k) : StoreV w' b m l F :=
  ⟨hu.at h.here (hs b h.self.1), h.map.upd hu (hs m h.self.2.1), h.good, h.self, fun k hk => Nat.lt_of_lt_of_le (h.lt k hk) hu.size⟩
theorem StoreV.put {w w' : World} {b m : Nat} {l : List ChunkV} {F : Nat → Prop} (h : StoreV w b m l F) {c : ChunkV} (hc : c.key.Good) (hm : MapAt w' Try.prog 32 m (aput (l.map ChunkV.pair) c.key.val c.val)) (hu : Upd (· = m) w w') : StoreV w' b m (putC l c) F := by
  rw [put_store h.good hc] at hm
  refine ⟨hu.at h.here h.self.2.2, hm, fun d hd => ?_, h.self, fun k hk => Nat.lt_of_lt_of_le (h.lt k hk) hu.size⟩
  unfold putC at hd
  split at hd
  · obtain ⟨e, he, rfl⟩ := List.mem_map.1 hd
    split
    · exact hc
    · exact h.good e he
  · rcases List.mem_append.1 hd with hd | hd
    · exact h.good d hd
    · rw [List.mem_singleton.1 hd]; exact hc
theorem StoreV.del {w w' : World} {b m : Nat} {l : List ChunkV} {F : Nat → Prop} (h : StoreV w b m l F) {k : KeyV} (hk : k.Good) (hm : MapAt w' Try.prog 32 m (adel (l.map ChunkV.pair) k.val)) (hu : Upd (· = m) w w') : StoreV w' b m (delC l k) F := by
  rw [del_store h.good hk] at hm
  exact ⟨hu.at h.here h.self.2.2, hm, fun d hd => h.good d (List.filter_sublist.subset hd), h.self, fun k hk => Nat.lt_of_lt_of_le (h.lt k hk) hu.size⟩
theorem built_chunk (c : ChunkV) (h : c.key.Good) : Try.prog.built 41 [(0, c.key.val), (1, .agg c.place.cells.toArray), (2, .int .i64 c.refs)] = some c.cells.toArray := by
  rw [built_struct (z := zeroChunk.val) (fields := Try.prog.fieldsOf 41) (places := [(0, 33), (33, 3), (36, 1)]) (by kernel_rfl) (by kernel_rfl) (by kernel_rfl)]
  have hz : zeroChunk.val.cells = ([] ++ zeroKey.cells ++ [Value.int .i64 0, Value.int .i64 0, Value.int .i64 0, Value.int .i64 0]).toArray := rfl
  rw [hz, fill_step (v := c.key.cells) (off := 0) rfl (by rw [KeyV.clen h]; rfl) rfl (by rw [KeyV.clen h, KeyV.clen zeroKey_good])]
  rw [show ([] ++ c.key.cells ++ [Value.int .i64 0, Value.int .i64 0, Value.int .i64 0, Value.int .i64 0]) = c.key.cells ++ [Value.int .i64 0, Value.int .i64 0, Value.int .i64 0] ++ [Value.int .i64 0] from by simp]
  rw [fill_step (v := c.place.cells) (mid := [Value.int .i64 0, Value.int .i64 0, Value.int .i64 0]) (off := 33) rfl rfl (KeyV.clen h) rfl]
  rw [show (c.key.cells ++ c.place.cells ++ [Value.int .i64 0]) = (c.key.cells ++ c.place.cells) ++ [Value.int .i64 0] ++ [] from by simp]
  rw [fill_step (v := [Value.int .i64 c.refs]) (mid := [Value.int .i64 0]) (off := 36) rfl rfl (by simp [KeyV.clen h, PlaceV.cells]) rfl]
  simp [Instr.fill, ChunkV.cells]
/-- what a chunk's parts are when its number turns, and when its place does. -/
def refL (l : List ChunkV) (k : KeyV) (d : Int) : List ChunkV := match getC l k with | some c => putC l { c with refs := c.refs + d } | none => l
theorem ChunkV.at36 {c : ChunkV} (h : c.key.Good) : c.cells.toArray[36]? = some (.int .i64 c.refs) := by
  have hl : (c.key.cells ++ c.place.cells).length = 36 := by simp [KeyV.clen h, PlaceV.cells]
  have e : c.cells = (c.key.cells ++ c.place.cells) ++ [.int .i64 c.refs] := by simp [ChunkV.cells]
  rw [e, List.getElem?_toArray, List.getElem?_append_right (by omega), hl]
  rfl
theorem ChunkV.set36 {c : ChunkV} (h : c.key.Good) (n : Int) : c.cells.toArray.setIfInBounds 36 (.int .i64 n) = ({ c with refs := n } : ChunkV).cells.toArray := by
  have hl : (c.key.cells ++ c.place.cells).length = 36 := by simp [KeyV.clen h, PlaceV.cells]
  have e : c.cells = (c.key.cells ++ c.place.cells) ++ [.int .i64 c.refs] := by simp [ChunkV.cells]
  have e' : ({ c with refs := n } : ChunkV).cells = (c.key.cells ++ c.place.cells) ++ [.int .i64 n] := by simp [ChunkV.cells]
  rw [e, e', List.setIfInBounds_toArray, List.set_append_right _ _ (by omega), hl]
  rfl
theorem PlaceV.one {c : PlaceV} : ∀ x ∈ c.cells, x.oneCell' = true := by
  intro x hx
  simp only [PlaceV.cells, List.mem_cons, List.not_mem_nil, or_false] at hx
  rcases hx with rfl | rfl | rfl <;> rfl
theorem ChunkV.setPlace {c : ChunkV} (h : c.key.Good) {w : World} {g : Nat} {e : TypeId} (hw : w.heap[g]? = some (.cells c.cells.toArray e (0, 0))) (p : PlaceV) : (w.setCells g 33 p.cells).heap[g]? = some (.cells ({ c with place := p } : ChunkV).cells.toArray e (0, 0)) := by
  have h1 := at_setCells (post := [Value.int .i64 c.refs]) p.cells c.place.cells c.key.cells (w := w) (g := g) (e := e) (f := (0, 0)) (by rw [hw]; simp [ChunkV.cells]) rfl
  rw [KeyV.clen h] at h1
  rw [h1]
  simp [ChunkV.cells]
theorem ChunkV.one {c : ChunkV} : ∀ x ∈ c.cells, x.oneCell' = true := by
  intro x hx
  simp only [ChunkV.cells, KeyV.cells, PlaceV.cells, List.mem_append, List.mem_map, List.mem_cons, List.not_mem_nil, or_false] at hx
  rcases hx with (⟨y, _, rfl⟩ | rfl) | (rfl | rfl | rfl) | rfl <;> rfl
end Go.Proofs.Ytpjdfnilhhknkaa
