/- What this text proves: what a cache comes to, and contracts of the helpers of package pumicelaw16. Conditions: each theorem's own. -/
import Derived.Test.YtfpbkofjbnmkeaaHotOffer
import Derived.Lib.SlBytesConst
import Derived.Laws.BytesArg
namespace Go.Proofs.Ytfpbkofjbnmkeaa
open Go Go.RowKit Go.Shelf Go.Lib
open Go.Proofs
set_option linter.unusedVariables false
set_option linter.unusedSimpArgs false

structure Hot.Good (h : Hot) : Prop where
  room0 : 0 ≤ h.room
  room1 : h.room ≤ 4096
  len : (h.xs.length : Int) ≤ h.room
  once : h.xs.Nodup
  keys : ∀ a, a ∈ h.xs ↔ (h.m a).isSome = true
  wf : ∀ x ∈ h.xs, (Lit.int .u32 x).wf = true
  bytes : ∀ a bs, h.m a = some bs → bs.length ≤ 100000
theorem mem_frontL {xs : List Int} {a x : Int} : x ∈ frontL xs a ↔ x = a ∨ x ∈ xs := by
  unfold frontL
  rw [List.mem_cons]
  constructor
  · rintro (h | h)
    · exact .inl h
    · exact .inr (List.mem_of_mem_erase h)
  · rintro (h | h)
    · exact .inl h
    · by_cases e : x = a
      · exact .inl e
      · exact .inr ((List.mem_erase_of_ne e).2 h)
theorem nodup_frontL {xs : List Int} {a : Int} (h : xs.Nodup) : (frontL xs a).Nodup := by
  unfold frontL
  rw [List.nodup_cons]
  exact ⟨h.not_mem_erase, h.erase a⟩
theorem len_frontL_mem {xs : List Int} {a : Int} (h : a ∈ xs) : (frontL xs a).length = xs.length := by
  unfold frontL
  rw [List.length_cons, List.length_erase_of_mem h]
  have := List.length_pos_of_mem h
  omega
theorem len_frontL_not {xs : List Int} {a : Int} (h : a ∉ xs) : (frontL xs a).length = xs.length + 1 := by
  unfold frontL
  rw [List.length_cons, List.erase_of_not_mem h]
theorem front_good {h : Hot} (g : h.Good) {a : Int} (ha : a ∈ h.xs) : ({ h with xs := frontL h.xs a } : Hot).Good := by
  refine ⟨g.room0, g.room1, by show ((frontL h.xs a).length : Int) ≤ h.room; rw [len_frontL_mem ha]; exact g.len, nodup_frontL g.once, fun x => ?_, fun x hx => ?_, g.bytes⟩
  · show x ∈ frontL h.xs a ↔ _
    rw [mem_frontL]
    constructor
    · rintro (e | e)
      · rw [e]; exact (g.keys a).1 ha
      · exact (g.keys x).1 e
    · exact fun e => .inr ((g.keys x).2 e)
  · rcases mem_frontL.1 hx with e | e
    · rw [e]; exact g.wf a ha
    · exact g.wf x e
theorem drop_good {h : Hot} (g : h.Good) (a : Int) : ({ h with xs := h.xs.erase a, m := setM h.m a none } : Hot).Good := by
  refine ⟨g.room0, g.room1, ?_, g.once.erase a, fun x => ?_, fun x hx => g.wf x (List.mem_of_mem_erase hx), fun x bs hx => ?_⟩
  · have h1 := List.length_erase_le (a := a) (l := h.xs)
    have := g.len
    show ((h.xs.erase a).length : Int) ≤ h.room
    omega
  · show x ∈ h.xs.erase a ↔ (setM h.m a none x).isSome = true
    unfold setM
    by_cases e : a = x
    · subst e
      rw [if_pos rfl]
      simp [g.once.not_mem_erase]
    · rw [if_neg e, List.mem_erase_of_ne (fun f => e f.symm)]
      exact g.keys x
  · have hx' : setM h.m a none x = some bs := hx
    unfold setM at hx'
    split at hx'
    · cases hx'
    · exact g.bytes x bs hx'
/-- as Good, but one more may be there. -/
theorem evict_good {h : Hot} (r0 : 0 ≤ h.room) (r1 : h.room ≤ 4096) (hl : (h.xs.length : Int) ≤ h.room + 1) (hn : h.xs.Nodup) (hk : ∀ a, a ∈ h.xs ↔ (h.m a).isSome = true) (hw : ∀ x ∈ h.xs, (Lit.int .u32 x).wf = true) (hb : ∀ a bs, h.m a = some bs → bs.length ≤ 100000) : (evict h).Good := by
  unfold evict
  cases hd : h.xs[h.room.toNat]? with
  | none =>
    rw [List.getElem?_eq_none_iff] at hd
    exact ⟨r0, r1, by show (h.xs.length : Int) ≤ h.room; omega, hn, hk, hw, hb⟩
  | some d =>
    have hdm := List.mem_of_getElem? hd
    refine ⟨r0, r1, ?_, hn.erase d, fun x => ?_, fun x hx => hw x (List.mem_of_mem_erase hx), fun x bs hx => ?_⟩
    · show ((h.xs.erase d).length : Int) ≤ h.room
      rw [List.length_erase_of_mem hdm]
      have := List.length_pos_of_mem hdm
      omega
    · show x ∈ h.xs.erase d ↔ (setM h.m d none x).isSome = true
      unfold setM
      by_cases e : d = x
      · subst e
        rw [if_pos rfl]
        simp [hn.not_mem_erase]
      · rw [if_neg e, List.mem_erase_of_ne (fun f => e f.symm)]
        exact hk x
    · have hx' : setM h.m d none x = some bs := hx
      unfold setM at hx'
      split at hx'
      · cases hx'
      · exact hb x bs hx'
theorem keep_good {h : Hot} (g : h.Good) {a : Int} (hw : (Lit.int .u32 a).wf = true) {bs : List Int} (hb : bs.length ≤ 100000) : (evict (keepH h a bs)).Good := by
  refine evict_good (h := keepH h a bs) g.room0 g.room1 ?_ (nodup_frontL g.once) (fun x => ?_) (fun x hx => ?_) (fun x b hx => ?_)
  · show ((frontL h.xs a).length : Int) ≤ h.room + 1
    have := frontL_le h.xs a
    have := g.len
    omega
  · show x ∈ frontL h.xs a ↔ (setM h.m a (some bs) x).isSome = true
    rw [mem_frontL]
    unfold setM
    by_cases e : a = x
    · subst e
      rw [if_pos rfl]
      simp
    · rw [if_neg e, g.keys x]
      constructor
      · rintro (f | f)
        · exact absurd f.symm e
        · exact f
      · exact fun f => .inr f
  · rcases mem_frontL.1 (show x ∈ frontL h.xs a from hx) with e | e
    · rw [e]; exact hw
    · exact g.wf x e
  · have hx' : setM h.m a (some bs) x = some b := hx
    unfold setM at hx'
    split at hx'
    · cases hx'; exact hb
    · exact g.bytes x b hx'
/-- a block is offered. -/
def offerH (h : Hot) (a : Int) (bs : List Int) : Bool × Hot :=
  if (h.m a).isSome then (true, evict (keepH h a bs))
  else if a ∈ h.gl ∧ h.room ≠ 0 then (true, evict (keepH { h with gl := askList h.k h.gl a } a bs))
  else (false, { h with gl := askList h.k h.gl a })
def getH (h : Hot) (a : Int) : Hot := if (h.m a).isSome then { h with xs := frontL h.xs a } else h
def dropH (h : Hot) (a : Int) : Hot := if a ∈ h.xs then { h with xs := h.xs.erase a, m := setM h.m a none } else h
theorem gl_good {h : Hot} (g : h.Good) (l : List Int) : ({ h with gl := l } : Hot).Good := ⟨g.room0, g.room1, g.len, g.once, g.keys, g.wf, g.bytes⟩
theorem offer_good {h : Hot} (g : h.Good) {a : Int} (hw : (Lit.int .u32 a).wf = true) {bs : List Int} (hb : bs.length ≤ 100000) : (offerH h a bs).2.Good := by
  unfold offerH
  split
  · exact keep_good g hw hb
  · split
    · exact keep_good (gl_good g _) hw hb
    · exact gl_good g _
theorem get_good {h : Hot} (g : h.Good) (a : Int) : (getH h a).Good := by
  unfold getH
  split
  · rename_i e; exact front_good g ((g.keys a).2 e)
  · exact g
theorem drop_good' {h : Hot} (g : h.Good) (a : Int) : (dropH h a).Good := by
  unfold dropH
  split
  · exact drop_good g a
  · exact g
theorem Turned.refl {w : World} {b : Nat} {h : Hot} {F : Nat → Prop} (H : HotAt w b h F) : Turned w w b h F := ⟨⟨F, fun q hq => .inl hq, H⟩, Upd.refl _ _⟩
theorem offer_at {w : World} {b : Nat} {h : Hot} {F : Nat → Prop} (H : HotAt w b h F) (g : h.Good) (a : Int) (hw : (Lit.int .u32 a).wf = true) {sv : Value} {n : Nat} {bs : List Int} (hs : Reads w 1 sv n (By bs)) (hsf : n ≠ 0 → ∀ q, sv.ownBlock = some q → ¬ F q) (hn1 : n ≤ 100000) :
    Calls Try.prog 11 #[pt b, .int .u32 a, sv] w fun e w' => e = .returned (.bool (offerH h a bs).1) ∧ Turned w w' b (offerH h a bs).2 F := by
  have hl := g.len
  have hr := g.room1
  have hfl := frontL_le h.xs a
  unfold offerH
  by_cases h1 : (h.m a).isSome = true
  · rw [if_pos h1]
    exact offer_there H a hw hs hsf hn1 (by omega) g.room0 h1 (by omega) g.wf
  · rw [if_neg h1]
    have hm : h.m a = none := by simpa using h1
    by_cases h2 : a ∈ h.gl ∧ h.room ≠ 0
    · rw [if_pos h2]
      exact offer_on H a hw hs hsf hn1 (by omega) g.room0 hm h2.1 h2.2 (by omega) g.wf
    · rw [if_neg h2]
      exact offer_off H a hw sv hm (by
        by_cases h3 : a ∈ h.gl
        · exact .inr (by by_cases h4 : h.room = 0
                         · exact h4
                         · exact absurd ⟨h3, h4⟩ h2)
        · exact .inl h3)
theorem drop_h {w : World} {b : Nat} {h : Hot} {F : Nat → Prop} (H : HotAt w b h F) (g : h.Good) (a : Int) (hw : (Lit.int .u32 a).wf = true) :
    Calls Try.prog 13 #[pt b, .int .u32 a] w fun e w' => e = .returned (.bool (decide (a ∈ h.xs))) ∧ Turned w w' b (dropH h a) F := by
  have hl := g.len
  have hr := g.room1
  unfold dropH
  by_cases ha : a ∈ h.xs
  · rw [if_pos ha, decide_eq_true ha]
    exact drop_at H a hw ha (by omega)
  · rw [if_neg ha, decide_eq_false ha]
    refine (drop_off H a ha (by omega)).mono ?_
    rintro e w' ⟨rfl, rfl⟩
    exact ⟨rfl, Turned.refl H⟩
theorem conv_string {w : World} {v : Value} {n : Nat} {bs : List Int} (h : Reads w 1 v n (By bs)) : (convert 30 9 v).run Try.prog w = .ok (.string (strOfNums bs)) w := by
  have hl : bs.length = n := by have := h.1; simpa using this
  rcases h.2 with ⟨rfl, rfl⟩ | ⟨a, c, rfl, hc, hcell⟩
  · have e : bs = [] := List.eq_nil_of_length_eq_zero hl
    subst e
    exact run_convert_bytes_nil w 30 5 Try.underlying30 Try.underlying5 0 0 9 Try.underlying9
  · rcases Nat.eq_zero_or_pos n with h0 | h0
    · subst h0
      have e : bs = [] := List.eq_nil_of_length_eq_zero hl
      subst e
      rw [run_convert_bytes_string w 30 9 5 _ 0 c Try.underlying30 Try.underlying5 Try.underlying9]
      have := run_bytesToString (P := Try.prog) w a 0 c [] (by simpa using run_loadCells_list (P := Try.prog) w a [] (by simp))
      rw [this]
      rfl
    · have hp : a = ⟨a.block, a.off, none⟩ := by
        have h1 := hcell 0 (.int .u8 (bs.getD 0 0)) (by simp [By, List.getElem?_map, List.getElem?_eq_getElem (show 0 < bs.length by omega)])
        have h2 : a.add 0 = a := by unfold Addr.add; cases a with | mk b o s => cases s <;> simp
        rw [h2] at h1
        exact plain_of_cell h1
      rw [hp]
      refine run_convert_bytes_arg w 30 5 Try.underlying30 Try.underlying5 a.block a.off n c bs hl (fun i hi => ?_) 9 Try.underlying9
      have h1 := hcell i (.int .u8 (bs.getD i 0)) (by simp [By, List.getElem?_map, List.getElem?_eq_getElem (show i < bs.length by omega)])
      rw [hp, add_lit] at h1
      exact h1
theorem evict_room (h : Hot) : (evict h).room = h.room ∧ (evict h).k = h.k := by
  unfold evict
  split <;> exact ⟨rfl, rfl⟩
theorem offer_room (h : Hot) (a : Int) (bs : List Int) : (offerH h a bs).2.room = h.room ∧ (offerH h a bs).2.k = h.k := by
  unfold offerH
  split
  · exact evict_room (keepH h a bs)
  · split
    · exact evict_room (keepH { h with gl := askList h.k h.gl a } a bs)
    · exact ⟨rfl, rfl⟩
theorem get_room (h : Hot) (a : Int) : (getH h a).room = h.room ∧ (getH h a).k = h.k := by
  unfold getH
  split <;> exact ⟨rfl, rfl⟩
theorem drop_room (h : Hot) (a : Int) : (dropH h a).room = h.room ∧ (dropH h a).k = h.k := by
  unfold dropH
  split <;> exact ⟨rfl, rfl⟩
end Go.Proofs.Ytfpbkofjbnmkeaa
