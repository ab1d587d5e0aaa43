/- What this text proves: the document's cache and what the cache comes to agree. No program is in sight here. -/
import Derived.Test.YtfpbkofjbnmkeaaHotRefOps
namespace Go.Proofs.Ytfpbkofjbnmkeaa
open Go Go.RowKit Go.Lib
open Go.Proofs
set_option linter.unusedVariables false
set_option linter.unusedSimpArgs false

def keysI (its : List It) : List Int := its.map (·.1)
def mapI (its : List It) : Int → Option (List Int) := fun a => (findI its a).map (·.2)
structure Agree (h : Hot) (d : Doc) : Prop where
  room : d.room = h.room
  k : d.k = h.k
  gl : d.gl = h.gl
  xs : keysI d.its = h.xs
  m : mapI d.its = h.m
theorem findI_cons (p : It) (its : List It) (b : Int) : findI (p :: its) b = if p.1 = b then some p else findI its b := by
  unfold findI
  rw [List.find?_cons]
  by_cases e : p.1 = b <;> simp [e]
theorem delI_cons (p : It) (its : List It) (b : Int) : delI (p :: its) b = if p.1 = b then its else p :: delI its b := by
  unfold delI
  rw [List.eraseP_cons]
  by_cases e : p.1 = b <;> simp [e]
theorem findI_some {its : List It} {a : Int} {p : It} (h : findI its a = some p) : p.1 = a ∧ p ∈ its := by
  unfold findI at h
  exact ⟨by simpa using List.find?_some h, List.mem_of_find?_eq_some h⟩
theorem findI_none_iff {its : List It} {a : Int} : findI its a = none ↔ a ∉ keysI its := by
  unfold findI keysI
  rw [List.find?_eq_none]
  constructor
  · intro h f
    obtain ⟨p, hp, e⟩ := List.mem_map.1 f
    simpa [e] using h p hp
  · intro h p hp
    simp only [decide_eq_true_eq]
    exact fun e => h (List.mem_map.2 ⟨p, hp, e⟩)
theorem keys_del (its : List It) (a : Int) : keysI (delI its a) = (keysI its).erase a := by
  induction its with
  | nil => rfl
  | cons p t ih =>
    rw [delI_cons]
    unfold keysI at ih ⊢
    rw [List.map_cons, List.erase_cons]
    by_cases e : p.1 = a
    · rw [if_pos e]; simp [e]
    · rw [if_neg e]; simp [e, ih]
theorem find_delI {its : List It} (hn : (keysI its).Nodup) (a b : Int) : findI (delI its a) b = if a = b then none else findI its b := by
  by_cases e : a = b
  · subst e
    rw [if_pos rfl, findI_none_iff, keys_del]
    exact hn.not_mem_erase
  · rw [if_neg e]
    clear hn
    induction its with
    | nil => rfl
    | cons p t ih =>
      rw [delI_cons]
      by_cases e1 : p.1 = a
      · rw [if_pos e1, findI_cons, if_neg (fun f => e (e1.symm.trans f))]
      · rw [if_neg e1, findI_cons, findI_cons, ih]
theorem map_delI {its : List It} (hn : (keysI its).Nodup) (a : Int) : mapI (delI its a) = setM (mapI its) a none := by
  funext b
  unfold mapI setM
  rw [find_delI hn]
  split <;> rfl
theorem keys_front (its : List It) (a : Int) (bs : List Int) : keysI ((a, bs) :: delI its a) = frontL (keysI its) a := by
  unfold frontL
  rw [← keys_del]
  rfl
theorem map_front {its : List It} (hn : (keysI its).Nodup) (a : Int) (bs : List Int) : mapI ((a, bs) :: delI its a) = setM (mapI its) a (some bs) := by
  funext b
  have := congrFun (map_delI hn a) b
  unfold mapI setM at this ⊢
  rw [findI_cons]
  by_cases e : a = b
  · rw [if_pos e, if_pos e]; rfl
  · rw [if_neg e, if_neg e]
    rw [if_neg e] at this
    exact this
/-- too many: the last one goes. -/
theorem evict_agree {h : Hot} {d : Doc} (A : Agree h d) (hn : h.xs.Nodup) (h0 : 0 ≤ h.room) (hl : (h.xs.length : Int) ≤ h.room + 1) : Agree (evict h) { d with its := d.its.take d.room.toNat } := by
  have hlen : h.xs.length = d.its.length := by rw [← A.xs]; unfold keysI; simp
  unfold evict
  rw [A.room]
  cases hd : h.xs[h.room.toNat]? with
  | none =>
    rw [List.getElem?_eq_none_iff] at hd
    rw [List.take_of_length_le (by omega)]
    exact ⟨rfl, A.k, A.gl, A.xs, A.m⟩
  | some z =>
    have hlt : h.room.toNat < d.its.length := by have := (List.getElem?_eq_some_iff.1 hd).1; omega
    have hdz : d.its[h.room.toNat].1 = z := by
      rw [← A.xs] at hd
      unfold keysI at hd
      rw [List.getElem?_map, List.getElem?_eq_getElem hlt] at hd
      simpa using hd
    obtain ⟨y, hy⟩ : ∃ y, y = d.its[h.room.toNat] := ⟨_, rfl⟩
    rw [← hy] at hdz
    have hsplit : d.its = d.its.take h.room.toNat ++ [y] := by
      rw [hy, ← List.take_succ_eq_append_getElem hlt, List.take_of_length_le (by omega)]
    have hk : h.xs = keysI (d.its.take h.room.toNat) ++ [z] := by
      rw [← A.xs, ← hdz]
      conv => lhs; rw [hsplit]
      unfold keysI
      rw [List.map_append]
      rfl
    have hnz : z ∉ keysI (d.its.take h.room.toNat) := by
      intro f
      rw [hk] at hn
      exact (List.nodup_append.1 hn).2.2 z f z (List.mem_singleton.2 rfl) rfl
    refine ⟨rfl, A.k, A.gl, ?_, ?_⟩
    · show keysI (d.its.take h.room.toNat) = h.xs.erase z
      conv => rhs; rw [hk]
      rw [List.erase_append_right _ hnz, List.erase_cons_head, List.append_nil]
    · show mapI (d.its.take h.room.toNat) = setM h.m z none
      rw [← A.m]
      funext b
      unfold setM
      by_cases e : z = b
      · subst e
        rw [if_pos rfl]
        unfold mapI
        rw [findI_none_iff.2 hnz]
        rfl
      · rw [if_neg e]
        unfold mapI
        conv => rhs; rw [hsplit]
        unfold findI
        rw [List.find?_append]
        have e2 : decide (y.1 = b) = false := by simpa [hdz] using e
        cases (d.its.take h.room.toNat).find? (fun p => decide (p.1 = b)) <;> simp [e2]
theorem Agree.isSome {h : Hot} {d : Doc} (A : Agree h d) (a : Int) : (findI d.its a).isSome = (h.m a).isSome := by
  rw [← A.m]
  unfold mapI
  cases findI d.its a <;> rfl
theorem keep_agree {h : Hot} {d : Doc} (A : Agree h d) (hn : h.xs.Nodup) (h0 : 0 ≤ h.room) (hl : (h.xs.length : Int) ≤ h.room) (a : Int) (bs : List Int) : Agree (evict (keepH h a bs)) { d with its := ((a, bs) :: delI d.its a).take d.room.toNat } := by
  have hnk : (keysI d.its).Nodup := by rw [A.xs]; exact hn
  have h1 : Agree (keepH h a bs) { d with its := (a, bs) :: delI d.its a } := ⟨A.room, A.k, A.gl, by
    show keysI _ = frontL h.xs a
    rw [← A.xs]; exact keys_front _ _ _, by
    show mapI _ = setM h.m a (some bs)
    rw [← A.m]; exact map_front hnk _ _⟩
  refine evict_agree h1 (nodup_frontL hn) h0 ?_
  have := frontL_le h.xs a
  show ((frontL h.xs a).length : Int) ≤ h.room + 1
  omega
theorem offer_agree {h : Hot} {d : Doc} (A : Agree h d) (g : h.Good) (a : Int) (bs : List Int) : (offerD d a bs).1 = (offerH h a bs).1 ∧ Agree (offerH h a bs).2 (offerD d a bs).2 := by
  unfold offerD offerH
  rw [A.isSome a]
  by_cases h1 : (h.m a).isSome = true
  · rw [if_pos h1, if_pos h1]
    exact ⟨rfl, keep_agree A g.once g.room0 g.len a bs⟩
  · rw [if_neg h1, if_neg h1]
    have hn : findI d.its a = none := by
      have := A.isSome a
      cases hf : findI d.its a with
      | none => rfl
      | some x => rw [hf] at this; exact absurd this.symm h1
    have hag : Agree { h with gl := askList h.k h.gl a } { d with gl := askList d.k d.gl a } := ⟨A.room, A.k, by show askList d.k d.gl a = askList h.k h.gl a; rw [A.k, A.gl], A.xs, A.m⟩
    rw [A.gl, A.room]
    by_cases h2 : a ∈ h.gl ∧ h.room ≠ 0
    · rw [if_pos h2, if_pos h2]
      have h3 := keep_agree hag g.once g.room0 g.len a bs
      refine ⟨rfl, ?_⟩
      have e : delI d.its a = d.its := delI_none hn
      simp only [e] at h3
      simpa [A.room, A.gl] using h3
    · rw [if_neg h2, if_neg h2]
      exact ⟨rfl, by simpa [A.room, A.gl] using hag⟩
theorem drop_agree {h : Hot} {d : Doc} (A : Agree h d) (g : h.Good) (a : Int) : (findI d.its a).isSome = decide (a ∈ h.xs) ∧ Agree (dropH h a) (dropD d a) := by
  have hnk : (keysI d.its).Nodup := by rw [A.xs]; exact g.once
  constructor
  · rw [A.isSome a]
    have := g.keys a
    cases hm : (h.m a).isSome
    · rw [hm] at this; simpa using this
    · rw [hm] at this; simpa using this
  · unfold dropH dropD
    by_cases ha : a ∈ h.xs
    · rw [if_pos ha]
      exact ⟨A.room, A.k, A.gl, by show keysI (delI d.its a) = _; rw [keys_del, A.xs], by show mapI (delI d.its a) = _; rw [map_delI hnk, A.m]⟩
    · rw [if_neg ha]
      have : findI d.its a = none := findI_none_iff.2 (by rw [A.xs]; exact ha)
      rw [delI_none this]
      exact A
theorem get_agree {h : Hot} {d : Doc} (A : Agree h d) (g : h.Good) (a : Int) : ((findI d.its a).getD zeroIt).2 = (h.m a).getD [] ∧ Agree (getH h a) (getD' d a) := by
  have hnk : (keysI d.its).Nodup := by rw [A.xs]; exact g.once
  have hm : h.m a = (findI d.its a).map (·.2) := by rw [← A.m]; rfl
  unfold getH getD'
  cases hf : findI d.its a with
  | none =>
    rw [hf] at hm
    rw [hm]
    refine ⟨rfl, ?_⟩
    rw [if_neg (by simp), delI_none hf]
    exact A
  | some p =>
    rw [hf] at hm
    rw [hm]
    refine ⟨rfl, ?_⟩
    rw [if_pos (by simp)]
    obtain ⟨hp1, hp2⟩ := findI_some hf
    obtain ⟨pa, pb⟩ := p
    simp only at hp1
    subst hp1
    have hmem : pa ∈ h.xs := by rw [← A.xs]; exact List.mem_map.2 ⟨_, hp2, rfl⟩
    have hk : keysI ((pa, pb) :: delI d.its pa) = frontL h.xs pa := by rw [keys_front, A.xs]
    have hlen : ((pa, pb) :: delI d.its pa).length = h.xs.length := by
      have h1 := congrArg List.length hk
      rw [len_frontL_mem hmem] at h1
      rw [← h1]
      unfold keysI
      simp
    have hl := g.len
    have hr := A.room
    have hr0 := g.room0
    show Agree { h with xs := frontL h.xs pa } { d with its := ((pa, pb) :: delI d.its pa).take d.room.toNat }
    rw [List.take_of_length_le (by rw [hlen]; omega)]
    refine ⟨A.room, A.k, A.gl, hk, ?_⟩
    show mapI ((pa, pb) :: delI d.its pa) = h.m
    rw [map_front hnk, ← A.m]
    funext b
    unfold setM
    split
    · rename_i e
      rw [← e]
      unfold mapI
      rw [hf]
      rfl
    · rfl
theorem agree_new (room k : Int) : Agree ⟨room, [], fun _ => none, k, []⟩ ⟨room, k, [], []⟩ := ⟨rfl, rfl, rfl, rfl, rfl⟩
end Go.Proofs.Ytfpbkofjbnmkeaa
