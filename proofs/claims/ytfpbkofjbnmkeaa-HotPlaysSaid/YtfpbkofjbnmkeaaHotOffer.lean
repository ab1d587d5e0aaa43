/- What this text proves: contracts of package hot's Get, New and Offer. Conditions: each theorem's own. -/
import Derived.Test.YtfpbkofjbnmkeaaHotOps
import Derived.OwnWalk
namespace Go.Proofs.Ytfpbkofjbnmkeaa
open Go Go.RowKit Go.Shelf Go.Lib
open Go.Proofs
set_option linter.unusedVariables false
set_option linter.unusedSimpArgs false

theorem infoByte : (Try.prog.info? 5).map (fun i => (i.zero, i.size, i.bytes)) = some (some (.int .u8 0), 1, 1) := by kernel_rfl
theorem By_one (xs : List Int) : ∀ u ∈ By xs, u.oneCell' = true := fun u hu => by obtain ⟨x, _, rfl⟩ := List.mem_map.1 hu; rfl
theorem cloneB_calls {w : World} {base n : Nat} {v : Value} {xs : List Int} (h : w.ownsRow base 5 1 v n (By xs)) (hn : n ≤ 100000) :
    Calls Try.prog 24 #[v] w fun e w' => ∃ v', e = .returned v' ∧ w'.ownsRow w.heap.size 5 1 v' n (By xs) ∧ Below w.heap.size w w' := by
  have hl : xs.length = n := by have := h.1; simpa using this
  rcases h.2 with ⟨rfl, rfl⟩ | ⟨g, cap, cur, rfl, hb, hg, hnc, hcm, hcs, htake⟩
  · have e : xs = [] := List.eq_nil_of_length_eq_zero hl
    subst e
    refine Calls.mono (AnyE.slices_Clone_nil layCloneB 0 0 w) ?_
    rintro e w' ⟨rfl, rfl⟩
    exact ⟨_, rfl, ⟨rfl, .inl ⟨rfl, rfl⟩⟩, Below.refl _ _⟩
  · obtain ⟨i0, hi0, hz0, hz1, hz2⟩ := info_parts infoByte
    refine Calls.mono (AnyE.slices_Clone layCloneB i0 (.int .u8 0) 1 1 hi0 hz0 hz1 hz2 rfl (by decide) (fun w => by kernel_rfl) g 0 n cap (By xs) w (by simp [hl]) (by unfold maxLen; omega) (by omega) (fun j u hu => by rw [Nat.zero_add]; exact owns_cell h hu) (By_one xs)) ?_
    rintro e w' ⟨v', rfl, h1, _, h2⟩
    exact ⟨v', rfl, h1, h2⟩
set_option maxHeartbeats 1000000 in
theorem get_some {w : World} {b : Nat} {h : Hot} {F : Nat → Prop} (H : HotAt w b h F) (a : Int) (hw : (Lit.int .u32 a).wf = true) {bs : List Int} (hm : h.m a = some bs) (hl : bs.length ≤ 100000) (hn : h.xs.length ≤ 8000) :
    Calls Try.prog 12 #[pt b, .int .u32 a] w fun e w' => ∃ v' F', e = .returned (.tuple #[v', .bool true]) ∧ (∀ q, F' q → F q ∨ fresh w w' q) ∧ HotAt w' b { h with xs := frontL h.xs a } F' ∧ Upd F w w' ∧ w'.ownsRow w.heap.size 5 1 v' bs.length (By bs) ∧ ∀ q, v'.ownBlock = some q → ¬ F' q := by
  obtain ⟨mb, g, v, vs, Fg, H⟩ := H
  have HH := Lib.hid H
  have c1 : w.cell? ⟨b, 1, none⟩ = some (.map (some mb)) := cell_at H.here 1
  have hfb := fun i => free_at H.here i
  obtain ⟨val, hval, hp⟩ : ∃ val, (vs.find? (fun p => decide (p.1 = a))).map (·.2.1) = some val ∧ (∃ p ∈ vs, p.2.1 = val ∧ p.2.2 = bs) := by
    have := H.cont a
    rw [hm] at this
    obtain ⟨p, hp, hp2⟩ := Option.map_eq_some_iff.1 this
    exact ⟨p.2.1, by rw [hp]; rfl, p, List.mem_of_find?_eq_some hp, rfl, hp2⟩
  have hlk : alook vs.pairs (.int .u32 a) = some val := by rw [vs_look]; exact hval
  obtain ⟨p, hpm, rfl, rfl⟩ := hp
  have HLK := Lib.hid hlk
  obtain ⟨va, vc, hvv⟩ := (owns_reads (H.vals p hpm).1).len
  have HP := Lib.hid hvv
  rw [hvv] at hlk
  clear H HLK hval hvv
  have HLK := Lib.hid hlk
  clear hlk
  go_enter Try.func12, Try.ntmps12
  go_wp2_with (first
    | ((with_reducible change wpList _ _ _ (⟨_, Op.lookup _ _ _ _, _, _, _, _⟩ :: _) _ _); refine wpl_lookup_ok rfl _ _ _ rfl _ _ kU32 Try.underlying53 _ (zeroBytes _) mb _ HH.out.map rfl _ _ (keyLit hw) rfl (some _) HLK.out ?_))
  refine (first_calls HH.out a hn).mono ?_
  rintro e w1 ⟨rfl, ⟨v1, H1⟩, hu1⟩
  have HL1 := Lib.hid H1; have HU1 := Lib.hid hu1
  clear H1 hu1
  go_wp2_with fail
  have hov := (HL1.out.vals p hpm).1
  rw [HP.out] at hov
  refine (cloneB_calls hov hl).mono ?_
  rintro e w2 ⟨v2, rfl, ho2, hb2⟩
  have HO2 := Lib.hid (And.intro ho2 hb2)
  obtain ⟨a2, c2, hv2⟩ := (owns_reads ho2).len
  clear ho2 hb2 hov
  subst hv2
  go_wp2_with fail
  go_ret2
  have hs1 := HU1.out.size
  refine ⟨_, _, rfl, fun q hq => ?_, ⟨mb, g, v1, vs, Fg, HL1.out.upd (below_upd HO2.out.2) (fun k hk f => by have := HL1.out.lt k hk; omega)⟩, HU1.out.trans (below_upd HO2.out.2) (fun i hi f => by omega), ownsRow_base HO2.out.1 (fun k hk => by have := (HO2.out.1.lt k hk).1; omega), fun q hq f => ?_⟩
  · rcases hq with hq | hq
    · exact .inl hq
    · exact .inr ⟨hq.1, by have := hq.2; have := HO2.out.2.size; omega⟩
  · have h1 := (HO2.out.1.lt q hq).1
    have h2 := HL1.out.lt q f
    omega
set_option maxHeartbeats 1000000 in
theorem hnew_calls (w : World) (room k : Int) (h0 : 0 ≤ room) (h1 : room ≤ 4096) (k0 : 0 ≤ k) (k1 : k ≤ 4096) :
    Calls Try.prog 9 #[.int .i64 room, .int .i64 k] w fun e w' => ∃ b F, e = .returned (.tuple #[pt b, .int .i64 0]) ∧ HotAt w' b ⟨room, [], fun _ => none, k, []⟩ F ∧ (∀ q, F q → fresh w w' q) ∧ Upd (fun _ => False) w w' := by
  have hmm := @run_makeMap Try.prog
  have d0 : decide (room < 0) = false := decide_eq_false (by omega)
  have d1 : decide (4096 < room) = false := decide_eq_false (by omega)
  go_enter Try.func9, Try.ntmps9
  go_wp2_with fail
  refine (new_calls w k k0 k1).mono ?_
  rintro e w1 ⟨g, rfl, hg, hu⟩
  have HG := Lib.hid hg; have HU := Lib.hid hu
  clear hg hu
  go_wp2_with fail
  go_ret2
  have hu2 : Upd (fun _ => False) w1 ((w1.alloc (.map #[] 0)).alloc (.cells #[.int .i64 room, .map (some w1.heap.size), .slice none 0 0, pt g] 55)) := ((Upd.refl (fun _ => False) w1).alloc _).alloc _
  have hs := HU.out.size
  have hsz : ((w1.alloc (.map #[] 0)).alloc (.cells #[.int .i64 room, .map (some w1.heap.size), .slice none 0 0, pt g] 55)).heap.size = w1.heap.size + 2 := by rw [size_alloc, size_alloc]
  refine ⟨w1.heap.size + 1, fun q => fresh w w1 q ∨ q = w1.heap.size ∨ q = w1.heap.size + 1, rfl, ⟨w1.heap.size, g, .slice none 0 0, [], fresh w w1, ⟨heap_alloc2 w1 _ _, ⟨rfl, .inl ⟨rfl, rfl⟩⟩, ?_, fun a => rfl, fun p hp => by simp at hp, HG.out.upd hu2 (fun _ _ f => f), .inr (.inr rfl), .inr (.inl rfl), by omega, fun q hq => by simp [Value.ownBlock] at hq, fun q hq => ⟨.inl hq, ?_, ?_⟩, fun q hq => ?_⟩⟩, fun q hq => ?_, HU.out.trans hu2 (fun _ _ f => f)⟩
  · exact (MapAt.made w1 Try.prog 23).upd (S := fun _ => False) ((Upd.refl _ _).alloc _) (fun f => f)
  · have := hq.2; omega
  · have := hq.2; omega
  · rw [hsz]
    rcases hq with hq | hq | hq
    · have := hq.2; omega
    · omega
    · omega
  · have h2 : fresh w ((w1.alloc (.map #[] 0)).alloc (.cells #[.int .i64 room, .map (some w1.heap.size), .slice none 0 0, pt g] 55)) q ↔ w.heap.size ≤ q ∧ q < w1.heap.size + 2 := by unfold fresh; rw [hsz]
    rw [h2]
    rcases hq with hq | hq | hq
    · have := hq.1; have := hq.2; omega
    · omega
    · omega
theorem hnew_bad (w : World) (room k : Int) (hb : (room < 0 ∨ 4096 < room) ∨ (k < 0 ∨ 4096 < k)) :
    Calls Try.prog 9 #[.int .i64 room, .int .i64 k] w fun e w' => e = .returned (.tuple #[.pointer none, .int .i64 1]) ∧ Upd (fun _ => False) w w' := by
  by_cases h0 : room < 0
  · have d0 : decide (room < 0) = true := decide_eq_true h0
    go_enter Try.func9, Try.ntmps9
    go_wp2_with fail
    go_ret2
    exact ⟨rfl, Upd.refl _ _⟩
  · have d0 : decide (room < 0) = false := decide_eq_false h0
    by_cases h1 : 4096 < room
    · have d1 : decide (4096 < room) = true := decide_eq_true h1
      go_enter Try.func9, Try.ntmps9
      go_wp2_with fail
      go_ret2
      exact ⟨rfl, Upd.refl _ _⟩
    · have d1 : decide (4096 < room) = false := decide_eq_false h1
      have hk : k < 0 ∨ 4096 < k := by omega
      have HK := Lib.hid hk
      clear hb hk
      go_enter Try.func9, Try.ntmps9
      go_wp2_with fail
      refine (new_bad_calls w k HK.out).mono ?_
      rintro e w1 ⟨rfl, rfl⟩
      go_wp2_with fail
      go_ret2
      exact ⟨rfl, Upd.refl _ _⟩
theorem copy_row {w : World} {base g n : Nat} {zs : List Value} {sv : Value} {bs : List Int} (h : w.ownsRow base 5 1 (.slice (some ⟨g, 0, none⟩) n n) n zs) (hs : Reads w 1 sv n (By bs)) :
    ∃ w', (∀ ty, (Builtin.copy_ #[30, 30] ty #[.slice (some ⟨g, 0, none⟩) n n, sv]).run Try.prog w = .ok (goInt n) w') ∧ w'.ownsRow base 5 1 (.slice (some ⟨g, 0, none⟩) n n) n (By bs) ∧ Upd (fun k => k = g) w w' := by
  have hsz : (Try.prog.info? 5).map (·.size) = some 1 := by kernel_rfl
  have hbl : bs.length = n := by have := hs.1; simpa using this
  rcases Nat.eq_zero_or_pos n with h0 | hn
  · subst h0
    have e : bs = [] := List.eq_nil_of_length_eq_zero hbl
    subst e
    obtain ⟨a, sc, rfl⟩ := hs.len
    refine ⟨w, fun ty => run_copy_none w _ _ ty 5 _ a 0 0 0 sc Try.underlying30 hsz (by simp), ?_, Upd.refl _ _⟩
    have : zs = [] := List.eq_nil_of_length_eq_zero (by have := h.1; simpa using this)
    subst this
    exact h
  · rcases h.2 with ⟨h0, _⟩ | ⟨g', cap, cur, hv, hb, hg, hnc, hcm, hcs, htake⟩
    · cases h0
    cases hv
    rcases hs.2 with ⟨_, h0⟩ | ⟨a, sc, rfl, hsc, hcell⟩
    · omega
    have hcur : cur.size = (By bs).length := by rw [hcs]; simp [hbl]
    have hrun := fun ty => run_copy_cells (P := Try.prog) w 30 30 ty 5 g 0 n n a n sc (By bs) Try.underlying30 hsz (by simp [hbl]) hcell
      (fun j hj => by rw [Nat.zero_add, cell_at hg, Array.getElem?_eq_getElem (by omega)]; rfl) (fun j hj => free_at hg _) (By_one bs)
    have e1 : (By bs).length = n := by simp [hbl]
    simp only [e1] at hrun
    refine ⟨_, hrun, ⟨by simp [hbl], .inr ⟨g, n, _, rfl, hb, at_setAll hg hcur, Nat.le_refl _, hcm, by simp [hbl], ?_⟩⟩, Upd.setCells (S := fun k => k = g) (fun _ => rfl) _ _ (Upd.refl _ w)⟩
    simp only [List.toList_toArray, Nat.mul_one]
    exact List.take_of_length_le (by simp [hbl])
theorem Lies.ask {w w' : World} {b : Nat} {h : Hot} {F : Nat → Prop} {mb g : Nat} {v : Value} {vs : Vs} {Fg : Nat → Prop} (H : Lies w b h F mb g v vs Fg) {gl : List Int} (hg : GList w' g h.k gl (fun k => Fg k ∨ fresh w w' k)) (hu : Upd Fg w w') :
    Lies w' b { h with gl := gl } (fun k => F k ∨ fresh w w' k) mb g v vs (fun k => Fg k ∨ fresh w w' k) := by
  have old : ∀ k, F k → ¬ fresh w w' k := fun k hk hf => by have := H.lt k hk; have := hf.1; omega
  refine ⟨hu.at H.here (fun e => (H.fg b e).2.1 rfl), ownsRow_upd H.order hu (fun k hk e => (H.fv k hk).2.2.2 e), H.map.upd hu (fun e => (H.fg mb e).2.2 rfl), H.cont, fun p hp => ?_, hg, .inl H.fb, .inl H.fmb, H.ne, fun k hk => ?_, fun k hk => ?_, fun k hk => ?_⟩
  · obtain ⟨h1, h2⟩ := H.vals p hp
    exact ⟨ownsRow_upd h1 hu (fun k hk e => (h2 k hk).2.2.2.2 e), fun q hq => ⟨.inl (h2 q hq).1, (h2 q hq).2.1, (h2 q hq).2.2.1, (h2 q hq).2.2.2.1, fun f => f.elim (h2 q hq).2.2.2.2 (old q (h2 q hq).1)⟩⟩
  · exact ⟨.inl (H.fv k hk).1, (H.fv k hk).2.1, (H.fv k hk).2.2.1, fun f => f.elim (H.fv k hk).2.2.2 (old k (H.fv k hk).1)⟩
  · rcases hk with hk | hk
    · exact ⟨.inl (H.fg k hk).1, (H.fg k hk).2⟩
    · exact ⟨.inr hk, fun e => old b H.fb (e ▸ hk), fun e => old mb H.fmb (e ▸ hk)⟩
  · rcases hk with hk | hk
    · exact Nat.lt_of_lt_of_le (H.lt k hk) hu.size
    · exact hk.2
set_option maxHeartbeats 1000000 in
theorem offer_off {w : World} {b : Nat} {h : Hot} {F : Nat → Prop} (H : HotAt w b h F) (a : Int) (hw : (Lit.int .u32 a).wf = true) (sv : Value) (hm : h.m a = none) (hoff : a ∉ h.gl ∨ h.room = 0) :
    Calls Try.prog 11 #[pt b, .int .u32 a, sv] w fun e w' => e = .returned (.bool false) ∧ Turned w w' b { h with gl := askList h.k h.gl a } F := by
  obtain ⟨mb, g, v, vs, Fg, H⟩ := H
  have HH := Lib.hid H
  have c1 : w.cell? ⟨b, 1, none⟩ = some (.map (some mb)) := cell_at H.here 1
  have c3 : w.cell? ⟨b, 3, none⟩ = some (pt g) := cell_at H.here 3
  have hfb := fun i => free_at H.here i
  have hlk : alook vs.pairs (.int .u32 a) = none := by
    rw [vs_look]
    have := H.cont a
    rw [hm] at this
    simpa using this
  have HLK := Lib.hid hlk
  clear H hlk
  obtain ⟨isg, hisg⟩ : ∃ x, x = decide (a ∈ h.gl) := ⟨_, rfl⟩
  have hor : isg = false ∨ h.room = 0 := by
    rcases hoff with e | e
    · exact .inl (by rw [hisg]; exact decide_eq_false e)
    · exact .inr e
  have HIS := Lib.hid hisg
  clear hoff hisg
  go_enter Try.func11, Try.ntmps11
  go_wp2_with (first
    | ((with_reducible change wpList _ _ _ (⟨_, Op.lookup _ _ _ _, _, _, _, _⟩ :: _) _ _); refine wpl_lookup_ok rfl _ _ _ rfl _ _ kU32 Try.underlying53 _ (zeroBytes _) mb _ HH.out.map rfl _ _ (keyLit hw) rfl none HLK.out ?_))
  have hask := ask_calls w g h.k h.gl Fg a hw HH.out.ghost
  rw [← HIS.out] at hask
  refine hask.mono ?_
  rintro e w1 ⟨rfl, hg1, hu1⟩
  have hL1 := HH.out.ask hg1 hu1
  have d0 : w1.cell? ⟨b, 0, none⟩ = some (.int .i64 h.room) := cell_at hL1.here 0
  have HL1 := Lib.hid hL1; have HU1 := Lib.hid hu1
  clear hL1 hg1 hu1
  have hfin : Turned w w1 b { h with gl := askList h.k h.gl a } F := ⟨⟨_, fun q hq => hq, ⟨_, _, _, _, _, HL1.out⟩⟩, HU1.out.mono (fun k _ f => (HH.out.fg k f).1)⟩
  have HF := Lib.hid hfin
  clear hfin
  rcases hor with e | e
  · subst e
    go_wp2_with fail
    go_ret
    exact ⟨rfl, HF.out⟩
  · have hr0 : (h.room == 0) = true := by simpa using e
    rw [e] at d0
    cases isg
    · go_wp2_with fail
      go_ret
      exact ⟨rfl, HF.out⟩
    · go_wp2_with fail
      go_ret
      exact ⟨rfl, HF.out⟩
theorem Turned.comp {w w1 w2 : World} {b : Nat} {h2 : Hot} {F F1 : Nat → Prop} (hu1 : Upd F w w1) (hF1 : ∀ q, F1 q → F q ∨ fresh w w1 q) (T : Turned w1 w2 b h2 F1) : Turned w w2 b h2 F := by
  obtain ⟨⟨F2, hF2, H2⟩, hu2⟩ := T
  have hs1 := hu1.size
  have hs2 := hu2.size
  refine ⟨⟨F2, fun q hq => ?_, H2⟩, hu1.trans hu2 (fun i hi hk => (hF1 i hk).elim id (fun f => by have := f.1; omega))⟩
  rcases hF2 q hq with f | f
  · rcases hF1 q f with f | f
    · exact .inl f
    · exact .inr ⟨f.1, by have := f.2; omega⟩
  · exact .inr ⟨by have := f.1; omega, f.2⟩
theorem Turned.drew {w w1 : World} {b : Nat} {h : Hot} {F : Nat → Prop} (T : Turned w w1 b h F) : Turned w w1.drew b h F := by
  obtain ⟨⟨F1, hF1, H1⟩, hu1⟩ := T
  exact ⟨⟨F1, hF1, H1.upd (S := fun _ => False) (Upd.refl _ w1).drew (fun _ _ f => f)⟩, hu1.drew⟩
theorem frontL_le (xs : List Int) (a : Int) : (frontL xs a).length ≤ xs.length + 1 := by
  unfold frontL
  rw [List.length_cons]
  have := List.length_erase_le (a := a) (l := xs)
  omega
/-- a block is kept, and it is the one that was read last. -/
def keepH (h : Hot) (a : Int) (bs : List Int) : Hot := { h with m := setM h.m a (some bs), xs := frontL h.xs a }
/-- the last one goes, where there are too many. -/
def evict (h : Hot) : Hot := match h.xs[h.room.toNat]? with | some d => { h with xs := h.xs.erase d, m := setM h.m d none } | none => h
-- GENERATED
set_option maxHeartbeats 2000000 in
theorem offer_there {w : World} {b : Nat} {h : Hot} {F : Nat → Prop} (H : HotAt w b h F) (a : Int) (hw : (Lit.int .u32 a).wf = true) {sv : Value} {n : Nat} {bs : List Int} (hs : Reads w 1 sv n (By bs)) (hsf : n ≠ 0 → ∀ q, sv.ownBlock = some q → ¬ F q) (hn1 : n ≤ 100000) (hn : h.xs.length ≤ 7000) (h0 : 0 ≤ h.room) (hm : (h.m a).isSome = true)
    (hlen : ((frontL h.xs a).length : Int) ≤ h.room + 1) (hxw : ∀ x ∈ h.xs, (Lit.int .u32 x).wf = true) :
    Calls Try.prog 11 #[pt b, .int .u32 a, sv] w fun e w' => e = .returned (.bool true) ∧ Turned w w' b (evict (keepH h a bs)) F := by
  obtain ⟨mb, g, v, vs, F1g, H⟩ := H
  obtain ⟨F1, hF1⟩ : ∃ F1, F1 = F := ⟨_, rfl⟩
  subst hF1
  obtain ⟨w1, hw1⟩ : ∃ w1, w1 = w := ⟨_, rfl⟩
  subst hw1
  have hbl : bs.length = n := by have := hs.1; simpa using this
  obtain ⟨sa, sc, hsv⟩ := hs.len
  subst hsv
  have HL1 := Lib.hid H
  have HRS := Lib.hid hs
  have c1 : w1.cell? ⟨b, 1, none⟩ = some (.map (some mb)) := cell_at H.here 1
  have hfb := fun i => free_at H.here i
  obtain ⟨val, hlk⟩ : ∃ val, alook vs.pairs (.int .u32 a) = some val := by
    rw [vs_look]
    have := H.cont a
    obtain ⟨x, hx⟩ := Option.isSome_iff_exists.1 hm
    rw [hx] at this
    obtain ⟨p, hp, _⟩ := Option.map_eq_some_iff.1 this
    exact ⟨p.2.1, by rw [hp]; rfl⟩
  have HLK := Lib.hid hlk
  clear H hlk hs
  go_enter Try.func11, Try.ntmps11
  obtain ⟨i0, hi, hz0, hz1, hz2⟩ := info_parts infoByte
  have hob : (∀ k, (Value.slice (some ⟨w1.heap.size, 0, none⟩) n n).ownBlock = some k → w1.heap.size = k) ∧ mb < w1.heap.size := ⟨fun k hk => by injection hk, HL1.out.lt mb HL1.out.fmb⟩
  have HOB := Lib.hid hob; clear hob
  go_wp2_with (first
    | ((with_reducible change wpList _ _ _ (⟨_, Op.lookup _ _ _ _, _, _, _, _⟩ :: _) _ _); refine wpl_lookup_ok rfl _ _ _ rfl _ _ kU32 Try.underlying53 _ (zeroBytes _) mb _ HL1.out.map rfl _ _ (keyLit hw) rfl (some _) HLK.out ?_)
    | (refine wpList_make_full w1 rfl _ _ _ rfl w1.heap.size 5 i0 _ 1 Try.underlying30 hi hz0 hz1 .i64 .i64 n n n rfl rfl rfl rfl (by rw [hz2]; omega) (by unfold maxLen; omega) (Nat.le_refl _) ?_
       intro w2 ho2 hg2
       have hu2 : Upd (fun _ => False) w1 w2 := (Upd.refl (fun _ => False) w1).grown hg2 (by simp)
       obtain ⟨w3, hr3, ho3, hu3⟩ := copy_row ho2 (HRS.out.upd hu2 (fun _ _ f => f))
       have hgw := (ho2.lt w1.heap.size rfl).2
       have hu13 : Upd (fun k => k = w1.heap.size) w1 w3 := (hu2.mono (fun _ _ f => f.elim)).trans hu3 (fun _ _ f => f)
       have hl3 := HL1.out.upd hu13 (fun k hk e => by have := HL1.out.lt k hk; omega)
       have c13 : w3.cell? ⟨b, 1, none⟩ = some (.map (some mb)) := cell_at hl3.here 1
       have HL3 := Lib.hid hl3; have HO3 := Lib.hid ho3; have HU13 := Lib.hid hu13; have HR3 := Lib.hid hr3
       clear ho2 hg2 hu2 ho3 hu3 hl3 hu13 hr3)
    | ((with_reducible change wpList _ _ _ (⟨_, Op.call { callee := Callee.builtin Builtin.copy, args := _, argTypes := _ }, _, _, _, _⟩ :: _) _ _); refine wpList_copy_runI _ rfl _ _ 30 30 rfl (.slice (some ⟨w1.heap.size, 0, none⟩) n n) (.slice sa n sc) rfl rfl (HR3.out _) ?_)
    | ((with_reducible change wpList _ _ _ (⟨_, Op.mapUpdate _ _ _ _, _, _, _, _⟩ :: _) _ _); refine wpl_mapUpdate rfl _ _ _ 53 rfl 23 30 kU32 Try.underlying53 mb _ HL3.out.map rfl (.int .u32 a) (.slice (some ⟨w1.heap.size, 0, none⟩) n n) _ (keyLit hw) rfl rfl ?_
       intro w4 hm4 hu4
       have hs14 := HU13.out.size
       have ho4 : w4.ownsRow 0 5 1 (.slice (some ⟨w1.heap.size, 0, none⟩) n n) bs.length (By bs) := by
         rw [hbl]
         exact ownsRow_base (ownsRow_upd HO3.out hu4 (fun k hk e => by have h1 := HOB.out.1 k hk; have h2 := HOB.out.2; omega)) (fun k _ => Nat.zero_le _)
       have hl4 := HL3.out.put a hm4 hu4 ho4 (fun q hq => ⟨fun f => by have h1 := HOB.out.1 q hq; have h2 := HL1.out.lt q f; omega, (ho4.lt q hq).2⟩)
       have hu14 : Upd F1 w1 w4 := (HU13.out.mono (S' := F1) (fun k hk e => by omega)).trans (hu4.mono (S' := F1) (fun k _ e => by rw [e]; exact HL1.out.fmb)) (fun _ _ f => f)
       have HL4 := Lib.hid hl4; have HU14 := Lib.hid hu14
       have HF4 := Lib.hid (show ∀ q, (F1 q ∨ (Value.slice (some ⟨w1.heap.size, 0, none⟩) n n).ownBlock = some q) → F1 q ∨ fresh w1 w4 q from fun q hq => by
         rcases hq with hq | hq
         · exact .inl hq
         · have h1 := HOB.out.1 q hq
           exact .inr ⟨by omega, (ho4.lt q hq).2⟩)
       clear hm4 hu4 ho4 hl4 hu14 hs14))
  refine (first_calls HL4.out a (by show h.xs.length ≤ 8000; omega)).mono ?_
  rintro e w5 ⟨rfl, ⟨v5, H5⟩, hu5⟩
  obtain ⟨g5, c5, hv5, _, _, _⟩ := owns_pos H5.order (by show 0 < (frontL h.xs a).length; unfold frontL; simp)
  subst hv5
  have d2 : w5.cell? ⟨b, 2, none⟩ = some (.slice (some ⟨g5, 0, none⟩) (frontL h.xs a).length c5) := cell_at H5.here 2
  have d0 : w5.cell? ⟨b, 0, none⟩ = some (.int .i64 h.room) := cell_at H5.here 0
  have HL5 := Lib.hid H5; have HU5 := Lib.hid hu5
  have hT5 : Turned w1 w5 b (keepH h a bs) F1 := Turned.comp HU14.out HF4.out ⟨⟨_, fun q hq => hq, ⟨_, _, _, _, _, H5⟩⟩, hu5⟩
  have HT5 := Lib.hid hT5
  clear H5 hu5 hT5
  go_wp2_with fail
  go_region
  by_cases hev : h.room < (frontL h.xs a).length
  · have hd : decide (h.room < ((frontL h.xs a).length : Int)) = true := decide_eq_true hev
    go_wp2_with fail
    obtain ⟨rN, hrN⟩ : ∃ rN : Nat, h.room = rN := ⟨h.room.toNat, by omega⟩
    obtain ⟨nn, hnn⟩ : ∃ nn, nn = (frontL h.xs a).length := ⟨_, rfl⟩
    have hri : rN < nn := by omega
    obtain ⟨dd, hdd⟩ : ∃ dd, (frontL h.xs a)[rN]? = some dd := ⟨_, List.getElem?_eq_getElem (by omega)⟩
    have e5 : w5.cell? ⟨g5, rN, none⟩ = some (.int .u32 dd) := owns_cell HL5.out.order (by show (U (frontL h.xs a))[rN]? = _; simp [hdd])
    have hidx : ∀ w, (Instr.indexAt 44 (.slice (some ⟨g5, 0, none⟩) nn c5) (.int .i64 rN)).run Try.prog w = .ok (.pointer (some ⟨g5, rN, none⟩)) w := fun w => by
      have := run_index_own (P := Try.prog) (size := 1) Try.underlying44 (fun w => by kernel_rfl) (g := g5) (c := c5) hri w
      simpa using this
    have hdm : dd ∈ frontL h.xs a := List.mem_of_getElem? hdd
    have hdw : (Lit.int .u32 dd).wf = true := by
      unfold frontL at hdm
      rcases List.mem_cons.1 hdm with e | e
      · rw [e]; exact hw
      · exact hxw dd (List.mem_of_mem_erase e)
    have hfin : evict (keepH h a bs) = { keepH h a bs with xs := (frontL h.xs a).erase dd, m := setM (keepH h a bs).m dd none } := by
      unfold evict
      have : (keepH h a bs).xs[(keepH h a bs).room.toNat]? = some dd := by
        show (frontL h.xs a)[h.room.toNat]? = some dd
        rw [hrN]
        exact hdd
      rw [this]
      rfl
    rw [hrN] at d0
    rw [← hnn] at d2 ⊢
    have hlen8 : (frontL h.xs a).length ≤ 8000 := Nat.le_trans (frontL_le h.xs a) (by omega)
    have HE5 := Lib.hid (And.intro hdm (And.intro hdw (And.intro hfin hlen8)))
    clear hdm hdw hfin hdd hlen8 hnn hrN hlen hev hn h0 hxw hd
    refine wp_region_held_drew (S := fun _ => True) rfl trivial (fun hHeld => ?_)
    first
      | (refine held_on 0 rfl (by kernel_rfl) (fun _ _ _ h => h) (by rfl) (by assumption) (v := ?_) ?_ ?_
         rotate_left
         · intro w hS; (try dsimp only at hS); first | (go_simp; done) | (go_simp; with_reducible rfl)
         try simp only [Act.put, List.setIfInBounds_toArray, List.set_cons_zero, List.set_cons_succ])
      | (refine held_off 0 rfl (by kernel_rfl) (fun _ _ _ h => h) (by rfl) (by assumption) ?_
         try simp only [Act.put, List.setIfInBounds_toArray, List.set_cons_zero, List.set_cons_succ])
      | (go_outline; fail "take 0")
    first
      | (refine held_on 1 rfl (by kernel_rfl) (fun _ _ _ h => h) (by rfl) (by assumption) (v := ?_) ?_ ?_
         rotate_left
         · intro w hS; (try dsimp only at hS); first | (go_simp; done) | (go_simp; with_reducible rfl)
         try simp only [Act.put, List.setIfInBounds_toArray, List.set_cons_zero, List.set_cons_succ])
      | (refine held_off 1 rfl (by kernel_rfl) (fun _ _ _ h => h) (by rfl) (by assumption) ?_
         try simp only [Act.put, List.setIfInBounds_toArray, List.set_cons_zero, List.set_cons_succ])
      | (go_outline; fail "take 1")
    first
      | (refine held_on 2 rfl (by kernel_rfl) (fun _ _ _ h => h) (by rfl) (by assumption) (v := ?_) ?_ ?_
         rotate_left
         · intro w hS; (try dsimp only at hS); first | (go_simp; done) | (go_simp; with_reducible rfl)
         try simp only [Act.put, List.setIfInBounds_toArray, List.set_cons_zero, List.set_cons_succ])
      | (refine held_off 2 rfl (by kernel_rfl) (fun _ _ _ h => h) (by rfl) (by assumption) ?_
         try simp only [Act.put, List.setIfInBounds_toArray, List.set_cons_zero, List.set_cons_succ])
      | (go_outline; fail "take 2")
    first
      | (refine held_on 3 rfl (by kernel_rfl) (fun _ _ _ h => h) (by rfl) (by assumption) (v := ?_) ?_ ?_
         rotate_left
         · intro w hS; (try dsimp only at hS); first | (go_simp; done) | (go_simp; with_reducible rfl)
         try simp only [Act.put, List.setIfInBounds_toArray, List.set_cons_zero, List.set_cons_succ])
      | (refine held_off 3 rfl (by kernel_rfl) (fun _ _ _ h => h) (by rfl) (by assumption) ?_
         try simp only [Act.put, List.setIfInBounds_toArray, List.set_cons_zero, List.set_cons_succ])
      | (go_outline; fail "take 3")
    first
      | (refine held_on 5 rfl (by kernel_rfl) (fun _ _ _ h => h) (by rfl) (by assumption) (v := ?_) ?_ ?_
         rotate_left
         · intro w hS; (try dsimp only at hS); first | (go_simp; done) | (go_simp; with_reducible rfl)
         try simp only [Act.put, List.setIfInBounds_toArray, List.set_cons_zero, List.set_cons_succ])
      | (refine held_off 5 rfl (by kernel_rfl) (fun _ _ _ h => h) (by rfl) (by assumption) ?_
         try simp only [Act.put, List.setIfInBounds_toArray, List.set_cons_zero, List.set_cons_succ])
      | (go_outline; fail "take 5")
    first
      | (refine held_on 6 rfl (by kernel_rfl) (fun _ _ _ h => h) (by rfl) (by assumption) (v := ?_) ?_ ?_
         rotate_left
         · intro w hS; (try dsimp only at hS); first | (go_simp; done) | (go_simp; with_reducible rfl)
         try simp only [Act.put, List.setIfInBounds_toArray, List.set_cons_zero, List.set_cons_succ])
      | (refine held_off 6 rfl (by kernel_rfl) (fun _ _ _ h => h) (by rfl) (by assumption) ?_
         try simp only [Act.put, List.setIfInBounds_toArray, List.set_cons_zero, List.set_cons_succ])
      | (go_outline; fail "take 6")
    first
      | (refine held_on 7 rfl (by kernel_rfl) (fun _ _ _ h => h) (by rfl) (by assumption) (v := ?_) ?_ ?_
         rotate_left
         · intro w hS; (try dsimp only at hS); first | (go_simp; done) | (go_simp; with_reducible rfl)
         try simp only [Act.put, List.setIfInBounds_toArray, List.set_cons_zero, List.set_cons_succ])
      | (refine held_off 7 rfl (by kernel_rfl) (fun _ _ _ h => h) (by rfl) (by assumption) ?_
         try simp only [Act.put, List.setIfInBounds_toArray, List.set_cons_zero, List.set_cons_succ])
      | (go_outline; fail "take 7")
    refine wpAnyH_ready (rs := [4, 8]) (by kernel_rfl) (by simp) (AllReadyH.cons rfl (fun K hK => ?_) (AllReadyH.cons rfl (fun K hK => ?_) AllReadyH.nil))
    · go_simp
      refine hK.out _ _ trivial (fun hHeld => ?_)
      clear hK K
      refine wpAnyH_ready (rs := [8]) (by kernel_rfl) (by simp) (AllReadyH.cons rfl (fun K hK => ?_) AllReadyH.nil)
      go_simp
      refine hK.out _ _ trivial (fun hHeld => ?_)
      clear hK K
      first
        | (refine held_on 9 rfl (by kernel_rfl) (fun _ _ _ h => h) (by rfl) (by assumption) (v := ?_) ?_ ?_
           rotate_left
           · intro w hS; (try dsimp only at hS); first | (go_simp; done) | (go_simp; with_reducible rfl)
           try simp only [Act.put, List.setIfInBounds_toArray, List.set_cons_zero, List.set_cons_succ])
        | (refine held_off 9 rfl (by kernel_rfl) (fun _ _ _ h => h) (by rfl) (by assumption) ?_
           try simp only [Act.put, List.setIfInBounds_toArray, List.set_cons_zero, List.set_cons_succ])
        | (go_outline; fail "take 9")
      refine wpAnyH_ready (rs := [10]) (by kernel_rfl) (by simp) (AllReadyH.cons rfl (fun K hK => ?_) AllReadyH.nil)
      go_simp
      refine hK.out _ _ trivial (fun hHeld => ?_)
      clear hK K
      refine wpAnyH_ready (rs := [11]) (by kernel_rfl) (by simp) (AllReadyH.cons rfl (fun K hK => ?_) AllReadyH.nil)
      go_simp
      refine calls_world fun W hW => ?_
      have huW : Upd (fun _ => False) w5 W := by rw [hW]; exact ⟨rfl, rfl, rfl, Nat.le_refl _, fun _ _ _ => rfl⟩
      have HUW := Lib.hid huW
      clear hW huW
      refine (drop_at ⟨_, _, _, _, _, HL5.out.upd HUW.out (fun _ _ f => f)⟩ dd HE5.out.2.1 HE5.out.1 HE5.out.2.2.2).mono ?_
      rintro e w6 ⟨rfl, hT6⟩
      have hT7 : Turned w1 w6 b (evict (keepH h a bs)) F1 := by
        rw [HE5.out.2.2.1]
        refine Turned.comp HU14.out HF4.out (Turned.comp HU5.out (fun q hq => hq) (Turned.comp (HUW.out.mono (fun _ _ f => f.elim)) (fun q hq => .inl hq) hT6))
      have HT7 := Lib.hid hT7
      clear hT6 hT7
      go_wp2_with fail
      refine hK.out _ _ trivial (fun hHeld => ?_)
      clear hK K
      refine wpAnyH_done (by kernel_rfl) ?_ _
      go_wp2_with fail
      go_ret
      exact ⟨rfl, (HT7.out)⟩
    · go_simp
      refine hK.out _ _ trivial (fun hHeld => ?_)
      clear hK K
      refine wpAnyH_ready (rs := [4]) (by kernel_rfl) (by simp) (AllReadyH.cons rfl (fun K hK => ?_) AllReadyH.nil)
      go_simp
      refine hK.out _ _ trivial (fun hHeld => ?_)
      clear hK K
      first
        | (refine held_on 9 rfl (by kernel_rfl) (fun _ _ _ h => h) (by rfl) (by assumption) (v := ?_) ?_ ?_
           rotate_left
           · intro w hS; (try dsimp only at hS); first | (go_simp; done) | (go_simp; with_reducible rfl)
           try simp only [Act.put, List.setIfInBounds_toArray, List.set_cons_zero, List.set_cons_succ])
        | (refine held_off 9 rfl (by kernel_rfl) (fun _ _ _ h => h) (by rfl) (by assumption) ?_
           try simp only [Act.put, List.setIfInBounds_toArray, List.set_cons_zero, List.set_cons_succ])
        | (go_outline; fail "take 9")
      refine wpAnyH_ready (rs := [10]) (by kernel_rfl) (by simp) (AllReadyH.cons rfl (fun K hK => ?_) AllReadyH.nil)
      go_simp
      refine hK.out _ _ trivial (fun hHeld => ?_)
      clear hK K
      refine wpAnyH_ready (rs := [11]) (by kernel_rfl) (by simp) (AllReadyH.cons rfl (fun K hK => ?_) AllReadyH.nil)
      go_simp
      refine calls_world fun W hW => ?_
      have huW : Upd (fun _ => False) w5 W := by rw [hW]; exact ⟨rfl, rfl, rfl, Nat.le_refl _, fun _ _ _ => rfl⟩
      have HUW := Lib.hid huW
      clear hW huW
      refine (drop_at ⟨_, _, _, _, _, HL5.out.upd HUW.out (fun _ _ f => f)⟩ dd HE5.out.2.1 HE5.out.1 HE5.out.2.2.2).mono ?_
      rintro e w6 ⟨rfl, hT6⟩
      have hT7 : Turned w1 w6 b (evict (keepH h a bs)) F1 := by
        rw [HE5.out.2.2.1]
        refine Turned.comp HU14.out HF4.out (Turned.comp HU5.out (fun q hq => hq) (Turned.comp (HUW.out.mono (fun _ _ f => f.elim)) (fun q hq => .inl hq) hT6))
      have HT7 := Lib.hid hT7
      clear hT6 hT7
      go_wp2_with fail
      refine hK.out _ _ trivial (fun hHeld => ?_)
      clear hK K
      refine wpAnyH_done (by kernel_rfl) ?_ _
      go_wp2_with fail
      go_ret
      exact ⟨rfl, (HT7.out)⟩
  · have hd : decide (h.room < ((frontL h.xs a).length : Int)) = false := decide_eq_false hev
    go_wp2_with fail
    go_ret
    have hno : evict (keepH h a bs) = keepH h a bs := by
      unfold evict
      have : (keepH h a bs).xs[(keepH h a bs).room.toNat]? = none := by
        show (frontL h.xs a)[h.room.toNat]? = none
        rw [List.getElem?_eq_none]
        omega
      rw [this]
    rw [hno]
    exact ⟨rfl, (HT5.out).drew⟩
set_option maxHeartbeats 2000000 in
theorem offer_on {w : World} {b : Nat} {h : Hot} {F : Nat → Prop} (H : HotAt w b h F) (a : Int) (hw : (Lit.int .u32 a).wf = true) {sv : Value} {n : Nat} {bs : List Int} (hs : Reads w 1 sv n (By bs)) (hsf : n ≠ 0 → ∀ q, sv.ownBlock = some q → ¬ F q) (hn1 : n ≤ 100000) (hn : h.xs.length ≤ 7000) (h0 : 0 ≤ h.room) (hm : h.m a = none)
    (hgl : a ∈ h.gl) (hroom : h.room ≠ 0) (hlen : ((frontL h.xs a).length : Int) ≤ h.room + 1) (hxw : ∀ x ∈ h.xs, (Lit.int .u32 x).wf = true) :
    Calls Try.prog 11 #[pt b, .int .u32 a, sv] w fun e w' => e = .returned (.bool true) ∧ Turned w w' b (evict (keepH { h with gl := askList h.k h.gl a } a bs)) F := by
  obtain ⟨mb, g, v, vs, Fg, H⟩ := H
  have HH := Lib.hid H
  have hbl : bs.length = n := by have := hs.1; simpa using this
  obtain ⟨sa, sc, hsv⟩ := hs.len
  subst hsv
  have c0 : w.cell? ⟨b, 1, none⟩ = some (.map (some mb)) := cell_at H.here 1
  have c3 : w.cell? ⟨b, 3, none⟩ = some (pt g) := cell_at H.here 3
  have hfb := fun i => free_at H.here i
  have hlk : alook vs.pairs (.int .u32 a) = none := by
    rw [vs_look]
    have := H.cont a
    rw [hm] at this
    simpa using this
  have HLK := Lib.hid hlk
  have HS := Lib.hid hs
  have hr0 : (h.room == 0) = false := by simpa using hroom
  clear H hlk hs
  obtain ⟨h1, hh1⟩ : ∃ h1 : Hot, h1 = { h with gl := askList h.k h.gl a } := ⟨_, rfl⟩
  rw [← hh1]
  have HH1 := Lib.hid hh1; clear hh1
  go_enter Try.func11, Try.ntmps11
  go_wp2_with (first
    | ((with_reducible change wpList _ _ _ (⟨_, Op.lookup _ _ _ _, _, _, _, _⟩ :: _) _ _); refine wpl_lookup_ok rfl _ _ _ rfl _ _ kU32 Try.underlying53 _ (zeroBytes _) mb _ HH.out.map rfl _ _ (keyLit hw) rfl none HLK.out ?_))
  have hask := ask_calls w g h.k h.gl Fg a hw HH.out.ghost
  rw [show decide (a ∈ h.gl) = true from decide_eq_true hgl] at hask
  refine hask.mono ?_
  rintro e w1 ⟨rfl, hg1, hu1⟩
  have hh1 := HH1.out
  obtain ⟨F1, hF1⟩ : ∃ F1 : Nat → Prop, F1 = fun k => F k ∨ fresh w w1 k := ⟨_, rfl⟩
  have hL1 := HH.out.ask hg1 hu1
  have hrs := HS.out.upd0 hu1 (fun h0 q hq f => hsf h0 q hq (HH.out.fg q f).1)
  have hF0 : ∀ q, F1 q → F q ∨ fresh w w1 q := fun q hq => by rw [hF1] at hq; exact hq
  have hb1 : Upd F w w1 := hu1.mono (fun k _ f => (HH.out.fg k f).1)
  rw [← hh1, ← hF1] at hL1
  have e1 : h1.xs = h.xs := by rw [hh1]
  have e2 : h1.room = h.room := by rw [hh1]
  have HE := Lib.hid (And.intro hb1 hF0)
  rw [← e2] at h0 hlen hr0
  rw [← e1] at hn hlen hxw
  have d0 : w1.cell? ⟨b, 0, none⟩ = some (.int .i64 h1.room) := cell_at hL1.here 0
  have c1 : w1.cell? ⟨b, 1, none⟩ = some (.map (some mb)) := cell_at hL1.here 1
  have HL1 := Lib.hid hL1; have HRS := Lib.hid hrs
  clear hg1 hu1 hL1 hrs hF0 hb1 hh1 e1 e2 hF1 c0 c3 hroom hgl hm
  obtain ⟨i0, hi, hz0, hz1, hz2⟩ := info_parts infoByte
  have hob : (∀ k, (Value.slice (some ⟨w1.heap.size, 0, none⟩) n n).ownBlock = some k → w1.heap.size = k) ∧ mb < w1.heap.size := ⟨fun k hk => by injection hk, HL1.out.lt mb HL1.out.fmb⟩
  have HOB := Lib.hid hob; clear hob
  go_wp2_with (first
    | (refine wpList_make_full w1 rfl _ _ _ rfl w1.heap.size 5 i0 _ 1 Try.underlying30 hi hz0 hz1 .i64 .i64 n n n rfl rfl rfl rfl (by rw [hz2]; omega) (by unfold maxLen; omega) (Nat.le_refl _) ?_
       intro w2 ho2 hg2
       have hu2 : Upd (fun _ => False) w1 w2 := (Upd.refl (fun _ => False) w1).grown hg2 (by simp)
       obtain ⟨w3, hr3, ho3, hu3⟩ := copy_row ho2 (HRS.out.upd hu2 (fun _ _ f => f))
       have hgw := (ho2.lt w1.heap.size rfl).2
       have hu13 : Upd (fun k => k = w1.heap.size) w1 w3 := (hu2.mono (fun _ _ f => f.elim)).trans hu3 (fun _ _ f => f)
       have hl3 := HL1.out.upd hu13 (fun k hk e => by have := HL1.out.lt k hk; omega)
       have c13 : w3.cell? ⟨b, 1, none⟩ = some (.map (some mb)) := cell_at hl3.here 1
       have HL3 := Lib.hid hl3; have HO3 := Lib.hid ho3; have HU13 := Lib.hid hu13; have HR3 := Lib.hid hr3
       clear ho2 hg2 hu2 ho3 hu3 hl3 hu13 hr3)
    | ((with_reducible change wpList _ _ _ (⟨_, Op.call { callee := Callee.builtin Builtin.copy, args := _, argTypes := _ }, _, _, _, _⟩ :: _) _ _); refine wpList_copy_runI _ rfl _ _ 30 30 rfl (.slice (some ⟨w1.heap.size, 0, none⟩) n n) (.slice sa n sc) rfl rfl (HR3.out _) ?_)
    | ((with_reducible change wpList _ _ _ (⟨_, Op.mapUpdate _ _ _ _, _, _, _, _⟩ :: _) _ _); refine wpl_mapUpdate rfl _ _ _ 53 rfl 23 30 kU32 Try.underlying53 mb _ HL3.out.map rfl (.int .u32 a) (.slice (some ⟨w1.heap.size, 0, none⟩) n n) _ (keyLit hw) rfl rfl ?_
       intro w4 hm4 hu4
       have hs14 := HU13.out.size
       have ho4 : w4.ownsRow 0 5 1 (.slice (some ⟨w1.heap.size, 0, none⟩) n n) bs.length (By bs) := by
         rw [hbl]
         exact ownsRow_base (ownsRow_upd HO3.out hu4 (fun k hk e => by have h1 := HOB.out.1 k hk; have h2 := HOB.out.2; omega)) (fun k _ => Nat.zero_le _)
       have hl4 := HL3.out.put a hm4 hu4 ho4 (fun q hq => ⟨fun f => by have h1 := HOB.out.1 q hq; have h2 := HL1.out.lt q f; omega, (ho4.lt q hq).2⟩)
       have hu14 : Upd F1 w1 w4 := (HU13.out.mono (S' := F1) (fun k hk e => by omega)).trans (hu4.mono (S' := F1) (fun k _ e => by rw [e]; exact HL1.out.fmb)) (fun _ _ f => f)
       have HL4 := Lib.hid hl4; have HU14 := Lib.hid hu14
       have HF4 := Lib.hid (show ∀ q, (F1 q ∨ (Value.slice (some ⟨w1.heap.size, 0, none⟩) n n).ownBlock = some q) → F1 q ∨ fresh w1 w4 q from fun q hq => by
         rcases hq with hq | hq
         · exact .inl hq
         · have h1 := HOB.out.1 q hq
           exact .inr ⟨by omega, (ho4.lt q hq).2⟩)
       clear hm4 hu4 ho4 hl4 hu14 hs14))
  refine (first_calls HL4.out a (by show h1.xs.length ≤ 8000; omega)).mono ?_
  rintro e w5 ⟨rfl, ⟨v5, H5⟩, hu5⟩
  obtain ⟨g5, c5, hv5, _, _, _⟩ := owns_pos H5.order (by show 0 < (frontL h1.xs a).length; unfold frontL; simp)
  subst hv5
  have d2 : w5.cell? ⟨b, 2, none⟩ = some (.slice (some ⟨g5, 0, none⟩) (frontL h1.xs a).length c5) := cell_at H5.here 2
  have d0 : w5.cell? ⟨b, 0, none⟩ = some (.int .i64 h1.room) := cell_at H5.here 0
  have HL5 := Lib.hid H5; have HU5 := Lib.hid hu5
  have hT5 : Turned w1 w5 b (keepH h1 a bs) F1 := Turned.comp HU14.out HF4.out ⟨⟨_, fun q hq => hq, ⟨_, _, _, _, _, H5⟩⟩, hu5⟩
  have HT5 := Lib.hid hT5
  clear H5 hu5 hT5
  go_wp2_with fail
  go_region
  by_cases hev : h1.room < (frontL h1.xs a).length
  · have hd : decide (h1.room < ((frontL h1.xs a).length : Int)) = true := decide_eq_true hev
    go_wp2_with fail
    obtain ⟨rN, hrN⟩ : ∃ rN : Nat, h1.room = rN := ⟨h1.room.toNat, by omega⟩
    obtain ⟨nn, hnn⟩ : ∃ nn, nn = (frontL h1.xs a).length := ⟨_, rfl⟩
    have hri : rN < nn := by omega
    obtain ⟨dd, hdd⟩ : ∃ dd, (frontL h1.xs a)[rN]? = some dd := ⟨_, List.getElem?_eq_getElem (by omega)⟩
    have e5 : w5.cell? ⟨g5, rN, none⟩ = some (.int .u32 dd) := owns_cell HL5.out.order (by show (U (frontL h1.xs a))[rN]? = _; simp [hdd])
    have hidx : ∀ w, (Instr.indexAt 44 (.slice (some ⟨g5, 0, none⟩) nn c5) (.int .i64 rN)).run Try.prog w = .ok (.pointer (some ⟨g5, rN, none⟩)) w := fun w => by
      have := run_index_own (P := Try.prog) (size := 1) Try.underlying44 (fun w => by kernel_rfl) (g := g5) (c := c5) hri w
      simpa using this
    have hdm : dd ∈ frontL h1.xs a := List.mem_of_getElem? hdd
    have hdw : (Lit.int .u32 dd).wf = true := by
      unfold frontL at hdm
      rcases List.mem_cons.1 hdm with e | e
      · rw [e]; exact hw
      · exact hxw dd (List.mem_of_mem_erase e)
    have hfin : evict (keepH h1 a bs) = { keepH h1 a bs with xs := (frontL h1.xs a).erase dd, m := setM (keepH h1 a bs).m dd none } := by
      unfold evict
      have : (keepH h1 a bs).xs[(keepH h1 a bs).room.toNat]? = some dd := by
        show (frontL h1.xs a)[h1.room.toNat]? = some dd
        rw [hrN]
        exact hdd
      rw [this]
      rfl
    rw [hrN] at d0
    rw [← hnn] at d2 ⊢
    have hlen8 : (frontL h1.xs a).length ≤ 8000 := Nat.le_trans (frontL_le h1.xs a) (by omega)
    have HE5 := Lib.hid (And.intro hdm (And.intro hdw (And.intro hfin hlen8)))
    clear hdm hdw hfin hdd hlen8 hnn hrN hlen hev hn h0 hxw hd
    refine wp_region_held_drew (S := fun _ => True) rfl trivial (fun hHeld => ?_)
    first
      | (refine held_on 0 rfl (by kernel_rfl) (fun _ _ _ h => h) (by rfl) (by assumption) (v := ?_) ?_ ?_
         rotate_left
         · intro w hS; (try dsimp only at hS); first | (go_simp; done) | (go_simp; with_reducible rfl)
         try simp only [Act.put, List.setIfInBounds_toArray, List.set_cons_zero, List.set_cons_succ])
      | (refine held_off 0 rfl (by kernel_rfl) (fun _ _ _ h => h) (by rfl) (by assumption) ?_
         try simp only [Act.put, List.setIfInBounds_toArray, List.set_cons_zero, List.set_cons_succ])
      | (go_outline; fail "take 0")
    first
      | (refine held_on 1 rfl (by kernel_rfl) (fun _ _ _ h => h) (by rfl) (by assumption) (v := ?_) ?_ ?_
         rotate_left
         · intro w hS; (try dsimp only at hS); first | (go_simp; done) | (go_simp; with_reducible rfl)
         try simp only [Act.put, List.setIfInBounds_toArray, List.set_cons_zero, List.set_cons_succ])
      | (refine held_off 1 rfl (by kernel_rfl) (fun _ _ _ h => h) (by rfl) (by assumption) ?_
         try simp only [Act.put, List.setIfInBounds_toArray, List.set_cons_zero, List.set_cons_succ])
      | (go_outline; fail "take 1")
    first
      | (refine held_on 2 rfl (by kernel_rfl) (fun _ _ _ h => h) (by rfl) (by assumption) (v := ?_) ?_ ?_
         rotate_left
         · intro w hS; (try dsimp only at hS); first | (go_simp; done) | (go_simp; with_reducible rfl)
         try simp only [Act.put, List.setIfInBounds_toArray, List.set_cons_zero, List.set_cons_succ])
      | (refine held_off 2 rfl (by kernel_rfl) (fun _ _ _ h => h) (by rfl) (by assumption) ?_
         try simp only [Act.put, List.setIfInBounds_toArray, List.set_cons_zero, List.set_cons_succ])
      | (go_outline; fail "take 2")
    first
      | (refine held_on 3 rfl (by kernel_rfl) (fun _ _ _ h => h) (by rfl) (by assumption) (v := ?_) ?_ ?_
         rotate_left
         · intro w hS; (try dsimp only at hS); first | (go_simp; done) | (go_simp; with_reducible rfl)
         try simp only [Act.put, List.setIfInBounds_toArray, List.set_cons_zero, List.set_cons_succ])
      | (refine held_off 3 rfl (by kernel_rfl) (fun _ _ _ h => h) (by rfl) (by assumption) ?_
         try simp only [Act.put, List.setIfInBounds_toArray, List.set_cons_zero, List.set_cons_succ])
      | (go_outline; fail "take 3")
    first
      | (refine held_on 5 rfl (by kernel_rfl) (fun _ _ _ h => h) (by rfl) (by assumption) (v := ?_) ?_ ?_
         rotate_left
         · intro w hS; (try dsimp only at hS); first | (go_simp; done) | (go_simp; with_reducible rfl)
         try simp only [Act.put, List.setIfInBounds_toArray, List.set_cons_zero, List.set_cons_succ])
      | (refine held_off 5 rfl (by kernel_rfl) (fun _ _ _ h => h) (by rfl) (by assumption) ?_
         try simp only [Act.put, List.setIfInBounds_toArray, List.set_cons_zero, List.set_cons_succ])
      | (go_outline; fail "take 5")
    first
      | (refine held_on 6 rfl (by kernel_rfl) (fun _ _ _ h => h) (by rfl) (by assumption) (v := ?_) ?_ ?_
         rotate_left
         · intro w hS; (try dsimp only at hS); first | (go_simp; done) | (go_simp; with_reducible rfl)
         try simp only [Act.put, List.setIfInBounds_toArray, List.set_cons_zero, List.set_cons_succ])
      | (refine held_off 6 rfl (by kernel_rfl) (fun _ _ _ h => h) (by rfl) (by assumption) ?_
         try simp only [Act.put, List.setIfInBounds_toArray, List.set_cons_zero, List.set_cons_succ])
      | (go_outline; fail "take 6")
    first
      | (refine held_on 7 rfl (by kernel_rfl) (fun _ _ _ h => h) (by rfl) (by assumption) (v := ?_) ?_ ?_
         rotate_left
         · intro w hS; (try dsimp only at hS); first | (go_simp; done) | (go_simp; with_reducible rfl)
         try simp only [Act.put, List.setIfInBounds_toArray, List.set_cons_zero, List.set_cons_succ])
      | (refine held_off 7 rfl (by kernel_rfl) (fun _ _ _ h => h) (by rfl) (by assumption) ?_
         try simp only [Act.put, List.setIfInBounds_toArray, List.set_cons_zero, List.set_cons_succ])
      | (go_outline; fail "take 7")
    refine wpAnyH_ready (rs := [4, 8]) (by kernel_rfl) (by simp) (AllReadyH.cons rfl (fun K hK => ?_) (AllReadyH.cons rfl (fun K hK => ?_) AllReadyH.nil))
    · go_simp
      refine hK.out _ _ trivial (fun hHeld => ?_)
      clear hK K
      refine wpAnyH_ready (rs := [8]) (by kernel_rfl) (by simp) (AllReadyH.cons rfl (fun K hK => ?_) AllReadyH.nil)
      go_simp
      refine hK.out _ _ trivial (fun hHeld => ?_)
      clear hK K
      first
        | (refine held_on 9 rfl (by kernel_rfl) (fun _ _ _ h => h) (by rfl) (by assumption) (v := ?_) ?_ ?_
           rotate_left
           · intro w hS; (try dsimp only at hS); first | (go_simp; done) | (go_simp; with_reducible rfl)
           try simp only [Act.put, List.setIfInBounds_toArray, List.set_cons_zero, List.set_cons_succ])
        | (refine held_off 9 rfl (by kernel_rfl) (fun _ _ _ h => h) (by rfl) (by assumption) ?_
           try simp only [Act.put, List.setIfInBounds_toArray, List.set_cons_zero, List.set_cons_succ])
        | (go_outline; fail "take 9")
      refine wpAnyH_ready (rs := [10]) (by kernel_rfl) (by simp) (AllReadyH.cons rfl (fun K hK => ?_) AllReadyH.nil)
      go_simp
      refine hK.out _ _ trivial (fun hHeld => ?_)
      clear hK K
      refine wpAnyH_ready (rs := [11]) (by kernel_rfl) (by simp) (AllReadyH.cons rfl (fun K hK => ?_) AllReadyH.nil)
      go_simp
      refine calls_world fun W hW => ?_
      have huW : Upd (fun _ => False) w5 W := by rw [hW]; exact ⟨rfl, rfl, rfl, Nat.le_refl _, fun _ _ _ => rfl⟩
      have HUW := Lib.hid huW
      clear hW huW
      refine (drop_at ⟨_, _, _, _, _, HL5.out.upd HUW.out (fun _ _ f => f)⟩ dd HE5.out.2.1 HE5.out.1 HE5.out.2.2.2).mono ?_
      rintro e w6 ⟨rfl, hT6⟩
      have hT7 : Turned w1 w6 b (evict (keepH h1 a bs)) F1 := by
        rw [HE5.out.2.2.1]
        refine Turned.comp HU14.out HF4.out (Turned.comp HU5.out (fun q hq => hq) (Turned.comp (HUW.out.mono (fun _ _ f => f.elim)) (fun q hq => .inl hq) hT6))
      have HT7 := Lib.hid hT7
      clear hT6 hT7
      go_wp2_with fail
      refine hK.out _ _ trivial (fun hHeld => ?_)
      clear hK K
      refine wpAnyH_done (by kernel_rfl) ?_ _
      go_wp2_with fail
      go_ret
      exact ⟨rfl, (Turned.comp HE.out.1 HE.out.2 HT7.out)⟩
    · go_simp
      refine hK.out _ _ trivial (fun hHeld => ?_)
      clear hK K
      refine wpAnyH_ready (rs := [4]) (by kernel_rfl) (by simp) (AllReadyH.cons rfl (fun K hK => ?_) AllReadyH.nil)
      go_simp
      refine hK.out _ _ trivial (fun hHeld => ?_)
      clear hK K
      first
        | (refine held_on 9 rfl (by kernel_rfl) (fun _ _ _ h => h) (by rfl) (by assumption) (v := ?_) ?_ ?_
           rotate_left
           · intro w hS; (try dsimp only at hS); first | (go_simp; done) | (go_simp; with_reducible rfl)
           try simp only [Act.put, List.setIfInBounds_toArray, List.set_cons_zero, List.set_cons_succ])
        | (refine held_off 9 rfl (by kernel_rfl) (fun _ _ _ h => h) (by rfl) (by assumption) ?_
           try simp only [Act.put, List.setIfInBounds_toArray, List.set_cons_zero, List.set_cons_succ])
        | (go_outline; fail "take 9")
      refine wpAnyH_ready (rs := [10]) (by kernel_rfl) (by simp) (AllReadyH.cons rfl (fun K hK => ?_) AllReadyH.nil)
      go_simp
      refine hK.out _ _ trivial (fun hHeld => ?_)
      clear hK K
      refine wpAnyH_ready (rs := [11]) (by kernel_rfl) (by simp) (AllReadyH.cons rfl (fun K hK => ?_) AllReadyH.nil)
      go_simp
      refine calls_world fun W hW => ?_
      have huW : Upd (fun _ => False) w5 W := by rw [hW]; exact ⟨rfl, rfl, rfl, Nat.le_refl _, fun _ _ _ => rfl⟩
      have HUW := Lib.hid huW
      clear hW huW
      refine (drop_at ⟨_, _, _, _, _, HL5.out.upd HUW.out (fun _ _ f => f)⟩ dd HE5.out.2.1 HE5.out.1 HE5.out.2.2.2).mono ?_
      rintro e w6 ⟨rfl, hT6⟩
      have hT7 : Turned w1 w6 b (evict (keepH h1 a bs)) F1 := by
        rw [HE5.out.2.2.1]
        refine Turned.comp HU14.out HF4.out (Turned.comp HU5.out (fun q hq => hq) (Turned.comp (HUW.out.mono (fun _ _ f => f.elim)) (fun q hq => .inl hq) hT6))
      have HT7 := Lib.hid hT7
      clear hT6 hT7
      go_wp2_with fail
      refine hK.out _ _ trivial (fun hHeld => ?_)
      clear hK K
      refine wpAnyH_done (by kernel_rfl) ?_ _
      go_wp2_with fail
      go_ret
      exact ⟨rfl, (Turned.comp HE.out.1 HE.out.2 HT7.out)⟩
  · have hd : decide (h1.room < ((frontL h1.xs a).length : Int)) = false := decide_eq_false hev
    go_wp2_with fail
    go_ret
    have hno : evict (keepH h1 a bs) = keepH h1 a bs := by
      unfold evict
      have : (keepH h1 a bs).xs[(keepH h1 a bs).room.toNat]? = none := by
        show (frontL h1.xs a)[h1.room.toNat]? = none
        rw [List.getElem?_eq_none]
        omega
      rw [this]
    rw [hno]
    exact ⟨rfl, (Turned.comp HE.out.1 HE.out.2 HT5.out).drew⟩
end Go.Proofs.Ytfpbkofjbnmkeaa
