/- What this text proves: the walk of HotLast. No conditions. -/
import Derived.Test.YtfpbkofjbnmkeaaHotActs
import Derived.Test.YtfpbkofjbnmkeaaRowKit
namespace Go.Proofs.Ytfpbkofjbnmkeaa.hotLast
open Go Go.RowKit Go.Lib
open Go.Proofs Go.Proofs.Ytfpbkofjbnmkeaa
set_option linter.unusedVariables false
set_option linter.unusedSimpArgs false
/-- the map rm tells of every block that is there what was offered last. -/
def Last (rm : List (Value × Value)) (h : Hot) : Prop := ∀ a bs, h.m a = some bs → alook rm (.int .u32 a) = some (.string (strOfNums bs))
theorem alook_aput {m : List (Value × Value)} {x v y : Value} : alook (aput m x v) y = open Classical in if x = y then some v else alook m y := by
  classical
  cases h : alook m x with
  | none =>
    rw [aput_none h]
    unfold alook at h ⊢
    rw [List.find?_append]
    by_cases e : x = y
    · subst e
      have hn : m.find? (fun p => decide (p.1 = x)) = none := by simpa using h
      simp [hn]
    · simp only [if_neg e]
      cases hf : m.find? (fun p => decide (p.1 = y)) with
      | none => simp [e]
      | some q => simp
  | some u =>
    rw [aput_some h]
    unfold alook at h ⊢
    rw [List.find?_map]
    have hq : ((fun p : Value × Value => decide (p.1 = y)) ∘ fun p : Value × Value => if p.1 = x then (x, v) else p) = fun p => decide (p.1 = y) := by
      funext p
      simp only [Function.comp_apply]
      by_cases e : p.1 = x
      · rw [if_pos e, e]
      · rw [if_neg e]
    rw [hq]
    by_cases e : x = y
    · subst e
      rw [if_pos rfl]
      obtain ⟨q, hq, rfl⟩ := Option.map_eq_some_iff.1 h
      have h1 : q.1 = x := by simpa using List.find?_some hq
      rw [hq]
      simp [h1]
    · rw [if_neg e]
      cases hf : m.find? (fun p => decide (p.1 = y)) with
      | none => rfl
      | some q =>
        have h1 : q.1 = y := by simpa using List.find?_some hf
        have h2 : ¬ q.1 = x := fun f => e (f.symm.trans h1)
        simp [h2]
theorem evict_m {h : Hot} {a : Int} {bs : List Int} (he : (evict h).m a = some bs) : h.m a = some bs := by
  unfold evict at he
  split at he
  · have he' : setM h.m _ none a = some bs := he
    unfold setM at he'
    split at he'
    · cases he'
    · exact he'
  · exact he
/-- where a block is kept it is the first one, and no other one is there that was not. -/
theorem offer_kept {h : Hot} (g : h.Good) {a : Int} {bs : List Int} (hk : (offerH h a bs).1 = true) : (∃ zs, (offerH h a bs).2.xs = a :: zs) ∧ ∀ b cs, (offerH h a bs).2.m b = some cs → (b = a ∧ cs = bs) ∨ (b ≠ a ∧ h.m b = some cs) := by
  have key : ∀ h' : Hot, h'.xs = h.xs → h'.m = h.m → h'.room = h.room → 1 ≤ h.room → (∃ zs, (evict (keepH h' a bs)).xs = a :: zs) ∧ ∀ b cs, (evict (keepH h' a bs)).m b = some cs → (b = a ∧ cs = bs) ∨ (b ≠ a ∧ h.m b = some cs) := by
    intro h' e1 e2 e3 hr
    have hx : (keepH h' a bs).xs = frontL h.xs a := by show frontL h'.xs a = _; rw [e1]
    refine ⟨?_, fun b cs hb => ?_⟩
    · unfold evict
      split
      · rename_i d hd
        have hd' : (frontL h.xs a)[h.room.toNat]? = some d := by rw [← hx, ← e3]; exact hd
        have hne : d ≠ a := by
          intro e
          have hnd := nodup_frontL (a := a) g.once
          have h0 : (frontL h.xs a)[0]? = some a := rfl
          rw [e] at hd'
          have := (List.getElem?_inj (by simp [frontL]) hnd).1 (h0.trans hd'.symm)
          omega
        refine ⟨(h.xs.erase a).erase d, ?_⟩
        show (keepH h' a bs).xs.erase d = _
        rw [hx]
        unfold frontL
        rw [List.erase_cons_tail (by simpa using fun e => hne e.symm)]
      · exact ⟨_, hx⟩
    · have h1 := evict_m hb
      have h2 : setM h'.m a (some bs) b = some cs := h1
      unfold setM at h2
      split at h2
      · rename_i e
        injection h2 with h2
        exact .inl ⟨e.symm, h2.symm⟩
      · rename_i e
        rw [e2] at h2
        exact .inr ⟨fun f => e f.symm, h2⟩
  unfold offerH at hk ⊢
  split at hk
  · rename_i hm
    rw [if_pos hm]
    have h1 := List.length_pos_of_mem ((g.keys a).2 hm)
    have h2 := g.len
    exact key h rfl rfl rfl (by omega)
  · rename_i hm
    rw [if_neg hm]
    split at hk
    · rename_i hg
      rw [if_pos hg]
      have := g.room0
      exact key { h with gl := askList h.k h.gl a } rfl rfl rfl (by have := hg.2; omega)
    · cases hk
theorem offer_not {h : Hot} {a : Int} {bs : List Int} (hk : (offerH h a bs).1 = false) : (offerH h a bs).2.m = h.m := by
  unfold offerH at hk ⊢
  split at hk
  · cases hk
  · rename_i hm
    rw [if_neg hm]
    split at hk
    · cases hk
    · rename_i hg
      rw [if_neg hg]
theorem Last.put {rm : List (Value × Value)} {h h' : Hot} (l : Last rm h) {a : Int} {bs : List Int} (hm : ∀ b cs, h'.m b = some cs → (b = a ∧ cs = bs) ∨ (b ≠ a ∧ h.m b = some cs)) : Last (aput rm (.int .u32 a) (.string (strOfNums bs))) h' := by
  classical
  intro b cs hb
  rw [alook_aput]
  by_cases e : a = b
  · subst e
    rw [if_pos rfl]
    rcases hm a cs hb with ⟨_, e⟩ | e
    · rw [e]
    · exact absurd rfl e.1
  · rw [if_neg (fun f => e (by injection f))]
    rcases hm b cs hb with ⟨e1, _⟩ | e1
    · exact absurd e1.symm e
    · exact l b cs e1.2
theorem Last.drop {rm : List (Value × Value)} {h : Hot} (l : Last rm h) {a : Int} : Last rm (dropH h a) := by
  intro b cs hb
  unfold dropH at hb
  split at hb
  · have hb' : setM h.m a none b = some cs := hb
    unfold setM at hb'
    split at hb'
    · cases hb'
    · exact l b cs hb'
  · exact l b cs hb
theorem not_dropH {h : Hot} (g : h.Good) {a : Int} (hm : a ∈ (dropH h a).xs) : False := by
  unfold dropH at hm
  split at hm
  · exact g.once.not_mem_erase hm
  · rename_i e; exact e hm
theorem zeroBool (w : World) : (zeroValue 4).run Try.prog w = .ok (.bool false) w := by kernel_rfl
theorem zeroStr (w : World) : (zeroValue 9).run Try.prog w = .ok (.string ⟨#[]⟩) w := by kernel_rfl
theorem sizeU (w : World) : (sizeOf 23).run Try.prog w = .ok 1 w := by kernel_rfl
def hadP (xs : List Int) (q : Nat) : List (Value × Value) := (xs.take q).map (fun x => (Value.int .u32 x, Value.bool true))
theorem had_none {xs : List Int} {q : Nat} {x : Int} (h : x ∉ xs.take q) : alook (hadP xs q) (.int .u32 x) = none := by
  classical
  unfold alook hadP
  rw [Option.map_eq_none_iff, List.find?_eq_none]
  intro p hp
  obtain ⟨y, hy, rfl⟩ := List.mem_map.1 hp
  simp only [decide_eq_true_eq]
  intro e
  injection e with _ e
  exact h (e ▸ hy)
theorem had_put {xs : List Int} {q : Nat} (hq : q < xs.length) (hn : xs.Nodup) : aput (hadP xs q) (.int .u32 xs[q]) (.bool true) = hadP xs (q + 1) := by
  have h1 : xs[q] ∉ xs.take q := fun f => by
    obtain ⟨i, hi, e⟩ := List.getElem_of_mem f
    simp at hi
    rw [List.getElem_take] at e
    have := (List.getElem_inj hn).1 e
    omega
  rw [aput_none (had_none h1)]
  unfold hadP
  rw [List.take_succ_eq_append_getElem hq, List.map_append]
  rfl
set_option maxRecDepth 20000 in
set_option maxHeartbeats 8000000 in
theorem walk (room known : Int) (acts : List HAct) (v : Value) (w : World) (hr0 : 0 ≤ room) (hr1 : room ≤ 255) (hk0 : 0 ≤ known) (hk1 : known ≤ 255)
    (hv : Reads w 3 v acts.length (acts.flatMap HAct.cells)) (hl : acts.length ≤ maxLen) (hg : ∀ a ∈ acts, a.Good w) :
    Calls Try.prog 5 #[.int .u8 room, .int .u8 known, v] w fun e w' => e = .returned (.bool true) ∧ Below w.heap.size w w' := by
  obtain ⟨B, hB⟩ : ∃ B, B = w.heap.size := ⟨_, rfl⟩
  rw [← hB]
  have HV := Lib.hid hv; clear hv
  have HG := Lib.hid hg; clear hg
  obtain ⟨n, hn⟩ : ∃ n, n = room % 21 := ⟨_, rfl⟩
  obtain ⟨kk, hkk⟩ : ∃ kk, kk = known % 101 := ⟨_, rfl⟩
  have hnb : 0 ≤ n ∧ n ≤ 20 := by omega
  have hkb : 0 ≤ kk ∧ kk ≤ 100 := by omega
  obtain ⟨va, vc, hva⟩ := HV.out.len
  subst hva
  have HN := Lib.hid (And.intro hn hkk); clear hn hkk
  have HB := Lib.hid hB; clear hB
  go_enter Try.func5, Try.ntmps5
  go_wp2_with fail
  refine (shown_calls w).mono ?_
  rintro e w0 ⟨rfl, hu0⟩
  have HU0 := Lib.hid hu0; clear hu0
  go_wp2_with fail
  rw [← HN.out.1, ← HN.out.2]
  refine (new_in w0 n kk (by omega) (by omega) (by omega) (by omega)).mono ?_
  rintro e w1 ⟨b, rfl, I1⟩
  have HI1 := Lib.hid I1; clear I1
  have hmm := @run_makeMap Try.prog
  go_wp2_with fail
  have hmake : Upd (fun _ => False) w1 (w1.alloc (.map #[] 0)) := (Upd.refl _ w1).alloc _
  have hu01 : Upd (fun _ => False) w (w1.alloc (.map #[] 0)) := (HU0.out.trans HI1.out.since (fun _ _ f => f)).trans hmake (fun _ _ f => f)
  have hI0 : InH w0 (w1.alloc (.map #[] 0)) b ⟨n, [], fun _ => none, kk, []⟩ (fun k => k = w1.heap.size) := (HI1.out.other (w' := w1.alloc (.map #[] 0)) (hmake.mono (fun _ _ f => f.elim))).less (fun q hq => .inr ⟨by omega, by rw [size_alloc]; omega⟩)
  have hM0 := MapAt.made w1 Try.prog 23
  have HI0 := Lib.hid (And.intro hI0 hM0)
  clear hmake hI0 hM0
  refine (few_calls _ _ acts (HV.out.upd hu01 (fun _ _ f => f)) hl (fun a ha => (HG.out a ha).upd hu01)).mono ?_
  rintro e w2 ⟨v1, k0, rfl, hred, hk1', hk2, hbs, rfl⟩
  obtain ⟨acts', hacts⟩ : ∃ acts', acts' = acts.take k0 := ⟨_, rfl⟩
  have hlen : acts'.length = k0 := by rw [hacts, List.length_take]; omega
  rw [← hacts] at hred hbs
  rw [← hlen] at hred
  have HV2 : Hid (∀ W, Upd (fun _ => False) w W → Reads W 3 v1 acts'.length (acts'.flatMap HAct.cells)) := Lib.hid (fun W hW => hred W (HV.out.upd hW (fun _ _ f => f)))
  have hle : acts'.length ≤ 200 := by omega
  have HG2 : Hid (∀ a ∈ acts', a.Good w ∧ a.bs.length ≤ 20000) := Lib.hid (fun a ha => ⟨HG.out a (List.mem_of_mem_take (by rw [← hacts]; exact ha)), hbs a ha⟩)
  obtain ⟨va1, vc1, hva1⟩ := (hred w HV.out).len
  subst hva1
  clear hred hacts hlen HV HG hbs hk1' hk2 hu01
  go_wp2_with fail
  obtain ⟨lm, hlm⟩ : ∃ lm, lm = w1.heap.size := ⟨_, rfl⟩
  rw [← hlm] at HI0 ⊢
  clear hlm
  go_loopg [43] acts'.length (fun g i wr => ∃ (k : Nat) (h : Hot) (rm : List (Value × Value)), k + g = acts'.length ∧ i = .int .i64 k ∧ Hid (InH w0 wr b h (fun k => k = lm) ∧ h.Good ∧ h.room = n ∧ MapAt wr Try.prog 23 lm rm ∧ Last rm h))
  case atStart => exact ⟨0, _, [], by simp, rfl, Lib.hid ⟨HI0.out.1, new_good n kk (by omega) (by omega), rfl, HI0.out.2, fun a bs h => by cases h⟩⟩
  case round =>
    obtain ⟨k, h, rm, hk, rfl, HC⟩ := hrel
    obtain ⟨wo, hwo⟩ : ∃ wo, wo = wr := ⟨_, rfl⟩
    subst hwo
    have hsince : Upd (fun _ => False) w wo := HU0.out.trans HC.out.1.since (fun _ _ f => f)
    have HSI := Lib.hid hsince; clear hsince
    by_cases hlt : k < acts'.length
    · obtain ⟨a, hak⟩ : ∃ a, acts'[k] = a := ⟨_, rfl⟩
      have hga := HG2.out a (by rw [← hak]; exact List.getElem_mem _)
      have hc := hacts_cells hlt hak
      obtain ⟨sa, sc, hsv⟩ := hga.1.reads.len
      rw [hsv] at hc
      have hrv : Reads w 1 (.slice sa a.bs.length sc) a.bs.length (By a.bs) := by rw [← hsv]; exact hga.1.reads
      have hlv : a.bs.length ≠ 0 → ∀ q, (Value.slice sa a.bs.length sc).ownBlock = some q → q < w.heap.size := by rw [← hsv]; exact hga.1.lt
      have HK := Lib.hid hc; have HX := Lib.hid hlt; have HGA := Lib.hid hga; have HRV := Lib.hid (And.intro hrv hlv)
      have hkd := wf_u8 hga.1.kind
      have HR : Hid (Reads wo 3 (.slice va1 acts'.length vc1) acts'.length (acts'.flatMap HAct.cells)) := Lib.hid (HV2.out wo HSI.out)
      clear hc hak hga hsv hrv hlv
      have h3 : a.kind % 3 = 0 ∨ a.kind % 3 = 1 ∨ a.kind % 3 = 2 := by omega
      rcases h3 with h3 | h3 | h3
      · go_wp2_with (first
          | ((with_reducible change wpList _ _ _ (⟨_, Op.indexAddr _ _ _, _, _, _, _⟩ :: _) _ _); refine wpl_indexg rfl _ _ _ rfl 32 3 Try.underlying22 sizeHAct (by decide) _ _ _ HR.out rfl k rfl HX.out ?_; intro bk off _ hcell; have c0 := hcell 0 _ HK.out.1; have c1 := hcell 1 _ HK.out.2.1; have c2 := hcell 2 _ HK.out.2.2; clear hcell; simp only [Nat.add_zero] at c0))
        refine calls_world fun W hW => ?_
        have huW : Upd (fun _ => False) wo W := by rw [hW]; exact (Upd.refl _ wo).alloc _
        have hgW : W.heap[wo.heap.size]? = some (.cells #[.int .u8 a.kind, .int .u32 a.addr, .slice sa a.bs.length sc] 32 (0, 0)) := by rw [hW]; exact heap_alloc_last wo _
        have hIW : InH w0 W b h (fun k => k = lm ∨ k = wo.heap.size) := (HC.out.1.other (w' := W) (huW.mono (fun _ _ f => f.elim))).less (fun q hq => hq.imp id (fun e => ⟨by omega, by rw [e]; exact lt_of_at hgW⟩))
        have HW := Lib.hid (And.intro huW (And.intro hgW (And.intro hIW (HC.out.2.2.2.1.upd huW (fun f => f)))))
        clear hW huW hgW hIW
        refine (offer_in HW.out.2.2.1 HC.out.2.1 a.addr HGA.out.1.addr (HRV.out.1.upd (HSI.out.trans HW.out.1 (fun _ _ f => f)) (fun _ _ f => f)) (fun h0 q hq => .inl (Nat.lt_of_lt_of_le (HRV.out.2 h0 q hq) HU0.out.size)) (by have := HGA.out.2; omega)).mono ?_
        rintro e w3 ⟨rfl, I3, hu3⟩
        obtain ⟨h1, hh1⟩ : ∃ h1, h1 = (offerH h a.addr a.bs).2 := ⟨_, rfl⟩
        obtain ⟨kb, hkb⟩ : ∃ kb, kb = (offerH h a.addr a.bs).1 := ⟨_, rfl⟩
        rw [← hh1] at I3
        rw [← hkb]
        have hg1 : h1.Good := by rw [hh1]; exact offer_good HC.out.2.1 HGA.out.1.addr (by have := HGA.out.2; omega)
        have hr1 : h1.room = n := by rw [hh1]; exact (offer_room h a.addr a.bs).1.trans HC.out.2.2.1
        have hg3 : w3.heap[wo.heap.size]? = some (.cells #[.int .u8 a.kind, .int .u32 a.addr, .slice sa a.bs.length sc] 32 (0, 0)) := hu3.at HW.out.2.1 (fun f => f (.inr rfl))
        have HO := Lib.hid (And.intro hh1 (And.intro hkb (And.intro hg1 (And.intro hr1 (And.intro I3 (And.intro hg3 (HW.out.2.2.2.upd hu3 (fun f => f (.inl rfl)))))))))
        clear hh1 hkb hg1 hr1 I3 hu3 hg3
        go_wp2_with fail
        refine (all_in HO.out.2.2.2.2.1 HO.out.2.2.1).mono ?_
        rintro e w4 ⟨v4, rfl, ho4, I4, hb4⟩
        have hg4 : w4.heap[wo.heap.size]? = some (.cells #[.int .u8 a.kind, .int .u32 a.addr, .slice sa a.bs.length sc] 32 (0, 0)) := (below_upd hb4).at HO.out.2.2.2.2.2.1 (fun f => by have := lt_of_at HO.out.2.2.2.2.2.1; omega)
        have hM4 := HO.out.2.2.2.2.2.2.upd (below_upd hb4) (fun f => by have := HO.out.2.2.2.2.2.2.lt; omega)
        have HI4 := Lib.hid (And.intro (I4.less (Y := fun k => k = lm ∨ k = wo.heap.size) (fun q e => .inl e)) (And.intro hg4 hM4))
        have HO4 := Lib.hid (And.intro ho4 (And.intro (show w3.heap.size ≤ w4.heap.size from hb4.size) (HO.out.2.2.2.2.1.since.trans (below_upd hb4) (fun i hi f => by have := HO.out.2.2.2.2.1.size; omega))))
        clear I4 hg4 hM4 hb4
        cases kb
        · have HJ := Lib.hid (show InH w0 w4 b h1 (fun k => k = lm ∨ k = wo.heap.size) ∧ (h1).Good ∧ (h1).room = n ∧ w4.heap[wo.heap.size]? = some (.cells #[.int .u8 a.kind, .int .u32 a.addr, .slice sa a.bs.length sc] 32 (0, 0)) ∧ MapAt w4 Try.prog 23 lm rm ∧ Last rm h1 from
            ⟨HI4.out.1, HO.out.2.2.1, HO.out.2.2.2.1, HI4.out.2.1, HI4.out.2.2, fun x cs hx => HC.out.2.2.2.2 x cs (by have h1 := HO.out.1; have h2 := offer_not HO.out.2.1.symm; rw [h1, h2] at hx; exact hx)⟩)
          obtain ⟨a4, c4, hv4⟩ := (owns_reads ho4).len
          subst hv4
          clear ho4
          have hgj := HJ.out.2.2.2.1
          have d0 : w4.cell? ⟨wo.heap.size, 0, none⟩ = some (.int .u8 a.kind) := cell_at hgj 0
          have d1 : w4.cell? ⟨wo.heap.size, 1, none⟩ = some (.int .u32 a.addr) := cell_at hgj 1
          clear hgj
          have hmake : Upd (fun _ => False) w4 (w4.alloc (.map #[] 0)) := (Upd.refl _ _).alloc _
          have hIm : InH w0 (w4.alloc (.map #[] 0)) b h1 (fun k => (k = lm ∨ k = wo.heap.size) ∨ k = w4.heap.size) := (HJ.out.1.other (w' := w4.alloc (.map #[] 0)) (hmake.mono (fun _ _ f => f.elim))).less (fun q hq => hq.imp id (fun e => ⟨by omega, by rw [size_alloc]; omega⟩))
          have HIM := Lib.hid (And.intro hIm (MapAt.made w4 Try.prog 23))
          clear hIm hmake
          go_wp2_with fail
          refine (all_in HIM.out.1 HJ.out.2.1).mono ?_
          rintro e w8 ⟨v8, rfl, ho8, I8, hb8⟩
          obtain ⟨xs, hxs⟩ : ∃ xs, xs = (h1).xs := ⟨_, rfl⟩
          rw [← hxs] at ho8
          obtain ⟨a8, c8, hv8⟩ := (owns_reads ho8).len
          subst hv8
          have hsz8 := hb8.size
          rw [size_alloc] at hb8 hsz8
          have hxl : (xs.length : Int) ≤ n := by
            have h1 := HJ.out.2.1.len
            have h2 := HJ.out.2.2.1
            rw [h2] at h1
            rw [hxs]
            exact h1
          have h80 : w8.cell? ⟨wo.heap.size, 0, none⟩ = some (.int .u8 a.kind) := (hb8.cell (p := ⟨wo.heap.size, 0, none⟩) (Nat.lt_succ_of_lt (lt_of_at HJ.out.2.2.2.1))).trans (cell_at (at_alloc_old HJ.out.2.2.2.1 _) 0)
          have h81 : w8.cell? ⟨wo.heap.size, 1, none⟩ = some (.int .u32 a.addr) := (hb8.cell (p := ⟨wo.heap.size, 1, none⟩) (Nat.lt_succ_of_lt (lt_of_at HJ.out.2.2.2.1))).trans (cell_at (at_alloc_old HJ.out.2.2.2.1 _) 1)
          have H8 := Lib.hid (And.intro (owns_reads ho8) (And.intro I8 (And.intro (HIM.out.2.upd (below_upd hb8) (fun f => by omega)) (And.intro h80 (And.intro h81 (show (w4.heap.size + 1 ≤ w8.heap.size) ∧ wo.heap.size < w4.heap.size ∧ lm < w4.heap.size from ⟨hsz8, lt_of_at HJ.out.2.2.2.1, HJ.out.2.2.2.2.1.lt⟩))))))
          have HXS := Lib.hid (And.intro hxs (show xs.Nodup from by rw [hxs]; exact HJ.out.2.1.once))
          have HM8 := Lib.hid (HJ.out.2.2.2.2.1.upd ((Upd.refl (fun _ => False) w4).alloc (.map #[] 0)) (fun f => f) |>.upd (below_upd hb8) (fun f => by have := H8.out.2.2.2.2.2.2.2; omega))
          have hl8 : xs.length ≤ 20 := by omega
          have HFR := Lib.hid (show ∀ g, (Value.slice a8 xs.length c8).ownBlock = some g → g ≠ w4.heap.size from fun g hg e => by have := (ho8.lt g hg).1; rw [size_alloc] at this; omega)
          clear ho8 I8 hb8 hsz8 h80 h81 hxs d0 d1
          go_wp2_with fail
          obtain ⟨hm8, hhm⟩ : ∃ hm8, hm8 = w4.heap.size := ⟨_, rfl⟩
          rw [show w4.heap.size = hm8 from hhm.symm]
          rw [← hhm] at H8 HFR
          clear hhm
          go_loopg [114] xs.length (fun g i wz => ∃ (q : Nat), q + g = xs.length ∧ i = .int .i64 q ∧ Hid (MapAt wz Try.prog 23 hm8 (hadP xs q) ∧ Upd (fun k => k = hm8) w8 wz))
          case atStart => exact ⟨0, by simp, rfl, Lib.hid ⟨H8.out.2.2.1, Upd.refl _ _⟩⟩
          case round =>
            obtain ⟨q, hq, rfl, HQ⟩ := hrel
            by_cases hqx : q < xs.length
            · have hwx : (Lit.int .u32 xs[q]).wf = true := HJ.out.2.1.wf _ (by rw [← HXS.out.1]; exact List.getElem_mem _)
              have hnx : xs[q] ∉ xs.take q := fun f => by
                obtain ⟨i, hi, e⟩ := List.getElem_of_mem f
                simp at hi
                rw [List.getElem_take] at e
                have := (List.getElem_inj HXS.out.2).1 e
                omega
              have hx : (U xs)[q]? = some (.int .u32 xs[q]) := by simp [hqx]
              have hlk := had_none hnx
              have hpp := had_put hqx HXS.out.2
              obtain ⟨x, hxx⟩ : ∃ x, x = xs[q] := ⟨_, rfl⟩
              rw [← hxx] at hwx hx hlk hpp
              have HP := Lib.hid (And.intro hwx (And.intro hx (And.intro hlk hpp)))
              have HQX := Lib.hid (And.intro hqx hq)
              have HRR : Hid (Reads wr 1 (.slice a8 xs.length c8) xs.length (U xs)) := Lib.hid (H8.out.1.upd0 HQ.out.2 (fun h0 g hg e => HFR.out g hg e))
              clear hwx hx hlk hpp hxx hnx hq
              go_wp2_with (first
                | ((with_reducible change wpList _ _ _ (⟨_, Op.indexAddr _ _ _, _, _, _, _⟩ :: _) _ _); refine wpl_indexg rfl _ _ _ rfl 23 1 Try.underlying44 sizeU (by decide) _ _ _ HRR.out rfl q rfl HQX.out.1 ?_; intro bk off _ hcell; have c0 := hcell 0 (.int .u32 x) (by rw [Nat.mul_one, Nat.add_zero]; exact HP.out.2.1); clear hcell; simp only [Nat.add_zero] at c0)
                | ((with_reducible change wpList _ _ _ (⟨_, Op.lookup _ _ _ _, _, _, _, _⟩ :: _) _ _); refine wpl_lookupg rfl _ _ rfl kU32 Try.underlying48 (.bool false) (zeroBool _) HQ.out.1 rfl (.int .u32 x) _ (keyLit HP.out.1) rfl (.bool false) (by rw [HP.out.2.2.1]; rfl) ?_)
                | ((with_reducible change wpList _ _ _ (⟨_, Op.mapUpdate _ _ _ _, _, _, _, _⟩ :: _) _ _); refine wpl_mapUpdate rfl _ _ _ 48 rfl 23 _ kU32 Try.underlying48 hm8 _ HQ.out.1 rfl (.int .u32 x) (.bool true) _ (keyLit HP.out.1) rfl rfl ?_; intro w9 hm9 hu9; have HQ9 := Lib.hid (And.intro hm9 (HQ.out.2.trans hu9 (fun _ _ f => f))); clear hm9 hu9))
              go_roundg (gk - 1)
              case measure => have := HQX.out; omega
              case rel => exact ⟨q + 1, by have := HQX.out; omega, by go_num, Lib.hid ⟨by rw [← HP.out.2.2.2]; exact HQ9.out.1, HQ9.out.2⟩⟩
            · have hq' : q = xs.length := by omega
              have hlen : ((hadP xs q).length : Int) = xs.length := by unfold hadP; rw [hq']; simp
              have hgt : decide (n < (xs.length : Int)) = false := decide_eq_false (by omega)
              have hrl := HQ.out.1.len Try.underlying48 3
              rw [hlen] at hrl
              have hne8 : wo.heap.size ≠ hm8 := by have := H8.out.2.2.2.2.2; omega
              have e0 : wr.cell? ⟨wo.heap.size, 0, none⟩ = some (.int .u8 a.kind) := HQ.out.2.cell H8.out.2.2.2.1 (fun f => hne8 f)
              have e1 : wr.cell? ⟨wo.heap.size, 1, none⟩ = some (.int .u32 a.addr) := HQ.out.2.cell H8.out.2.2.2.2.1 (fun f => hne8 f)
              have hI := (H8.out.2.1.other (w' := wr) (HQ.out.2.mono (fun i _ e => .inl (.inr (by rw [e]))))).less (Y := fun k => k = lm) (fun g e => .inl (.inl (.inl (.inl e))))
              have hMl := HM8.out.upd HQ.out.2 (fun f => by have := H8.out.2.2.2.2.2; omega)
              have HFIN := Lib.hid (And.intro hI hMl)
              clear hlen hq' hI hMl
              skip
              go_wp2_with (first
                | ((with_reducible change wpList _ _ _ (⟨_, Op.lookup _ _ _ _, _, _, _, _⟩ :: _) _ _); refine wpl_lookupg rfl _ _ rfl kU32 Try.underlying48 (.bool false) (zeroBool _) HQ.out.1 rfl (.int .u32 a.addr) _ (keyLit HGA.out.1.addr) rfl (.bool false) (by rw [HNO.out]; rfl) ?_))
              go_roundg (acts'.length - (k + 1))
              case measure => have := HX.out; omega
              case rel => exact ⟨k + 1, h1, rm, by have := HX.out; omega, by go_num, Lib.hid ⟨HFIN.out.1, HJ.out.2.1, HJ.out.2.2.1, HFIN.out.2, HJ.out.2.2.2.2.2⟩⟩
        · have hkp := offer_kept HC.out.2.1 HO.out.2.1.symm
          rw [← HO.out.1] at hkp
          obtain ⟨⟨zs, hzs⟩, hkm⟩ := hkp
          obtain ⟨L1, hL1⟩ : ∃ L1, L1 = h1.xs.length := ⟨_, rfl⟩
          obtain ⟨g4, c4, hv4, _, _, _⟩ := owns_pos ho4 (by rw [hzs]; simp)
          subst hv4
          have hL1p : 0 < L1 := by rw [hL1, hzs]; simp
          have hL0 : ((L1 : Int) == 0) = false := by simpa using (by omega : ¬ L1 = 0)
          have e4 : w4.cell? ⟨g4, 0, none⟩ = some (.int .u32 a.addr) := owns_cell ho4 (by rw [hzs]; rfl)
          have hg4l := (ho4.lt g4 rfl)
          have hcv4 : (convert 30 9 (.slice sa a.bs.length sc)).run Try.prog w4 = .ok (.string (strOfNums a.bs)) w4 := conv_string (HRV.out.1.upd (HU0.out.trans HO4.out.2.2 (fun _ _ f => f)) (fun _ _ f => f))
          have d41 : w4.cell? ⟨wo.heap.size, 1, none⟩ = some (.int .u32 a.addr) := cell_at HI4.out.2.1 1
          have d42 : w4.cell? ⟨wo.heap.size, 2, none⟩ = some (.slice sa a.bs.length sc) := cell_at HI4.out.2.1 2
          have hidx : ∀ w, (Instr.indexAt 44 (.slice (some ⟨g4, 0, none⟩) L1 c4) (.int .i64 0)).run Try.prog w = .ok (.pointer (some ⟨g4, 0, none⟩)) w := fun w => by
            have := run_index_own (P := Try.prog) (size := 1) Try.underlying44 (fun w => by kernel_rfl) (g := g4) (c := c4) hL1p w
            simpa using this
          have HZ := Lib.hid (And.intro hkm (And.intro e4 hg4l))
          rw [← hL1]
          clear hkm e4 hg4l ho4 hzs hL1 hL1p
          go_wp2_with (first
            | ((with_reducible change wpList _ _ _ (⟨_, Op.mapUpdate _ _ _ _, _, _, _, _⟩ :: _) _ _); refine wpl_mapUpdate rfl _ _ _ 47 rfl 23 _ kU32 Try.underlying47 lm _ HI4.out.2.2 rfl (.int .u32 a.addr) (.string (strOfNums a.bs)) _ (keyLit HGA.out.1.addr) rfl rfl ?_
               intro w5 hm5 hu5
               have HM5 := Lib.hid (And.intro hm5 hu5)
               clear hm5 hu5))
          have hne5 : wo.heap.size ≠ lm ∧ g4 ≠ lm := ⟨fun e => by have h1 := HC.out.2.2.2.1.lt; omega, fun e => by have h1 := HO.out.2.2.2.2.2.2.lt; have h2 := HZ.out.2.2.1; omega⟩
          have e51 : w5.cell? ⟨wo.heap.size, 1, none⟩ = some (.int .u32 a.addr) := HM5.out.2.cell d41 (fun f => hne5.1 f)
          have e5g : w5.cell? ⟨g4, 0, none⟩ = some (.int .u32 a.addr) := HM5.out.2.cell HZ.out.2.1 (fun f => hne5.2 f)
          have hg5 := HM5.out.2.at HI4.out.2.1 hne5.1
          clear d41 d42 hcv4 hne5
          refine wp_region_held_drew (S := fun w' => w'.cell? ⟨wo.heap.size, 1, none⟩ = some (.int .u32 a.addr) ∧ w'.cell? ⟨g4, 0, none⟩ = some (.int .u32 a.addr)) rfl ⟨e51, e5g⟩ (fun hHeld => ?_)
          clear e51 e5g
          first
            | (refine held_on 0 rfl (by kernel_rfl) (fun _ _ _ h => h) (by rfl) (by assumption) (v := ?_) ?_ ?_
               rotate_left
               · intro w hS; (try dsimp only at hS); first | (go_simp; done) | (go_simp; with_reducible rfl)
               try simp only [Act.put, List.setIfInBounds_toArray, List.set_cons_zero, List.set_cons_succ])
            | (refine held_off 0 rfl (by kernel_rfl) (fun _ _ _ h => h) (by rfl) (by assumption) ?_
               try simp only [Act.put, List.setIfInBounds_toArray, List.set_cons_zero, List.set_cons_succ])
            | (go_outline; fail "take 0")
          first
            | (refine held_on 1 rfl (by kernel_rfl) (fun _ _ _ h => h) (by rfl) (by assumption) (v := ?_) ?_ ?_
               rotate_left
               · intro w hS; (try dsimp only at hS); first | (go_simp; done) | (go_simp; with_reducible rfl)
               try simp only [Act.put, List.setIfInBounds_toArray, List.set_cons_zero, List.set_cons_succ])
            | (refine held_off 1 rfl (by kernel_rfl) (fun _ _ _ h => h) (by rfl) (by assumption) ?_
               try simp only [Act.put, List.setIfInBounds_toArray, List.set_cons_zero, List.set_cons_succ])
            | (go_outline; fail "take 1")
          first
            | (refine held_on 2 rfl (by kernel_rfl) (fun _ _ _ h => h) (by rfl) (by assumption) (v := ?_) ?_ ?_
               rotate_left
               · intro w hS; (try dsimp only at hS); first | (go_simp; done) | (go_simp; with_reducible rfl)
               try simp only [Act.put, List.setIfInBounds_toArray, List.set_cons_zero, List.set_cons_succ])
            | (refine held_off 2 rfl (by kernel_rfl) (fun _ _ _ h => h) (by rfl) (by assumption) ?_
               try simp only [Act.put, List.setIfInBounds_toArray, List.set_cons_zero, List.set_cons_succ])
            | (go_outline; fail "take 2")
          first
            | (refine held_on 3 rfl (by kernel_rfl) (fun _ _ _ h => h) (by rfl) (by assumption) (v := ?_) ?_ ?_
               rotate_left
               · intro w hS; (try dsimp only at hS); first | (go_simp; done) | (go_simp; with_reducible rfl)
               try simp only [Act.put, List.setIfInBounds_toArray, List.set_cons_zero, List.set_cons_succ])
            | (refine held_off 3 rfl (by kernel_rfl) (fun _ _ _ h => h) (by rfl) (by assumption) ?_
               try simp only [Act.put, List.setIfInBounds_toArray, List.set_cons_zero, List.set_cons_succ])
            | (go_outline; fail "take 3")
          first
            | (refine held_on 4 rfl (by kernel_rfl) (fun _ _ _ h => h) (by rfl) (by assumption) (v := ?_) ?_ ?_
               rotate_left
               · intro w hS; (try dsimp only at hS); first | (go_simp; done) | (go_simp; with_reducible rfl)
               try simp only [Act.put, List.setIfInBounds_toArray, List.set_cons_zero, List.set_cons_succ])
            | (refine held_off 4 rfl (by kernel_rfl) (fun _ _ _ h => h) (by rfl) (by assumption) ?_
               try simp only [Act.put, List.setIfInBounds_toArray, List.set_cons_zero, List.set_cons_succ])
            | (go_outline; fail "take 4")
          first
            | (refine held_on 5 rfl (by kernel_rfl) (fun _ _ _ h => h) (by rfl) (by assumption) (v := ?_) ?_ ?_
               rotate_left
               · intro w hS; (try dsimp only at hS); first | (go_simp; done) | (go_simp; with_reducible rfl)
               try simp only [Act.put, List.setIfInBounds_toArray, List.set_cons_zero, List.set_cons_succ])
            | (refine held_off 5 rfl (by kernel_rfl) (fun _ _ _ h => h) (by rfl) (by assumption) ?_
               try simp only [Act.put, List.setIfInBounds_toArray, List.set_cons_zero, List.set_cons_succ])
            | (go_outline; fail "take 5")
          first
            | (refine held_on 6 rfl (by kernel_rfl) (fun _ _ _ h => h) (by rfl) (by assumption) (v := ?_) ?_ ?_
               rotate_left
               · intro w hS; (try dsimp only at hS); first | (go_simp; done) | (go_simp; with_reducible rfl)
               try simp only [Act.put, List.setIfInBounds_toArray, List.set_cons_zero, List.set_cons_succ])
            | (refine held_off 6 rfl (by kernel_rfl) (fun _ _ _ h => h) (by rfl) (by assumption) ?_
               try simp only [Act.put, List.setIfInBounds_toArray, List.set_cons_zero, List.set_cons_succ])
            | (go_outline; fail "take 6")
          first
            | (refine held_on 7 rfl (by kernel_rfl) (fun _ _ _ h => h) (by rfl) (by assumption) (v := ?_) ?_ ?_
               rotate_left
               · intro w hS; (try dsimp only at hS); first | (go_simp; done) | (go_simp; with_reducible rfl)
               try simp only [Act.put, List.setIfInBounds_toArray, List.set_cons_zero, List.set_cons_succ])
            | (refine held_off 7 rfl (by kernel_rfl) (fun _ _ _ h => h) (by rfl) (by assumption) ?_
               try simp only [Act.put, List.setIfInBounds_toArray, List.set_cons_zero, List.set_cons_succ])
            | (go_outline; fail "take 7")
          first
            | (refine held_on 8 rfl (by kernel_rfl) (fun _ _ _ h => h) (by rfl) (by assumption) (v := ?_) ?_ ?_
               rotate_left
               · intro w hS; (try dsimp only at hS); first | (go_simp; done) | (go_simp; with_reducible rfl)
               try simp only [Act.put, List.setIfInBounds_toArray, List.set_cons_zero, List.set_cons_succ])
            | (refine held_off 8 rfl (by kernel_rfl) (fun _ _ _ h => h) (by rfl) (by assumption) ?_
               try simp only [Act.put, List.setIfInBounds_toArray, List.set_cons_zero, List.set_cons_succ])
            | (go_outline; fail "take 8")
          first
            | (refine held_on 9 rfl (by kernel_rfl) (fun _ _ _ h => h) (by rfl) (by assumption) (v := ?_) ?_ ?_
               rotate_left
               · intro w hS; (try dsimp only at hS); first | (go_simp; done) | (go_simp; with_reducible rfl)
               try simp only [Act.put, List.setIfInBounds_toArray, List.set_cons_zero, List.set_cons_succ])
            | (refine held_off 9 rfl (by kernel_rfl) (fun _ _ _ h => h) (by rfl) (by assumption) ?_
               try simp only [Act.put, List.setIfInBounds_toArray, List.set_cons_zero, List.set_cons_succ])
            | (go_outline; fail "take 9")
          first
            | (refine held_on 10 rfl (by kernel_rfl) (fun _ _ _ h => h) (by rfl) (by assumption) (v := ?_) ?_ ?_
               rotate_left
               · intro w hS; (try dsimp only at hS); first | (go_simp; done) | (go_simp; with_reducible rfl)
               try simp only [Act.put, List.setIfInBounds_toArray, List.set_cons_zero, List.set_cons_succ])
            | (refine held_off 10 rfl (by kernel_rfl) (fun _ _ _ h => h) (by rfl) (by assumption) ?_
               try simp only [Act.put, List.setIfInBounds_toArray, List.set_cons_zero, List.set_cons_succ])
            | (go_outline; fail "take 10")
          refine wpAnyH_done (by kernel_rfl) ?_ _
          have hI5 := (HI4.out.1.other (w' := w5) (HM5.out.2.mono (fun i _ e => .inl e))).less (Y := fun k => k = lm ∨ k = wo.heap.size) (fun q e => .inl e)
          have HJ := Lib.hid (show InH w0 w5.drew b h1 (fun k => k = lm ∨ k = wo.heap.size) ∧ (h1).Good ∧ (h1).room = n ∧ w5.drew.heap[wo.heap.size]? = some (.cells #[.int .u8 a.kind, .int .u32 a.addr, .slice sa a.bs.length sc] 32 (0, 0)) ∧ MapAt w5.drew Try.prog 23 lm (aput rm (.int .u32 a.addr) (.string (strOfNums a.bs))) ∧ Last (aput rm (.int .u32 a.addr) (.string (strOfNums a.bs))) h1 from
            ⟨hI5.upd (Upd.refl _ w5).drew, HO.out.2.2.1, HO.out.2.2.2.1, hg5, HM5.out.1.drew, HC.out.2.2.2.2.put HZ.out.1⟩)
          clear hI5 hg5 hidx hL0
          have hgj := HJ.out.2.2.2.1
          have d0 : w5.drew.cell? ⟨wo.heap.size, 0, none⟩ = some (.int .u8 a.kind) := cell_at hgj 0
          have d1 : w5.drew.cell? ⟨wo.heap.size, 1, none⟩ = some (.int .u32 a.addr) := cell_at hgj 1
          clear hgj
          have hmake : Upd (fun _ => False) w5.drew (w5.drew.alloc (.map #[] 0)) := (Upd.refl _ _).alloc _
          have hIm : InH w0 (w5.drew.alloc (.map #[] 0)) b h1 (fun k => (k = lm ∨ k = wo.heap.size) ∨ k = w5.drew.heap.size) := (HJ.out.1.other (w' := w5.drew.alloc (.map #[] 0)) (hmake.mono (fun _ _ f => f.elim))).less (fun q hq => hq.imp id (fun e => ⟨by omega, by rw [size_alloc]; omega⟩))
          have HIM := Lib.hid (And.intro hIm (MapAt.made w5.drew Try.prog 23))
          clear hIm hmake
          go_wp2_with fail
          refine (all_in HIM.out.1 HJ.out.2.1).mono ?_
          rintro e w8 ⟨v8, rfl, ho8, I8, hb8⟩
          obtain ⟨xs, hxs⟩ : ∃ xs, xs = (h1).xs := ⟨_, rfl⟩
          rw [← hxs] at ho8
          obtain ⟨a8, c8, hv8⟩ := (owns_reads ho8).len
          subst hv8
          have hsz8 := hb8.size
          rw [size_alloc] at hb8 hsz8
          have hxl : (xs.length : Int) ≤ n := by
            have h1 := HJ.out.2.1.len
            have h2 := HJ.out.2.2.1
            rw [h2] at h1
            rw [hxs]
            exact h1
          have h80 : w8.cell? ⟨wo.heap.size, 0, none⟩ = some (.int .u8 a.kind) := (hb8.cell (p := ⟨wo.heap.size, 0, none⟩) (Nat.lt_succ_of_lt (lt_of_at HJ.out.2.2.2.1))).trans (cell_at (at_alloc_old HJ.out.2.2.2.1 _) 0)
          have h81 : w8.cell? ⟨wo.heap.size, 1, none⟩ = some (.int .u32 a.addr) := (hb8.cell (p := ⟨wo.heap.size, 1, none⟩) (Nat.lt_succ_of_lt (lt_of_at HJ.out.2.2.2.1))).trans (cell_at (at_alloc_old HJ.out.2.2.2.1 _) 1)
          have H8 := Lib.hid (And.intro (owns_reads ho8) (And.intro I8 (And.intro (HIM.out.2.upd (below_upd hb8) (fun f => by omega)) (And.intro h80 (And.intro h81 (show (w5.drew.heap.size + 1 ≤ w8.heap.size) ∧ wo.heap.size < w5.drew.heap.size ∧ lm < w5.drew.heap.size from ⟨hsz8, lt_of_at HJ.out.2.2.2.1, HJ.out.2.2.2.2.1.lt⟩))))))
          have HXS := Lib.hid (And.intro hxs (show xs.Nodup from by rw [hxs]; exact HJ.out.2.1.once))
          have HM8 := Lib.hid (HJ.out.2.2.2.2.1.upd ((Upd.refl (fun _ => False) w5.drew).alloc (.map #[] 0)) (fun f => f) |>.upd (below_upd hb8) (fun f => by have := H8.out.2.2.2.2.2.2.2; omega))
          have hl8 : xs.length ≤ 20 := by omega
          have HFR := Lib.hid (show ∀ g, (Value.slice a8 xs.length c8).ownBlock = some g → g ≠ w5.drew.heap.size from fun g hg e => by have := (ho8.lt g hg).1; rw [size_alloc] at this; omega)
          clear ho8 I8 hb8 hsz8 h80 h81 hxs d0 d1
          go_wp2_with fail
          obtain ⟨hm8, hhm⟩ : ∃ hm8, hm8 = w5.drew.heap.size := ⟨_, rfl⟩
          rw [show w5.heap.size = hm8 from hhm.symm]
          rw [← hhm] at H8 HFR
          clear hhm
          go_loopg [114] xs.length (fun g i wz => ∃ (q : Nat), q + g = xs.length ∧ i = .int .i64 q ∧ Hid (MapAt wz Try.prog 23 hm8 (hadP xs q) ∧ Upd (fun k => k = hm8) w8 wz))
          case atStart => exact ⟨0, by simp, rfl, Lib.hid ⟨H8.out.2.2.1, Upd.refl _ _⟩⟩
          case round =>
            obtain ⟨q, hq, rfl, HQ⟩ := hrel
            by_cases hqx : q < xs.length
            · have hwx : (Lit.int .u32 xs[q]).wf = true := HJ.out.2.1.wf _ (by rw [← HXS.out.1]; exact List.getElem_mem _)
              have hnx : xs[q] ∉ xs.take q := fun f => by
                obtain ⟨i, hi, e⟩ := List.getElem_of_mem f
                simp at hi
                rw [List.getElem_take] at e
                have := (List.getElem_inj HXS.out.2).1 e
                omega
              have hx : (U xs)[q]? = some (.int .u32 xs[q]) := by simp [hqx]
              have hlk := had_none hnx
              have hpp := had_put hqx HXS.out.2
              obtain ⟨x, hxx⟩ : ∃ x, x = xs[q] := ⟨_, rfl⟩
              rw [← hxx] at hwx hx hlk hpp
              have HP := Lib.hid (And.intro hwx (And.intro hx (And.intro hlk hpp)))
              have HQX := Lib.hid (And.intro hqx hq)
              have HRR : Hid (Reads wr 1 (.slice a8 xs.length c8) xs.length (U xs)) := Lib.hid (H8.out.1.upd0 HQ.out.2 (fun h0 g hg e => HFR.out g hg e))
              clear hwx hx hlk hpp hxx hnx hq
              go_wp2_with (first
                | ((with_reducible change wpList _ _ _ (⟨_, Op.indexAddr _ _ _, _, _, _, _⟩ :: _) _ _); refine wpl_indexg rfl _ _ _ rfl 23 1 Try.underlying44 sizeU (by decide) _ _ _ HRR.out rfl q rfl HQX.out.1 ?_; intro bk off _ hcell; have c0 := hcell 0 (.int .u32 x) (by rw [Nat.mul_one, Nat.add_zero]; exact HP.out.2.1); clear hcell; simp only [Nat.add_zero] at c0)
                | ((with_reducible change wpList _ _ _ (⟨_, Op.lookup _ _ _ _, _, _, _, _⟩ :: _) _ _); refine wpl_lookupg rfl _ _ rfl kU32 Try.underlying48 (.bool false) (zeroBool _) HQ.out.1 rfl (.int .u32 x) _ (keyLit HP.out.1) rfl (.bool false) (by rw [HP.out.2.2.1]; rfl) ?_)
                | ((with_reducible change wpList _ _ _ (⟨_, Op.mapUpdate _ _ _ _, _, _, _, _⟩ :: _) _ _); refine wpl_mapUpdate rfl _ _ _ 48 rfl 23 _ kU32 Try.underlying48 hm8 _ HQ.out.1 rfl (.int .u32 x) (.bool true) _ (keyLit HP.out.1) rfl rfl ?_; intro w9 hm9 hu9; have HQ9 := Lib.hid (And.intro hm9 (HQ.out.2.trans hu9 (fun _ _ f => f))); clear hm9 hu9))
              go_roundg (gk - 1)
              case measure => have := HQX.out; omega
              case rel => exact ⟨q + 1, by have := HQX.out; omega, by go_num, Lib.hid ⟨by rw [← HP.out.2.2.2]; exact HQ9.out.1, HQ9.out.2⟩⟩
            · have hq' : q = xs.length := by omega
              have hlen : ((hadP xs q).length : Int) = xs.length := by unfold hadP; rw [hq']; simp
              have hgt : decide (n < (xs.length : Int)) = false := decide_eq_false (by omega)
              have hrl := HQ.out.1.len Try.underlying48 3
              rw [hlen] at hrl
              have hne8 : wo.heap.size ≠ hm8 := by have := H8.out.2.2.2.2.2; omega
              have e0 : wr.cell? ⟨wo.heap.size, 0, none⟩ = some (.int .u8 a.kind) := HQ.out.2.cell H8.out.2.2.2.1 (fun f => hne8 f)
              have e1 : wr.cell? ⟨wo.heap.size, 1, none⟩ = some (.int .u32 a.addr) := HQ.out.2.cell H8.out.2.2.2.2.1 (fun f => hne8 f)
              have hI := (H8.out.2.1.other (w' := wr) (HQ.out.2.mono (fun i _ e => .inl (.inr (by rw [e]))))).less (Y := fun k => k = lm) (fun g e => .inl (.inl (.inl (.inl e))))
              have hMl := HM8.out.upd HQ.out.2 (fun f => by have := H8.out.2.2.2.2.2; omega)
              have HFIN := Lib.hid (And.intro hI hMl)
              clear hlen hq' hI hMl
              skip
              go_wp2_with (first
                | ((with_reducible change wpList _ _ _ (⟨_, Op.lookup _ _ _ _, _, _, _, _⟩ :: _) _ _); refine wpl_lookupg rfl _ _ rfl kU32 Try.underlying48 (.bool false) (zeroBool _) HQ.out.1 rfl (.int .u32 a.addr) _ (keyLit HGA.out.1.addr) rfl (.bool false) (by rw [HNO.out]; rfl) ?_))
              go_roundg (acts'.length - (k + 1))
              case measure => have := HX.out; omega
              case rel => exact ⟨k + 1, h1, (aput rm (.int .u32 a.addr) (.string (strOfNums a.bs))), by have := HX.out; omega, by go_num, Lib.hid ⟨HFIN.out.1, HJ.out.2.1, HJ.out.2.2.1, HFIN.out.2, HJ.out.2.2.2.2.2⟩⟩
      · go_wp2_with (first
          | ((with_reducible change wpList _ _ _ (⟨_, Op.indexAddr _ _ _, _, _, _, _⟩ :: _) _ _); refine wpl_indexg rfl _ _ _ rfl 32 3 Try.underlying22 sizeHAct (by decide) _ _ _ HR.out rfl k rfl HX.out ?_; intro bk off _ hcell; have c0 := hcell 0 _ HK.out.1; have c1 := hcell 1 _ HK.out.2.1; have c2 := hcell 2 _ HK.out.2.2; clear hcell; simp only [Nat.add_zero] at c0))
        refine calls_world fun W hW => ?_
        have huW : Upd (fun _ => False) wo W := by rw [hW]; exact (Upd.refl _ wo).alloc _
        have hgW : W.heap[wo.heap.size]? = some (.cells #[.int .u8 a.kind, .int .u32 a.addr, .slice sa a.bs.length sc] 32 (0, 0)) := by rw [hW]; exact heap_alloc_last wo _
        have hIW : InH w0 W b h (fun k => k = lm ∨ k = wo.heap.size) := (HC.out.1.other (w' := W) (huW.mono (fun _ _ f => f.elim))).less (fun q hq => hq.imp id (fun e => ⟨by omega, by rw [e]; exact lt_of_at hgW⟩))
        have HW := Lib.hid (And.intro huW (And.intro hgW (And.intro hIW (HC.out.2.2.2.1.upd huW (fun f => f)))))
        clear hW huW hgW hIW
        cases hm : h.m a.addr with
        | none =>
          refine (getin_none HW.out.2.2.1 a.addr HGA.out.1.addr hm).mono ?_
          rintro e w3 ⟨rfl, I3, hu3⟩
          have HJ := Lib.hid (show InH w0 w3 b h (fun k => k = lm ∨ k = wo.heap.size) ∧ (h).Good ∧ (h).room = n ∧ w3.heap[wo.heap.size]? = some (.cells #[.int .u8 a.kind, .int .u32 a.addr, .slice sa a.bs.length sc] 32 (0, 0)) ∧ MapAt w3 Try.prog 23 lm rm ∧ Last rm h from
            ⟨I3, HC.out.2.1, HC.out.2.2.1, hu3.at HW.out.2.1 (fun f => f (.inr rfl)), HW.out.2.2.2.upd hu3 (fun f => f (.inl rfl)), HC.out.2.2.2.2⟩)
          clear I3 hu3 hm
          have hgj := HJ.out.2.2.2.1
          have d0 : w3.cell? ⟨wo.heap.size, 0, none⟩ = some (.int .u8 a.kind) := cell_at hgj 0
          have d1 : w3.cell? ⟨wo.heap.size, 1, none⟩ = some (.int .u32 a.addr) := cell_at hgj 1
          clear hgj
          have hmake : Upd (fun _ => False) w3 (w3.alloc (.map #[] 0)) := (Upd.refl _ _).alloc _
          have hIm : InH w0 (w3.alloc (.map #[] 0)) b h (fun k => (k = lm ∨ k = wo.heap.size) ∨ k = w3.heap.size) := (HJ.out.1.other (w' := w3.alloc (.map #[] 0)) (hmake.mono (fun _ _ f => f.elim))).less (fun q hq => hq.imp id (fun e => ⟨by omega, by rw [size_alloc]; omega⟩))
          have HIM := Lib.hid (And.intro hIm (MapAt.made w3 Try.prog 23))
          clear hIm hmake
          go_wp2_with fail
          refine (all_in HIM.out.1 HJ.out.2.1).mono ?_
          rintro e w8 ⟨v8, rfl, ho8, I8, hb8⟩
          obtain ⟨xs, hxs⟩ : ∃ xs, xs = (h).xs := ⟨_, rfl⟩
          rw [← hxs] at ho8
          obtain ⟨a8, c8, hv8⟩ := (owns_reads ho8).len
          subst hv8
          have hsz8 := hb8.size
          rw [size_alloc] at hb8 hsz8
          have hxl : (xs.length : Int) ≤ n := by
            have h1 := HJ.out.2.1.len
            have h2 := HJ.out.2.2.1
            rw [h2] at h1
            rw [hxs]
            exact h1
          have h80 : w8.cell? ⟨wo.heap.size, 0, none⟩ = some (.int .u8 a.kind) := (hb8.cell (p := ⟨wo.heap.size, 0, none⟩) (Nat.lt_succ_of_lt (lt_of_at HJ.out.2.2.2.1))).trans (cell_at (at_alloc_old HJ.out.2.2.2.1 _) 0)
          have h81 : w8.cell? ⟨wo.heap.size, 1, none⟩ = some (.int .u32 a.addr) := (hb8.cell (p := ⟨wo.heap.size, 1, none⟩) (Nat.lt_succ_of_lt (lt_of_at HJ.out.2.2.2.1))).trans (cell_at (at_alloc_old HJ.out.2.2.2.1 _) 1)
          have H8 := Lib.hid (And.intro (owns_reads ho8) (And.intro I8 (And.intro (HIM.out.2.upd (below_upd hb8) (fun f => by omega)) (And.intro h80 (And.intro h81 (show (w3.heap.size + 1 ≤ w8.heap.size) ∧ wo.heap.size < w3.heap.size ∧ lm < w3.heap.size from ⟨hsz8, lt_of_at HJ.out.2.2.2.1, HJ.out.2.2.2.2.1.lt⟩))))))
          have HXS := Lib.hid (And.intro hxs (show xs.Nodup from by rw [hxs]; exact HJ.out.2.1.once))
          have HM8 := Lib.hid (HJ.out.2.2.2.2.1.upd ((Upd.refl (fun _ => False) w3).alloc (.map #[] 0)) (fun f => f) |>.upd (below_upd hb8) (fun f => by have := H8.out.2.2.2.2.2.2.2; omega))
          have hl8 : xs.length ≤ 20 := by omega
          have HFR := Lib.hid (show ∀ g, (Value.slice a8 xs.length c8).ownBlock = some g → g ≠ w3.heap.size from fun g hg e => by have := (ho8.lt g hg).1; rw [size_alloc] at this; omega)
          clear ho8 I8 hb8 hsz8 h80 h81 hxs d0 d1
          go_wp2_with fail
          obtain ⟨hm8, hhm⟩ : ∃ hm8, hm8 = w3.heap.size := ⟨_, rfl⟩
          rw [show w3.heap.size = hm8 from hhm.symm]
          rw [← hhm] at H8 HFR
          clear hhm
          go_loopg [114] xs.length (fun g i wz => ∃ (q : Nat), q + g = xs.length ∧ i = .int .i64 q ∧ Hid (MapAt wz Try.prog 23 hm8 (hadP xs q) ∧ Upd (fun k => k = hm8) w8 wz))
          case atStart => exact ⟨0, by simp, rfl, Lib.hid ⟨H8.out.2.2.1, Upd.refl _ _⟩⟩
          case round =>
            obtain ⟨q, hq, rfl, HQ⟩ := hrel
            by_cases hqx : q < xs.length
            · have hwx : (Lit.int .u32 xs[q]).wf = true := HJ.out.2.1.wf _ (by rw [← HXS.out.1]; exact List.getElem_mem _)
              have hnx : xs[q] ∉ xs.take q := fun f => by
                obtain ⟨i, hi, e⟩ := List.getElem_of_mem f
                simp at hi
                rw [List.getElem_take] at e
                have := (List.getElem_inj HXS.out.2).1 e
                omega
              have hx : (U xs)[q]? = some (.int .u32 xs[q]) := by simp [hqx]
              have hlk := had_none hnx
              have hpp := had_put hqx HXS.out.2
              obtain ⟨x, hxx⟩ : ∃ x, x = xs[q] := ⟨_, rfl⟩
              rw [← hxx] at hwx hx hlk hpp
              have HP := Lib.hid (And.intro hwx (And.intro hx (And.intro hlk hpp)))
              have HQX := Lib.hid (And.intro hqx hq)
              have HRR : Hid (Reads wr 1 (.slice a8 xs.length c8) xs.length (U xs)) := Lib.hid (H8.out.1.upd0 HQ.out.2 (fun h0 g hg e => HFR.out g hg e))
              clear hwx hx hlk hpp hxx hnx hq
              go_wp2_with (first
                | ((with_reducible change wpList _ _ _ (⟨_, Op.indexAddr _ _ _, _, _, _, _⟩ :: _) _ _); refine wpl_indexg rfl _ _ _ rfl 23 1 Try.underlying44 sizeU (by decide) _ _ _ HRR.out rfl q rfl HQX.out.1 ?_; intro bk off _ hcell; have c0 := hcell 0 (.int .u32 x) (by rw [Nat.mul_one, Nat.add_zero]; exact HP.out.2.1); clear hcell; simp only [Nat.add_zero] at c0)
                | ((with_reducible change wpList _ _ _ (⟨_, Op.lookup _ _ _ _, _, _, _, _⟩ :: _) _ _); refine wpl_lookupg rfl _ _ rfl kU32 Try.underlying48 (.bool false) (zeroBool _) HQ.out.1 rfl (.int .u32 x) _ (keyLit HP.out.1) rfl (.bool false) (by rw [HP.out.2.2.1]; rfl) ?_)
                | ((with_reducible change wpList _ _ _ (⟨_, Op.mapUpdate _ _ _ _, _, _, _, _⟩ :: _) _ _); refine wpl_mapUpdate rfl _ _ _ 48 rfl 23 _ kU32 Try.underlying48 hm8 _ HQ.out.1 rfl (.int .u32 x) (.bool true) _ (keyLit HP.out.1) rfl rfl ?_; intro w9 hm9 hu9; have HQ9 := Lib.hid (And.intro hm9 (HQ.out.2.trans hu9 (fun _ _ f => f))); clear hm9 hu9))
              go_roundg (gk - 1)
              case measure => have := HQX.out; omega
              case rel => exact ⟨q + 1, by have := HQX.out; omega, by go_num, Lib.hid ⟨by rw [← HP.out.2.2.2]; exact HQ9.out.1, HQ9.out.2⟩⟩
            · have hq' : q = xs.length := by omega
              have hlen : ((hadP xs q).length : Int) = xs.length := by unfold hadP; rw [hq']; simp
              have hgt : decide (n < (xs.length : Int)) = false := decide_eq_false (by omega)
              have hrl := HQ.out.1.len Try.underlying48 3
              rw [hlen] at hrl
              have hne8 : wo.heap.size ≠ hm8 := by have := H8.out.2.2.2.2.2; omega
              have e0 : wr.cell? ⟨wo.heap.size, 0, none⟩ = some (.int .u8 a.kind) := HQ.out.2.cell H8.out.2.2.2.1 (fun f => hne8 f)
              have e1 : wr.cell? ⟨wo.heap.size, 1, none⟩ = some (.int .u32 a.addr) := HQ.out.2.cell H8.out.2.2.2.2.1 (fun f => hne8 f)
              have hI := (H8.out.2.1.other (w' := wr) (HQ.out.2.mono (fun i _ e => .inl (.inr (by rw [e]))))).less (Y := fun k => k = lm) (fun g e => .inl (.inl (.inl (.inl e))))
              have hMl := HM8.out.upd HQ.out.2 (fun f => by have := H8.out.2.2.2.2.2; omega)
              have HFIN := Lib.hid (And.intro hI hMl)
              clear hlen hq' hI hMl
              skip
              go_wp2_with (first
                | ((with_reducible change wpList _ _ _ (⟨_, Op.lookup _ _ _ _, _, _, _, _⟩ :: _) _ _); refine wpl_lookupg rfl _ _ rfl kU32 Try.underlying48 (.bool false) (zeroBool _) HQ.out.1 rfl (.int .u32 a.addr) _ (keyLit HGA.out.1.addr) rfl (.bool false) (by rw [HNO.out]; rfl) ?_))
              go_roundg (acts'.length - (k + 1))
              case measure => have := HX.out; omega
              case rel => exact ⟨k + 1, h, rm, by have := HX.out; omega, by go_num, Lib.hid ⟨HFIN.out.1, HJ.out.2.1, HJ.out.2.2.1, HFIN.out.2, HJ.out.2.2.2.2.2⟩⟩
        | some bs =>
          refine (getin_some HW.out.2.2.1 HC.out.2.1 a.addr HGA.out.1.addr hm).mono ?_
          rintro e w3 ⟨v3, rfl, ho3, I3, hu3⟩
          have HJ := Lib.hid (show InH w0 w3 b { h with xs := frontL h.xs a.addr } (fun k => k = lm ∨ k = wo.heap.size) ∧ ({ h with xs := frontL h.xs a.addr }).Good ∧ ({ h with xs := frontL h.xs a.addr }).room = n ∧ w3.heap[wo.heap.size]? = some (.cells #[.int .u8 a.kind, .int .u32 a.addr, .slice sa a.bs.length sc] 32 (0, 0)) ∧ MapAt w3 Try.prog 23 lm rm ∧ Last rm { h with xs := frontL h.xs a.addr } from
            ⟨I3.less (fun q e => .inl e), front_good HC.out.2.1 ((HC.out.2.1.keys a.addr).2 (by rw [hm]; rfl)), HC.out.2.2.1, hu3.at HW.out.2.1 (fun f => f (.inr rfl)), HW.out.2.2.2.upd hu3 (fun f => f (.inl rfl)), HC.out.2.2.2.2⟩)
          obtain ⟨a3, c3, hv3⟩ := (owns_reads ho3).len
          subst hv3
          have hcv : (convert 30 9 (.slice a3 bs.length c3)).run Try.prog w3 = .ok (.string (strOfNums bs)) w3 := conv_string (owns_reads ho3)
          have hls := HC.out.2.2.2.2 a.addr bs hm
          have HLS := Lib.hid hls
          clear I3 hu3 hm ho3 hls
          have hgj := HJ.out.2.2.2.1
          have d0 : w3.cell? ⟨wo.heap.size, 0, none⟩ = some (.int .u8 a.kind) := cell_at hgj 0
          have d1 : w3.cell? ⟨wo.heap.size, 1, none⟩ = some (.int .u32 a.addr) := cell_at hgj 1
          clear hgj
          have hmake : Upd (fun _ => False) w3 (w3.alloc (.map #[] 0)) := (Upd.refl _ _).alloc _
          have hIm : InH w0 (w3.alloc (.map #[] 0)) b { h with xs := frontL h.xs a.addr } (fun k => (k = lm ∨ k = wo.heap.size) ∨ k = w3.heap.size) := (HJ.out.1.other (w' := w3.alloc (.map #[] 0)) (hmake.mono (fun _ _ f => f.elim))).less (fun q hq => hq.imp id (fun e => ⟨by omega, by rw [size_alloc]; omega⟩))
          have HIM := Lib.hid (And.intro hIm (MapAt.made w3 Try.prog 23))
          clear hIm hmake
          go_wp2_with (first
            | ((with_reducible change wpList _ _ _ (⟨_, Op.lookup _ _ _ _, _, _, _, _⟩ :: _) _ _); refine wpl_lookupg rfl _ _ rfl kU32 Try.underlying47 (.string ⟨#[]⟩) (zeroStr _) HJ.out.2.2.2.2.1 rfl (.int .u32 a.addr) _ (keyLit HGA.out.1.addr) rfl (.string (strOfNums bs)) (by rw [HLS.out]; rfl) ?_))
          clear hcv
          refine (all_in HIM.out.1 HJ.out.2.1).mono ?_
          rintro e w8 ⟨v8, rfl, ho8, I8, hb8⟩
          obtain ⟨xs, hxs⟩ : ∃ xs, xs = ({ h with xs := frontL h.xs a.addr }).xs := ⟨_, rfl⟩
          rw [← hxs] at ho8
          obtain ⟨a8, c8, hv8⟩ := (owns_reads ho8).len
          subst hv8
          have hsz8 := hb8.size
          rw [size_alloc] at hb8 hsz8
          have hxl : (xs.length : Int) ≤ n := by
            have h1 := HJ.out.2.1.len
            have h2 := HJ.out.2.2.1
            rw [h2] at h1
            rw [hxs]
            exact h1
          have h80 : w8.cell? ⟨wo.heap.size, 0, none⟩ = some (.int .u8 a.kind) := (hb8.cell (p := ⟨wo.heap.size, 0, none⟩) (Nat.lt_succ_of_lt (lt_of_at HJ.out.2.2.2.1))).trans (cell_at (at_alloc_old HJ.out.2.2.2.1 _) 0)
          have h81 : w8.cell? ⟨wo.heap.size, 1, none⟩ = some (.int .u32 a.addr) := (hb8.cell (p := ⟨wo.heap.size, 1, none⟩) (Nat.lt_succ_of_lt (lt_of_at HJ.out.2.2.2.1))).trans (cell_at (at_alloc_old HJ.out.2.2.2.1 _) 1)
          have H8 := Lib.hid (And.intro (owns_reads ho8) (And.intro I8 (And.intro (HIM.out.2.upd (below_upd hb8) (fun f => by omega)) (And.intro h80 (And.intro h81 (show (w3.heap.size + 1 ≤ w8.heap.size) ∧ wo.heap.size < w3.heap.size ∧ lm < w3.heap.size from ⟨hsz8, lt_of_at HJ.out.2.2.2.1, HJ.out.2.2.2.2.1.lt⟩))))))
          have HXS := Lib.hid (And.intro hxs (show xs.Nodup from by rw [hxs]; exact HJ.out.2.1.once))
          have HM8 := Lib.hid (HJ.out.2.2.2.2.1.upd ((Upd.refl (fun _ => False) w3).alloc (.map #[] 0)) (fun f => f) |>.upd (below_upd hb8) (fun f => by have := H8.out.2.2.2.2.2.2.2; omega))
          have hl8 : xs.length ≤ 20 := by omega
          have HFR := Lib.hid (show ∀ g, (Value.slice a8 xs.length c8).ownBlock = some g → g ≠ w3.heap.size from fun g hg e => by have := (ho8.lt g hg).1; rw [size_alloc] at this; omega)
          clear ho8 I8 hb8 hsz8 h80 h81 hxs d0 d1
          go_wp2_with fail
          obtain ⟨hm8, hhm⟩ : ∃ hm8, hm8 = w3.heap.size := ⟨_, rfl⟩
          rw [show w3.heap.size = hm8 from hhm.symm]
          rw [← hhm] at H8 HFR
          clear hhm
          go_loopg [114] xs.length (fun g i wz => ∃ (q : Nat), q + g = xs.length ∧ i = .int .i64 q ∧ Hid (MapAt wz Try.prog 23 hm8 (hadP xs q) ∧ Upd (fun k => k = hm8) w8 wz))
          case atStart => exact ⟨0, by simp, rfl, Lib.hid ⟨H8.out.2.2.1, Upd.refl _ _⟩⟩
          case round =>
            obtain ⟨q, hq, rfl, HQ⟩ := hrel
            by_cases hqx : q < xs.length
            · have hwx : (Lit.int .u32 xs[q]).wf = true := HJ.out.2.1.wf _ (by rw [← HXS.out.1]; exact List.getElem_mem _)
              have hnx : xs[q] ∉ xs.take q := fun f => by
                obtain ⟨i, hi, e⟩ := List.getElem_of_mem f
                simp at hi
                rw [List.getElem_take] at e
                have := (List.getElem_inj HXS.out.2).1 e
                omega
              have hx : (U xs)[q]? = some (.int .u32 xs[q]) := by simp [hqx]
              have hlk := had_none hnx
              have hpp := had_put hqx HXS.out.2
              obtain ⟨x, hxx⟩ : ∃ x, x = xs[q] := ⟨_, rfl⟩
              rw [← hxx] at hwx hx hlk hpp
              have HP := Lib.hid (And.intro hwx (And.intro hx (And.intro hlk hpp)))
              have HQX := Lib.hid (And.intro hqx hq)
              have HRR : Hid (Reads wr 1 (.slice a8 xs.length c8) xs.length (U xs)) := Lib.hid (H8.out.1.upd0 HQ.out.2 (fun h0 g hg e => HFR.out g hg e))
              clear hwx hx hlk hpp hxx hnx hq
              go_wp2_with (first
                | ((with_reducible change wpList _ _ _ (⟨_, Op.indexAddr _ _ _, _, _, _, _⟩ :: _) _ _); refine wpl_indexg rfl _ _ _ rfl 23 1 Try.underlying44 sizeU (by decide) _ _ _ HRR.out rfl q rfl HQX.out.1 ?_; intro bk off _ hcell; have c0 := hcell 0 (.int .u32 x) (by rw [Nat.mul_one, Nat.add_zero]; exact HP.out.2.1); clear hcell; simp only [Nat.add_zero] at c0)
                | ((with_reducible change wpList _ _ _ (⟨_, Op.lookup _ _ _ _, _, _, _, _⟩ :: _) _ _); refine wpl_lookupg rfl _ _ rfl kU32 Try.underlying48 (.bool false) (zeroBool _) HQ.out.1 rfl (.int .u32 x) _ (keyLit HP.out.1) rfl (.bool false) (by rw [HP.out.2.2.1]; rfl) ?_)
                | ((with_reducible change wpList _ _ _ (⟨_, Op.mapUpdate _ _ _ _, _, _, _, _⟩ :: _) _ _); refine wpl_mapUpdate rfl _ _ _ 48 rfl 23 _ kU32 Try.underlying48 hm8 _ HQ.out.1 rfl (.int .u32 x) (.bool true) _ (keyLit HP.out.1) rfl rfl ?_; intro w9 hm9 hu9; have HQ9 := Lib.hid (And.intro hm9 (HQ.out.2.trans hu9 (fun _ _ f => f))); clear hm9 hu9))
              go_roundg (gk - 1)
              case measure => have := HQX.out; omega
              case rel => exact ⟨q + 1, by have := HQX.out; omega, by go_num, Lib.hid ⟨by rw [← HP.out.2.2.2]; exact HQ9.out.1, HQ9.out.2⟩⟩
            · have hq' : q = xs.length := by omega
              have hlen : ((hadP xs q).length : Int) = xs.length := by unfold hadP; rw [hq']; simp
              have hgt : decide (n < (xs.length : Int)) = false := decide_eq_false (by omega)
              have hrl := HQ.out.1.len Try.underlying48 3
              rw [hlen] at hrl
              have hne8 : wo.heap.size ≠ hm8 := by have := H8.out.2.2.2.2.2; omega
              have e0 : wr.cell? ⟨wo.heap.size, 0, none⟩ = some (.int .u8 a.kind) := HQ.out.2.cell H8.out.2.2.2.1 (fun f => hne8 f)
              have e1 : wr.cell? ⟨wo.heap.size, 1, none⟩ = some (.int .u32 a.addr) := HQ.out.2.cell H8.out.2.2.2.2.1 (fun f => hne8 f)
              have hI := (H8.out.2.1.other (w' := wr) (HQ.out.2.mono (fun i _ e => .inl (.inr (by rw [e]))))).less (Y := fun k => k = lm) (fun g e => .inl (.inl (.inl (.inl e))))
              have hMl := HM8.out.upd HQ.out.2 (fun f => by have := H8.out.2.2.2.2.2; omega)
              have HFIN := Lib.hid (And.intro hI hMl)
              clear hlen hq' hI hMl
              skip
              go_wp2_with (first
                | ((with_reducible change wpList _ _ _ (⟨_, Op.lookup _ _ _ _, _, _, _, _⟩ :: _) _ _); refine wpl_lookupg rfl _ _ rfl kU32 Try.underlying48 (.bool false) (zeroBool _) HQ.out.1 rfl (.int .u32 a.addr) _ (keyLit HGA.out.1.addr) rfl (.bool false) (by rw [HNO.out]; rfl) ?_))
              go_roundg (acts'.length - (k + 1))
              case measure => have := HX.out; omega
              case rel => exact ⟨k + 1, { h with xs := frontL h.xs a.addr }, rm, by have := HX.out; omega, by go_num, Lib.hid ⟨HFIN.out.1, HJ.out.2.1, HJ.out.2.2.1, HFIN.out.2, HJ.out.2.2.2.2.2⟩⟩
      · go_wp2_with (first
          | ((with_reducible change wpList _ _ _ (⟨_, Op.indexAddr _ _ _, _, _, _, _⟩ :: _) _ _); refine wpl_indexg rfl _ _ _ rfl 32 3 Try.underlying22 sizeHAct (by decide) _ _ _ HR.out rfl k rfl HX.out ?_; intro bk off _ hcell; have c0 := hcell 0 _ HK.out.1; have c1 := hcell 1 _ HK.out.2.1; have c2 := hcell 2 _ HK.out.2.2; clear hcell; simp only [Nat.add_zero] at c0))
        refine calls_world fun W hW => ?_
        have huW : Upd (fun _ => False) wo W := by rw [hW]; exact (Upd.refl _ wo).alloc _
        have hgW : W.heap[wo.heap.size]? = some (.cells #[.int .u8 a.kind, .int .u32 a.addr, .slice sa a.bs.length sc] 32 (0, 0)) := by rw [hW]; exact heap_alloc_last wo _
        have hIW : InH w0 W b h (fun k => k = lm ∨ k = wo.heap.size) := (HC.out.1.other (w' := W) (huW.mono (fun _ _ f => f.elim))).less (fun q hq => hq.imp id (fun e => ⟨by omega, by rw [e]; exact lt_of_at hgW⟩))
        have HW := Lib.hid (And.intro huW (And.intro hgW (And.intro hIW (HC.out.2.2.2.1.upd huW (fun f => f)))))
        clear hW huW hgW hIW
        refine (drop_in HW.out.2.2.1 HC.out.2.1 a.addr HGA.out.1.addr).mono ?_
        rintro e w3 ⟨rfl, I3, hu3⟩
        have HJ := Lib.hid (show InH w0 w3 b (dropH h a.addr) (fun k => k = lm ∨ k = wo.heap.size) ∧ (dropH h a.addr).Good ∧ (dropH h a.addr).room = n ∧ w3.heap[wo.heap.size]? = some (.cells #[.int .u8 a.kind, .int .u32 a.addr, .slice sa a.bs.length sc] 32 (0, 0)) ∧ MapAt w3 Try.prog 23 lm rm ∧ Last rm (dropH h a.addr) from
          ⟨I3, drop_good' HC.out.2.1 a.addr, (drop_room h a.addr).1.trans HC.out.2.2.1, hu3.at HW.out.2.1 (fun f => f (.inr rfl)), HW.out.2.2.2.upd hu3 (fun f => f (.inl rfl)), HC.out.2.2.2.2.drop⟩)
        clear I3 hu3
        have hgj := HJ.out.2.2.2.1
        have d0 : w3.cell? ⟨wo.heap.size, 0, none⟩ = some (.int .u8 a.kind) := cell_at hgj 0
        have d1 : w3.cell? ⟨wo.heap.size, 1, none⟩ = some (.int .u32 a.addr) := cell_at hgj 1
        clear hgj
        have hmake : Upd (fun _ => False) w3 (w3.alloc (.map #[] 0)) := (Upd.refl _ _).alloc _
        have hIm : InH w0 (w3.alloc (.map #[] 0)) b (dropH h a.addr) (fun k => (k = lm ∨ k = wo.heap.size) ∨ k = w3.heap.size) := (HJ.out.1.other (w' := w3.alloc (.map #[] 0)) (hmake.mono (fun _ _ f => f.elim))).less (fun q hq => hq.imp id (fun e => ⟨by omega, by rw [size_alloc]; omega⟩))
        have HIM := Lib.hid (And.intro hIm (MapAt.made w3 Try.prog 23))
        clear hIm hmake
        go_wp2_with fail
        refine (all_in HIM.out.1 HJ.out.2.1).mono ?_
        rintro e w8 ⟨v8, rfl, ho8, I8, hb8⟩
        obtain ⟨xs, hxs⟩ : ∃ xs, xs = ((dropH h a.addr)).xs := ⟨_, rfl⟩
        rw [← hxs] at ho8
        obtain ⟨a8, c8, hv8⟩ := (owns_reads ho8).len
        subst hv8
        have hsz8 := hb8.size
        rw [size_alloc] at hb8 hsz8
        have hxl : (xs.length : Int) ≤ n := by
          have h1 := HJ.out.2.1.len
          have h2 := HJ.out.2.2.1
          rw [h2] at h1
          rw [hxs]
          exact h1
        have h80 : w8.cell? ⟨wo.heap.size, 0, none⟩ = some (.int .u8 a.kind) := (hb8.cell (p := ⟨wo.heap.size, 0, none⟩) (Nat.lt_succ_of_lt (lt_of_at HJ.out.2.2.2.1))).trans (cell_at (at_alloc_old HJ.out.2.2.2.1 _) 0)
        have h81 : w8.cell? ⟨wo.heap.size, 1, none⟩ = some (.int .u32 a.addr) := (hb8.cell (p := ⟨wo.heap.size, 1, none⟩) (Nat.lt_succ_of_lt (lt_of_at HJ.out.2.2.2.1))).trans (cell_at (at_alloc_old HJ.out.2.2.2.1 _) 1)
        have H8 := Lib.hid (And.intro (owns_reads ho8) (And.intro I8 (And.intro (HIM.out.2.upd (below_upd hb8) (fun f => by omega)) (And.intro h80 (And.intro h81 (show (w3.heap.size + 1 ≤ w8.heap.size) ∧ wo.heap.size < w3.heap.size ∧ lm < w3.heap.size from ⟨hsz8, lt_of_at HJ.out.2.2.2.1, HJ.out.2.2.2.2.1.lt⟩))))))
        have HXS := Lib.hid (And.intro hxs (show xs.Nodup from by rw [hxs]; exact HJ.out.2.1.once))
        have HM8 := Lib.hid (HJ.out.2.2.2.2.1.upd ((Upd.refl (fun _ => False) w3).alloc (.map #[] 0)) (fun f => f) |>.upd (below_upd hb8) (fun f => by have := H8.out.2.2.2.2.2.2.2; omega))
        have hl8 : xs.length ≤ 20 := by omega
        have HFR := Lib.hid (show ∀ g, (Value.slice a8 xs.length c8).ownBlock = some g → g ≠ w3.heap.size from fun g hg e => by have := (ho8.lt g hg).1; rw [size_alloc] at this; omega)
        clear ho8 I8 hb8 hsz8 h80 h81 hxs d0 d1
        go_wp2_with fail
        obtain ⟨hm8, hhm⟩ : ∃ hm8, hm8 = w3.heap.size := ⟨_, rfl⟩
        rw [show w3.heap.size = hm8 from hhm.symm]
        rw [← hhm] at H8 HFR
        clear hhm
        go_loopg [114] xs.length (fun g i wz => ∃ (q : Nat), q + g = xs.length ∧ i = .int .i64 q ∧ Hid (MapAt wz Try.prog 23 hm8 (hadP xs q) ∧ Upd (fun k => k = hm8) w8 wz))
        case atStart => exact ⟨0, by simp, rfl, Lib.hid ⟨H8.out.2.2.1, Upd.refl _ _⟩⟩
        case round =>
          obtain ⟨q, hq, rfl, HQ⟩ := hrel
          by_cases hqx : q < xs.length
          · have hwx : (Lit.int .u32 xs[q]).wf = true := HJ.out.2.1.wf _ (by rw [← HXS.out.1]; exact List.getElem_mem _)
            have hnx : xs[q] ∉ xs.take q := fun f => by
              obtain ⟨i, hi, e⟩ := List.getElem_of_mem f
              simp at hi
              rw [List.getElem_take] at e
              have := (List.getElem_inj HXS.out.2).1 e
              omega
            have hx : (U xs)[q]? = some (.int .u32 xs[q]) := by simp [hqx]
            have hlk := had_none hnx
            have hpp := had_put hqx HXS.out.2
            obtain ⟨x, hxx⟩ : ∃ x, x = xs[q] := ⟨_, rfl⟩
            rw [← hxx] at hwx hx hlk hpp
            have HP := Lib.hid (And.intro hwx (And.intro hx (And.intro hlk hpp)))
            have HQX := Lib.hid (And.intro hqx hq)
            have HRR : Hid (Reads wr 1 (.slice a8 xs.length c8) xs.length (U xs)) := Lib.hid (H8.out.1.upd0 HQ.out.2 (fun h0 g hg e => HFR.out g hg e))
            clear hwx hx hlk hpp hxx hnx hq
            go_wp2_with (first
              | ((with_reducible change wpList _ _ _ (⟨_, Op.indexAddr _ _ _, _, _, _, _⟩ :: _) _ _); refine wpl_indexg rfl _ _ _ rfl 23 1 Try.underlying44 sizeU (by decide) _ _ _ HRR.out rfl q rfl HQX.out.1 ?_; intro bk off _ hcell; have c0 := hcell 0 (.int .u32 x) (by rw [Nat.mul_one, Nat.add_zero]; exact HP.out.2.1); clear hcell; simp only [Nat.add_zero] at c0)
              | ((with_reducible change wpList _ _ _ (⟨_, Op.lookup _ _ _ _, _, _, _, _⟩ :: _) _ _); refine wpl_lookupg rfl _ _ rfl kU32 Try.underlying48 (.bool false) (zeroBool _) HQ.out.1 rfl (.int .u32 x) _ (keyLit HP.out.1) rfl (.bool false) (by rw [HP.out.2.2.1]; rfl) ?_)
              | ((with_reducible change wpList _ _ _ (⟨_, Op.mapUpdate _ _ _ _, _, _, _, _⟩ :: _) _ _); refine wpl_mapUpdate rfl _ _ _ 48 rfl 23 _ kU32 Try.underlying48 hm8 _ HQ.out.1 rfl (.int .u32 x) (.bool true) _ (keyLit HP.out.1) rfl rfl ?_; intro w9 hm9 hu9; have HQ9 := Lib.hid (And.intro hm9 (HQ.out.2.trans hu9 (fun _ _ f => f))); clear hm9 hu9))
            go_roundg (gk - 1)
            case measure => have := HQX.out; omega
            case rel => exact ⟨q + 1, by have := HQX.out; omega, by go_num, Lib.hid ⟨by rw [← HP.out.2.2.2]; exact HQ9.out.1, HQ9.out.2⟩⟩
          · have hq' : q = xs.length := by omega
            have hlen : ((hadP xs q).length : Int) = xs.length := by unfold hadP; rw [hq']; simp
            have hgt : decide (n < (xs.length : Int)) = false := decide_eq_false (by omega)
            have hrl := HQ.out.1.len Try.underlying48 3
            rw [hlen] at hrl
            have hne8 : wo.heap.size ≠ hm8 := by have := H8.out.2.2.2.2.2; omega
            have e0 : wr.cell? ⟨wo.heap.size, 0, none⟩ = some (.int .u8 a.kind) := HQ.out.2.cell H8.out.2.2.2.1 (fun f => hne8 f)
            have e1 : wr.cell? ⟨wo.heap.size, 1, none⟩ = some (.int .u32 a.addr) := HQ.out.2.cell H8.out.2.2.2.2.1 (fun f => hne8 f)
            have hI := (H8.out.2.1.other (w' := wr) (HQ.out.2.mono (fun i _ e => .inl (.inr (by rw [e]))))).less (Y := fun k => k = lm) (fun g e => .inl (.inl (.inl (.inl e))))
            have hMl := HM8.out.upd HQ.out.2 (fun f => by have := H8.out.2.2.2.2.2; omega)
            have HFIN := Lib.hid (And.intro hI hMl)
            clear hlen hq' hI hMl
            have hno : a.addr ∉ xs.take q := fun f => by
              have h1 := List.mem_of_mem_take f
              rw [HXS.out.1] at h1
              exact not_dropH HC.out.2.1 h1
            have hno2 := had_none hno
            have HNO := Lib.hid hno2
            clear hno hno2
            go_wp2_with (first
              | ((with_reducible change wpList _ _ _ (⟨_, Op.lookup _ _ _ _, _, _, _, _⟩ :: _) _ _); refine wpl_lookupg rfl _ _ rfl kU32 Try.underlying48 (.bool false) (zeroBool _) HQ.out.1 rfl (.int .u32 a.addr) _ (keyLit HGA.out.1.addr) rfl (.bool false) (by rw [HNO.out]; rfl) ?_))
            go_roundg (acts'.length - (k + 1))
            case measure => have := HX.out; omega
            case rel => exact ⟨k + 1, (dropH h a.addr), rm, by have := HX.out; omega, by go_num, Lib.hid ⟨HFIN.out.1, HJ.out.2.1, HJ.out.2.2.1, HFIN.out.2, HJ.out.2.2.2.2.2⟩⟩
    · have hnl : ¬ ((k : Int) < (acts'.length : Int)) := by omega
      go_wp2_with fail
      go_ret
      have hb0 : Below B w w0 := HU0.out.below (by rw [HB.out]; exact Nat.le_refl _) (fun _ f => f.elim)
      exact ⟨rfl, hb0.trans (HC.out.1.since.below (by rw [HB.out]; exact HU0.out.size) (fun _ f => f.elim))⟩
end Go.Proofs.Ytfpbkofjbnmkeaa.hotLast
