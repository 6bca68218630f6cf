/- The uppermost frame is taken off. -/
import Derived.Test.YtjcaidbkbdkpeaaGreatDoorUpper
namespace Go.Proofs.YtjcaidbkbdkpeaaGreatDoor
open Go Go.RowKit Go.Rh

theorem frames_upper_yes (w : World) (o : Owner) (t p : Nat) (Fs : List Fr) (f : Fr) (hs : FramesAt w o t p (Fs ++ [f])) (hwf : Wf w o) :
    Calls Tryz.prog 105 #[.pointer (some ⟨p, 0, none⟩), .int .i64 f.kind] w fun e w' => ∃ g c, e = .returned (.pointer (some ⟨g, Fs.length * 6, none⟩)) ∧ w.cell? ⟨p, 0, none⟩ = some (.slice (some ⟨g, 0, none⟩) (Fs.length + 1) c) ∧ Mod (fun _ => False) w o w' o := by
  obtain ⟨g, c, la, lc, c0, c1, c2, c3, c4, c5, c6, c7, c8⟩ := hs.get (i := Fs.length) (f := f) (by simp)
  have hlen := hs.2.2.1
  simp only [List.length_append, List.length_cons, List.length_nil, Nat.zero_add] at c0 hlen
  have hk : ∀ i, i < Fs.length + 1 → w.cell? ⟨g, i * 6, none⟩ = some (.int .i64 (((Fs ++ [f])[i]?).getD fr0).kind) := by
    intro i hi
    have hi' : i < (Fs ++ [f]).length := by simp; omega
    obtain ⟨g', c', la', lc', d0, _, _, _, _, _, d6, _⟩ := hs.get (i := i) (f := (Fs ++ [f])[i]) (List.getElem?_eq_getElem hi')
    rw [c0] at d0
    simp at d0
    rw [List.getElem?_eq_getElem hi', Option.getD_some]
    have := d6 0 _ rfl
    rw [Nat.add_zero, ← d0.1] at this
    exact this
  refine (upper_in p g Fs.length c hlen f.kind (fun i => (((Fs ++ [f])[i]?).getD fr0).kind) w c1 c2 c0 hk).mono ?_
  rintro e w' ⟨he, hw⟩
  have hgi : (((Fs ++ [f])[Fs.length]?).getD fr0) = f := by simp
  rw [hgi, if_pos rfl] at he
  exact ⟨g, c, he, c0, Mod.below hwf hw⟩

theorem frames_upper_no (w : World) (o : Owner) (t p : Nat) (Fs : List Fr) (hs : FramesAt w o t p Fs) (hwf : Wf w o) (kind : Int) (hno : Fs = [] ∨ (Fs.getLast?.getD fr0).kind ≠ kind) :
    Calls Tryz.prog 105 #[.pointer (some ⟨p, 0, none⟩), .int .i64 kind] w fun e w' => e = .returned (.pointer none) ∧ Mod (fun _ => False) w o w' o := by
  rcases List.eq_nil_or_concat Fs with rfl | ⟨Fs, f, rfl⟩
  · obtain ⟨h0, h1, h2, v, G, hG, hb, hr, hl, ha⟩ := hs
    obtain ⟨a, c, rfl, _⟩ := hr.len
    exact (upper_none p c a kind w hb.lt (hb.c 0 _ rfl)).mono fun e w' ⟨he, hw⟩ => ⟨he, Mod.below hwf hw⟩
  · simp only [List.concat_eq_append] at *
    obtain ⟨g, c, la, lc, c0, c1, c2, c3, c4, c5, c6, c7, c8⟩ := hs.get (i := Fs.length) (f := f) (by simp)
    have hlen := hs.2.2.1
    simp only [List.length_append, List.length_cons, List.length_nil, Nat.zero_add] at c0 hlen
    have hk : ∀ i, i < Fs.length + 1 → w.cell? ⟨g, i * 6, none⟩ = some (.int .i64 (((Fs ++ [f])[i]?).getD fr0).kind) := by
      intro i hi
      have hi' : i < (Fs ++ [f]).length := by simp; omega
      obtain ⟨g', c', la', lc', d0, _, _, _, _, _, d6, _⟩ := hs.get (i := i) (f := (Fs ++ [f])[i]) (List.getElem?_eq_getElem hi')
      rw [c0] at d0
      simp at d0
      rw [List.getElem?_eq_getElem hi', Option.getD_some]
      have := d6 0 _ rfl
      rw [Nat.add_zero, ← d0.1] at this
      exact this
    have hf : f.kind ≠ kind := by
      rcases hno with h | h
      · simp at h
      · simpa using h
    refine (upper_in p g Fs.length c hlen kind (fun i => (((Fs ++ [f])[i]?).getD fr0).kind) w c1 c2 c0 hk).mono ?_
    rintro e w' ⟨he, hw⟩
    have hgi : (((Fs ++ [f])[Fs.length]?).getD fr0) = f := by simp
    rw [hgi, if_neg hf] at he
    exact ⟨he, Mod.below hwf hw⟩

def popF (Fs : List Fr) (kind : Int) : Fr × List Fr × Int :=
  if Fs ≠ [] ∧ (Fs.getLast?.getD fr0).kind = kind then (Fs.getLast?.getD fr0, Fs.dropLast, 0) else (fr0, Fs, -6)

abbrev zfr : List Value := [.int .i64 0, .int .i64 0, .int .i64 0, .int .i64 0, .int .i64 0, .slice none 0 0]

set_option maxHeartbeats 1000000 in
set_option maxRecDepth 100000 in
theorem frames_Pop_yes (w : World) (o : Owner) (t p : Nat) (Fs : List Fr) (f : Fr) (hs : FramesAt w o t p (Fs ++ [f])) (hwf : Wf w o) (hfl : f.l.length ≤ 1000) :
    Calls Tryz.prog 69 #[.pointer (some ⟨p, 0, none⟩), .int .i64 f.kind] w fun e w' => ∃ lv, e = .returned (.tuple #[.agg (frL f lv).toArray, .int .i64 0]) ∧ ∃ o', Mod (· = t) w o w' o' ∧
      FramesAt w' o' t p Fs ∧ LRow w' o' 0 lv f.l := by
  have hm1 := (Mod.refl (fun _ => False) hwf).alloc (.cells #[.int .i64 0, .int .i64 0, .int .i64 0, .int .i64 0, .int .i64 0, .slice none 0 0] 58)
  have hs1 := hs.kept hm1 (fun h => h)
  have hB := Blk.new w [.int .i64 0, .int .i64 0, .int .i64 0, .int .i64 0, .int .i64 0, .slice none 0 0] 58
  have hn : Hid ((Fs ++ [f]).length = Fs.length + 1) := by unfold Hid; simp
  have hlen : Fs.length ≤ 127 := by have := hs.2.2.1; simp at this; omega
  have htk : Hid ((Fs ++ [f]).take ((Fs.length : Int)).toNat = Fs) := by unfold Hid; simp
  go_enter Tryz.func69, Tryz.ntmps69
  go_wp2_with fail
  refine (frames_upper_yes _ o t p Fs f hs1 hm1.wf).mono ?_
  rintro e w1 ⟨g, c, rfl, c0, hm2⟩
  obtain ⟨g', c', la, lc, d0, d1, d2, d3, d4, d5, d6, d7, d8⟩ := hs1.get (i := Fs.length) (f := f) (by simp)
  rw [hn.out, c0] at d0
  simp only [Option.some.injEq, Value.slice.injEq, Addr.mk.injEq, and_true, true_and] at d0
  obtain ⟨rfl, rfl⟩ := d0
  have hall := hm1.trans hm2
  have hs2 := hs1.kept hm2 (fun h => h)
  have d5' := d5.kept hm2 (fun h => h)
  have e6 : ∀ j u, (frL f (.slice la f.l.length lc))[j]? = some u → w1.cell? ⟨g, Fs.length * 6 + j, none⟩ = some u := fun j u hu => (hm2.cells g _ d2).trans (d6 j u hu)
  obtain ⟨k, x1, x2, x3, x4, l⟩ := f
  dsimp only [frL] at *
  have f0 := e6 0 _ rfl
  have f1 := e6 1 _ rfl
  have f2 := e6 2 _ rfl
  have f3 := e6 3 _ rfl
  have f4 := e6 4 _ rfl
  have f5 := e6 5 _ rfl
  rw [Nat.add_zero] at f0
  clear e6 d6
  go_wp2_with fail
  refine (frame_own _ o hall.wf ⟨k, x1, x2, x3, x4, l⟩ (.slice la l.length lc) t hfl d5'.rd 0).mono ?_
  rintro e w2 ⟨lv', o2, rfl, hm3, hr2, hz, hfr⟩
  obtain ⟨a', c', rfl, _⟩ := hr2.len
  have hB2 := (hB.kept hm2 (fun h => h)).kept hm3 (fun h => h)
  have hs3 := hs2.kept hm3 (fun h => h)
  have q0 := (hm3.cells p 0 (Nat.lt_of_lt_of_le d1 hm2.size)).trans ((hm2.cells p 0 d1).trans c0)
  have q1 : p < w2.heap.size := Nat.lt_of_lt_of_le (Nat.lt_of_lt_of_le d1 hm2.size) hm3.size
  dsimp only [frL] at *
  have hm4 := (Mod.refl (fun _ => False) hm3.wf).alloc (.cells #[.int .i64 k, .int .i64 x1, .int .i64 x2, .int .i64 x3, .int .i64 x4, .slice a' l.length c'] 58)
  have hs4 := hs3.kept hm4 (fun h => h)
  have hB4 := hB2.kept hm4 (fun h => h)
  have hY := Blk.new w2 [.int .i64 k, .int .i64 x1, .int .i64 x2, .int .i64 x3, .int .i64 x4, .slice a' l.length c'] 58
  have hr4 := hr2.kept hm4 (fun h => h)
  go_wp2_with fail
  refine (frames_Cut _ o2 t p _ hs4 hm4.wf (Fs.length : Int)).mono ?_
  rintro e w5 ⟨rfl, hm5, hs5⟩
  rw [htk.out] at hs5
  have ho1 : o2 w.heap.size = 0 := ((hm2.trans hm3).own _ (by simp)).trans (hwf _ (Nat.le_refl _))
  have hB5 := hB4.kept hm5 (by rw [ho1]; exact hs.1.symm)
  have hY5 := hY.kept hm5 (by rw [hm3.wf _ (Nat.le_refl _)]; exact hs.1.symm)
  have hr5 := hr4.kept hm5 hs.1.symm
  obtain ⟨y0, y1, y2, y3, y4, y5, yf⟩ := hY5.six
  obtain ⟨b0, b1, b2, b3, b4, b5, bf⟩ := hB5.six
  go_wp2
  refine bodyPost_ret (v := .tuple #[.agg #[.int .i64 k, .int .i64 x1, .int .i64 x2, .int .i64 x3, .int .i64 x4, .slice a' l.length c'], .int .i64 0]) (by simp [results, Tryz.results69, go_sem, b0, b1, b2, b3, b4, b5]) rfl ?_
  refine ⟨_, rfl, o2, ?_, ?_, ?_⟩
  · (repeat (refine Mod.setNew ?_ _ _ (by simp)))
    exact (((hall.trans hm3).trans hm4).mono (fun _ h => h.elim)).trans hm5
  · (repeat (refine FramesAt.to ?_ (KeptAt.setCell _ _ (by rw [ho1]; exact hs.1.symm))))
    exact hs5
  · (repeat (refine Row.other ?_ _ _ (hr5.ne hB5 (by decide))))
    exact hr5

set_option maxHeartbeats 1000000 in
set_option maxRecDepth 100000 in
theorem frames_Pop_no (w : World) (o : Owner) (t p : Nat) (Fs : List Fr) (hs : FramesAt w o t p Fs) (hwf : Wf w o) (kind : Int) (hno : Fs = [] ∨ (Fs.getLast?.getD fr0).kind ≠ kind) :
    Calls Tryz.prog 69 #[.pointer (some ⟨p, 0, none⟩), .int .i64 kind] w fun e w' => e = .returned (.tuple #[.agg (frL fr0 (.slice none 0 0)).toArray, .int .i64 (-6)]) ∧ Mod (fun _ => False) w o w' o := by
  have hm1 := (Mod.refl (fun _ => False) hwf).alloc (.cells #[.int .i64 0, .int .i64 0, .int .i64 0, .int .i64 0, .int .i64 0, .slice none 0 0] 58)
  have hs1 := hs.kept hm1 (fun h => h)
  have hB := Blk.new w [.int .i64 0, .int .i64 0, .int .i64 0, .int .i64 0, .int .i64 0, .slice none 0 0] 58
  have hH := Lib.hid hno; clear hno
  go_enter Tryz.func69, Tryz.ntmps69
  go_wp2_with fail
  refine (frames_upper_no _ o t p Fs hs1 hm1.wf kind hH.out).mono ?_
  rintro e w1 ⟨rfl, hm2⟩
  obtain ⟨b0, b1, b2, b3, b4, b5, bf⟩ := (hB.kept hm2 (fun h => h)).six
  go_wp2
  refine bodyPost_ret (v := .tuple #[.agg #[.int .i64 0, .int .i64 0, .int .i64 0, .int .i64 0, .int .i64 0, .slice none 0 0], .int .i64 (-6)]) (by simp [results, Tryz.results69, go_sem, b0, b1, b2, b3, b4, b5]) rfl ?_
  refine ⟨rfl, ?_⟩
  (repeat (refine Mod.setNew ?_ _ _ (by simp)))
  exact hm1.trans hm2

set_option maxHeartbeats 400000 in
/-- Pop, either way. -/
theorem frames_Pop (w : World) (o : Owner) (t p : Nat) (Fs : List Fr) (hs : FramesAt w o t p Fs) (hwf : Wf w o) (kind : Int) (hfl : ∀ f ∈ Fs, f.l.length ≤ 1000) :
    Calls Tryz.prog 69 #[.pointer (some ⟨p, 0, none⟩), .int .i64 kind] w fun e w' => ∃ lv, e = .returned (.tuple #[.agg (frL (popF Fs kind).1 lv).toArray, .int .i64 (popF Fs kind).2.2]) ∧ ∃ o', Mod (· = t) w o w' o' ∧
      FramesAt w' o' t p (popF Fs kind).2.1 ∧ LRow w' o' 0 lv (popF Fs kind).1.l := by
  by_cases hp : Fs ≠ [] ∧ (Fs.getLast?.getD fr0).kind = kind
  · have hpop : popF Fs kind = (Fs.getLast?.getD fr0, Fs.dropLast, 0) := if_pos hp
    rw [hpop]
    rcases List.eq_nil_or_concat Fs with rfl | ⟨Fs', f, rfl⟩
    · exact absurd rfl hp.1
    simp only [List.concat_eq_append] at *
    have hlast : ((Fs' ++ [f]).getLast?.getD fr0) = f := by simp
    rw [hlast] at hp ⊢
    rw [← hp.2, List.dropLast_concat]
    exact frames_Pop_yes w o t p Fs' f hs hwf (hfl f (by simp))
  · have hpop : popF Fs kind = (fr0, Fs, -6) := if_neg hp
    rw [hpop]
    refine (frames_Pop_no w o t p Fs hs hwf kind ?_).mono fun e w' ⟨he, hm⟩ => ⟨_, he, o, hm.mono (fun _ h => h.elim), hs.kept hm (fun h => h), Row.nil _ _ _ _ _⟩
    by_cases h1 : Fs = []
    · exact .inl h1
    · exact .inr (fun h2 => hp ⟨h1, h2⟩)

end Go.Proofs.YtjcaidbkbdkpeaaGreatDoor
