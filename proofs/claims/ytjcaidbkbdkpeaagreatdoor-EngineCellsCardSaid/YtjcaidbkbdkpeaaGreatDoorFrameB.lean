/- The frames, more: what is read of them. -/
import Derived.Test.YtjcaidbkbdkpeaaGreatDoorFrame
import Derived.Deep.RegionWith
import Derived.Deep.RegionHeld3
namespace Go.Proofs.YtjcaidbkbdkpeaaGreatDoor
open Go Go.RowKit Go.Rh

set_option maxHeartbeats 400000 in
theorem frames_Depth_raw (w : World) (p n c : Nat) (a : Option Addr) (c0 : w.cell? ⟨p, 0, none⟩ = some (.slice a n c)) :
    Calls Tryz.prog 19 #[.pointer (some ⟨p, 0, none⟩)] w fun e w' => e = .returned (.int .i64 n) ∧ w = w' := by
  go_enter Tryz.func19, Tryz.ntmps19
  go_wp2
  go_ret
  exact ⟨rfl, rfl⟩

def fr0 : Fr := ⟨0, 0, 0, 0, 0, []⟩

/-- What is known of the frame at a place. -/
theorem FramesAt.get {w : World} {o : Owner} {t p : Nat} {Fs : List Fr} (h : FramesAt w o t p Fs) {i : Nat} {f : Fr} (hi : Fs[i]? = some f) :
    ∃ g c la lc, w.cell? ⟨p, 0, none⟩ = some (.slice (some ⟨g, 0, none⟩) Fs.length c) ∧ p < w.heap.size ∧ g < w.heap.size ∧ p ≠ g ∧ o g = t ∧ LRow w o t (.slice la f.l.length lc) f.l ∧
      (∀ j u, (frL f (.slice la f.l.length lc))[j]? = some u → w.cell? ⟨g, i * 6 + j, none⟩ = some u) ∧ (∀ j, w.frozen? ⟨g, j, none⟩ = false) ∧ (∀ j, w.frozen? ⟨p, j, none⟩ = false) := by
  obtain ⟨h0, h1, h2, v, G, hG, hb, hr, hl, ha⟩ := h
  obtain ⟨q, hq, rfl⟩ : ∃ q, G[i]? = some q ∧ q.f = f := by
    rw [← hG, List.getElem?_map] at hi
    cases hx : G[i]? with
    | none => rw [hx] at hi; simp at hi
    | some q => rw [hx] at hi; simp at hi; exact ⟨q, rfl, hi⟩
  have hlr := hl q (List.mem_of_getElem? hq)
  obtain ⟨la, lc, he, _⟩ := hlr.len
  have hlt := (List.getElem?_eq_some_iff.1 hq).1
  have hlen : G.length = Fs.length := by rw [← hG, List.length_map]
  have hne := hr.ne hb (by decide)
  have ho := hr.2
  rcases hr.1.2 with ⟨_, h3⟩ | ⟨g, cap, cur, h3, _, h4, h5, h6, h7, h8⟩
  · omega
  · subst h3
    refine ⟨g, cap, la, lc, hb.c 0 _ rfl, hb.lt, (Array.getElem?_eq_some_iff.1 h4).1, (hne g rfl).symm, ho g rfl, he ▸ hlr, ?_, ?_, hb.frozen⟩
    · intro j u hu
      have hj : j < 6 := by
        have := (List.getElem?_eq_some_iff.1 hu).1
        simpa using this
      have h9 := hr.cells (a := ⟨g, 0, none⟩) rfl (i * 6 + j) u (by rw [flat_get FrV.cells 6 FrV.cells_length G i j q hq hj]; rw [← he] at hu; exact hu)
      rw [Addr.add_lit, Nat.zero_add] at h9
      exact h9
    · intro j; simp [World.frozen?, h4]

set_option maxHeartbeats 400000 in
theorem frames_Top_none (w : World) (o : Owner) (t p : Nat) (hs : FramesAt w o t p []) (hwf : Wf w o) :
    Calls Tryz.prog 41 #[.pointer (some ⟨p, 0, none⟩)] w fun e w' => e = .returned (.tuple #[.agg (frL fr0 (.slice none 0 0)).toArray, .bool false]) ∧ Mod (fun _ => False) w o w' o := by
  have hk := hs.kept ((Mod.refl (fun _ => False) hwf).alloc (.cells #[.int .i64 0, .int .i64 0, .int .i64 0, .int .i64 0, .int .i64 0, .slice none 0 0] 58)) (fun h => h)
  go_enter Tryz.func41, Tryz.ntmps41
  go_wp2_with (go_at_call 19; refine (frames_Depth _ o t p [] hk).mono ?_; rintro e w' ⟨rfl, rfl⟩)
  refine bodyPost_ret (v := .tuple #[.agg #[.int .i64 0, .int .i64 0, .int .i64 0, .int .i64 0, .int .i64 0, .slice none 0 0], .bool false]) (by simp [results, Tryz.results41, go_sem]) rfl ?_
  refine ⟨rfl, ?_⟩
  (repeat (refine Mod.setNew ?_ _ _ (by simp)))
  exact (Mod.refl _ hwf).alloc _

set_option maxHeartbeats 1000000 in
set_option maxRecDepth 100000 in
theorem frames_Top (w : World) (o : Owner) (t p : Nat) (Fs : List Fr) (f : Fr) (hs : FramesAt w o t p (Fs ++ [f])) (hwf : Wf w o) (hfl : f.l.length ≤ 1000) :
    Calls Tryz.prog 41 #[.pointer (some ⟨p, 0, none⟩)] w fun e w' => ∃ lv o', e = .returned (.tuple #[.agg (frL f lv).toArray, .bool true]) ∧ Mod (fun _ => False) w o w' o' ∧ LRow w' o' 0 lv f.l := by
  have hk := hs.kept ((Mod.refl (fun _ => False) hwf).alloc (.cells #[.int .i64 0, .int .i64 0, .int .i64 0, .int .i64 0, .int .i64 0, .slice none 0 0] 58)) (fun h => h)
  obtain ⟨g, c, la, lc, c0, c1, c2, c3, c4, c5, c6, c7, c8⟩ := hs.get (i := Fs.length) (f := f) (by simp)
  have hn : Hid ((Fs ++ [f]).length = Fs.length + 1) := by unfold Hid; simp
  rw [hn.out] at c0
  obtain ⟨k, x1, x2, x3, x4, l⟩ := f
  dsimp only [frL] at *
  have d0 := c6 0 _ rfl
  have d1 := c6 1 _ rfl
  have d2 := c6 2 _ rfl
  have d3 := c6 3 _ rfl
  have d4 := c6 4 _ rfl
  have d5 := c6 5 _ rfl
  rw [Nat.add_zero] at d0
  clear c6
  have hlen : Fs.length ≤ 127 := by have := hs.2.2.1; simp at this; omega
  have hi0 : (0 : Int) ≤ (Fs.length : Int) := by omega
  have hi1 : (Fs.length : Int) < ((Fs.length + 1 : Nat) : Int) := by omega
  have hi2 : (Fs.length : Int) < (Fs.length : Int) + 1 := by omega
  have n1 : w.heap.size ≠ p := by omega
  have n2 : w.heap.size ≠ g := by omega
  have hi4 : IntKind.i64.wrap (Fs.length : Int) = (Fs.length : Int) := IntWalk.i64_in _ (by omega)
  have hi3 : IntKind.i64.wrap ((Fs.length : Int) + 1 - 1) = (Fs.length : Int) := by rw [Int.add_sub_cancel]; exact IntWalk.i64_in _ (by omega)
  go_enter Tryz.func41, Tryz.ntmps41
  go_wp2_with (go_at_call 19; refine (frames_Depth _ o t p _ hk).mono ?_; rintro e w' ⟨rfl, rfl⟩; rw [hn.out])
  have hB := Blk.new w [.int .i64 0, .int .i64 0, .int .i64 0, .int .i64 0, .int .i64 0, .slice none 0 0] 58
  have hm1 := (Mod.refl (fun _ => False) hwf).alloc (.cells #[.int .i64 0, .int .i64 0, .int .i64 0, .int .i64 0, .int .i64 0, .slice none 0 0] 58)
  have hl1 := c5.rd.alloc (.cells #[.int .i64 0, .int .i64 0, .int .i64 0, .int .i64 0, .int .i64 0, .slice none 0 0] 58)
  go_region_held3 (fun w' => w'.cell? ⟨p, 0, none⟩ = some (.slice (some ⟨g, 0, none⟩) (Fs.length + 1) c) ∧ w'.cell? ⟨g, Fs.length * 6, none⟩ = some (.int .i64 k) ∧ w'.cell? ⟨g, Fs.length * 6 + 1, none⟩ = some (.int .i64 x1) ∧ w'.cell? ⟨g, Fs.length * 6 + 2, none⟩ = some (.int .i64 x2) ∧
      w'.cell? ⟨g, Fs.length * 6 + 3, none⟩ = some (.int .i64 x3) ∧ w'.cell? ⟨g, Fs.length * 6 + 4, none⟩ = some (.int .i64 x4) ∧ w'.cell? ⟨g, Fs.length * 6 + 5, none⟩ = some (.slice la l.length lc))
    (go_keep)
    ((go_simp; go_at_call 46; refine (frame_own _ o (by exact hm1.wf) ⟨k, x1, x2, x3, x4, l⟩ (.slice la l.length lc) t hfl (by exact hl1.drew) 0).mono ?_
      rintro e w1 ⟨lv', o1, rfl, hm2, hr2, hz, hfr⟩
      obtain ⟨a', c', rfl, _⟩ := hr2.len
      have hB1 := hB.drew.kept hm2 (fun h => h)
      have e1 := hB1.six
      have d2 := (hB.drew.kept hm2 (fun h => h)).lt
      have hq := (hm1.drew.trans hm2).cells))
  go_wp2
  obtain ⟨b0, b1, b2, b3, b4, b5, bf⟩ := e1
  refine bodyPost_ret (v := .tuple #[.agg #[.int .i64 k, .int .i64 x1, .int .i64 x2, .int .i64 x3, .int .i64 x4, .slice a' l.length c'], .bool true]) (by simp [results, Tryz.results41, go_sem, b0, b1, b2, b3, b4, b5]) rfl ?_
  refine ⟨_, o1, rfl, ?_, ?_⟩
  · (repeat (refine Mod.setNew ?_ _ _ (by simp)))
    exact hm1.drew.trans hm2
  · (repeat (refine Row.other ?_ _ _ (hr2.ne hB1 (by decide))))
    exact hr2

end Go.Proofs.YtjcaidbkbdkpeaaGreatDoor
