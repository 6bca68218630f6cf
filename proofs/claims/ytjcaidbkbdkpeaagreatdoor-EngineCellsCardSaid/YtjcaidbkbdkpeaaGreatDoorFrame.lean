/- The frames: what each of their calls does, but for the calls that range over a function. -/
import Derived.Test.YtjcaidbkbdkpeaaGreatDoorProg
import Derived.Test.YtjcaidbkbdkpeaaGreatDoorBase
import Derived.Test.YtjcaidbkbdkpeaaGreatDoorStack
import Derived.Deep.RegionHeld3
import Derived.Deep.RegionLaw
import Derived.StillTailTactics
namespace Go.Proofs.YtjcaidbkbdkpeaaGreatDoor
open Go Go.RowKit Go.Rh

/-- A frame: its kind, two numbers, two cells, its locals. -/
structure Fr where
  kind : Int
  a : Int
  b : Int
  x : Int
  y : Int
  l : List Int
deriving DecidableEq, Inhabited

/-- A frame in memory: beside it the slice that its locals are. -/
structure FrV where
  f : Fr
  lv : Value

abbrev frL (f : Fr) (lv : Value) : List Value := [.int .i64 f.kind, .int .i64 f.a, .int .i64 f.b, .int .i64 f.x, .int .i64 f.y, lv]
def FrV.cells (g : FrV) : List Value := frL g.f g.lv
theorem FrV.cells_length (g : FrV) : g.cells.length = 6 := rfl

theorem elFrame : El Tryz.prog 92 58 6 64 := El.mk' (z := .agg #[.int .i64 0, .int .i64 0, .int .i64 0, .int .i64 0, .int .i64 0, .slice none 0 0]) Tryz.underlying92 (by kernel_rfl) rfl (by decide)

/-- The locals of a frame, a slice of the frames' own. -/
abbrev LRow (w : World) (o : Owner) (t : Nat) (lv : Value) (l : List Int) : Prop := Row w o t 27 1 lv l.length (l.map cv)

def Apart (G : List FrV) : Prop := G.Pairwise fun g h => ∀ k, g.lv.ownBlock = some k → h.lv.ownBlock ≠ some k

/-- The frames' object at block p, of owner t. -/
def FramesAt (w : World) (o : Owner) (t : Nat) (p : Nat) (Fs : List Fr) : Prop :=
  t ≠ 0 ∧ o p = t ∧ Fs.length ≤ 128 ∧ ∃ v G, G.map FrV.f = Fs ∧ Blk w p [v] 94 ∧ Row w o t 58 6 v Fs.length (G.flatMap FrV.cells) ∧ (∀ g ∈ G, LRow w o t g.lv g.f.l) ∧ Apart G

theorem FramesAt.to {w w1 : World} {o o1 : Owner} {t p : Nat} {Fs : List Fr} (h : FramesAt w o t p Fs) (m : KeptAt t w o w1 o1) : FramesAt w1 o1 t p Fs := by
  obtain ⟨h0, h1, h2, v, G, hG, hb, hr, hl, ha⟩ := h
  exact ⟨h0, (m p hb.lt h1).2.trans h1, h2, v, G, hG, hb.to (m p hb.lt h1).1, hr.to (fun k hk hlt => m k hlt (hr.2 k hk)), fun g hg => (hl g hg).to (fun k hk hlt => m k hlt ((hl g hg).2 k hk)), ha⟩

theorem FramesAt.kept {T : Nat → Prop} {w w1 : World} {o o1 : Owner} {t p : Nat} {Fs : List Fr} (h : FramesAt w o t p Fs) (m : Mod T w o w1 o1) (hT : ¬ T t) : FramesAt w1 o1 t p Fs := h.to (m.keptAt hT)

set_option maxHeartbeats 400000 in
theorem frames_New (w : World) (o : Owner) (hwf : Wf w o) (t : Nat) (ht : t ≠ 0) :
    Calls Tryz.prog 50 #[] w fun e w' => ∃ p o', e = .returned (.pointer (some ⟨p, 0, none⟩)) ∧ Mod (fun _ => False) w o w' o' ∧ FramesAt w' o' t p [] := by
  go_enter Tryz.func50, Tryz.ntmps50
  go_wp2
  go_ret
  exact ⟨_, _, rfl, (Mod.refl _ hwf).allocTo _ t, ht, Owner.put_same _ _ _, by simp, _, [], rfl, Blk.new w [.slice none 0 0] _, Row.nil _ _ _ _ _, by simp, List.Pairwise.nil⟩

set_option maxHeartbeats 400000 in
theorem frames_Depth (w : World) (o : Owner) (t p : Nat) (Fs : List Fr) (hs : FramesAt w o t p Fs) :
    Calls Tryz.prog 19 #[.pointer (some ⟨p, 0, none⟩)] w fun e w' => e = .returned (.int .i64 Fs.length) ∧ w = w' := by
  obtain ⟨_, _, _, v, G, _, hb, hr, _, _⟩ := hs
  obtain ⟨a, c, rfl, _⟩ := hr.len
  have c0 := hb.c 0 _ rfl
  clear hb hr
  go_enter Tryz.func19, Tryz.ntmps19
  go_wp2
  go_ret
  exact ⟨rfl, rfl⟩

set_option maxHeartbeats 400000 in
theorem frame_own (w : World) (o : Owner) (hwf : Wf w o) (f : Fr) (lv : Value) (t : Nat) (hl : f.l.length ≤ 1000) (hr : Rd w o t 1 lv f.l.length (f.l.map cv)) (t' : Nat) :
    Calls Tryz.prog 46 #[.agg (frL f lv).toArray] w fun e w' => ∃ lv' o', e = .returned (.agg (frL f lv').toArray) ∧ Mod (fun _ => False) w o w' o' ∧ LRow w' o' t' lv' f.l ∧ w.heap.size < w'.heap.size ∧ ∀ k, lv'.ownBlock = some k → w.heap.size ≤ k := by
  obtain ⟨k, a, b, x, y, l⟩ := f
  obtain ⟨a1, c1, rfl, _⟩ := hr.len
  dsimp only [frL] at *
  have hr1 := (hr.alloc (.cells (frL ⟨k, a, b, x, y, l⟩ (.slice a1 l.length c1)).toArray 58)).alloc (.cells #[.int .i64 0, .int .i64 0, .int .i64 0, .int .i64 0, .int .i64 0, .slice none 0 0] 58)
  have hm1 := ((Mod.refl (fun _ => False) hwf).alloc (.cells (frL ⟨k, a, b, x, y, l⟩ (.slice a1 l.length c1)).toArray 58)).alloc (.cells #[.int .i64 0, .int .i64 0, .int .i64 0, .int .i64 0, .int .i64 0, .slice none 0 0] 58)
  dsimp only [frL] at hr1 hm1
  go_enter Tryz.func46, Tryz.ntmps46
  go_wp2_with fail
  refine (clone_cells _ o hm1.wf _ _ l t hr1 (by omega) t').mono ?_
  rintro e w1 ⟨v', o1, rfl, hr2, hm2, hfr⟩
  have hA := ((Blk.new w [.int .i64 k, .int .i64 a, .int .i64 b, .int .i64 x, .int .i64 y, .slice a1 l.length c1] 58).alloc (.cells #[.int .i64 0, .int .i64 0, .int .i64 0, .int .i64 0, .int .i64 0, .slice none 0 0] 58)).kept hm2 (fun h => h)
  have hB := (Blk.new (w.alloc (.cells #[.int .i64 k, .int .i64 a, .int .i64 b, .int .i64 x, .int .i64 y, .slice a1 l.length c1] 58)) [.int .i64 0, .int .i64 0, .int .i64 0, .int .i64 0, .int .i64 0, .slice none 0 0] 58).kept hm2 (fun h => h)
  rw [World.size_alloc] at hB
  obtain ⟨a0, a1, a2, a3, a4, a5, af⟩ := hA.six
  obtain ⟨b0, b1, b2, b3, b4, b5, bf⟩ := hB.six
  obtain ⟨a', c', rfl, _⟩ := hr2.len
  have hneA := hr2.ne hA (by decide)
  have hneB := hr2.ne hB (by decide)
  go_wp2
  refine bodyPost_ret (v := .agg #[.int .i64 k, .int .i64 a, .int .i64 b, .int .i64 x, .int .i64 y, .slice a' l.length c']) (by simp [results, Tryz.results46, go_sem, b0, b1, b2, b3, b4, b5]) rfl ?_
  refine ⟨_, o1, rfl, ?_, ?_, by have := hm2.size; simp at this ⊢; omega, fun k hk => by have := hfr k hk; simp at this; omega⟩
  · (repeat (refine Mod.setNew ?_ _ _ (by simp)))
    exact hm1.trans hm2
  · (repeat (refine Row.other ?_ _ _ (by first | exact hneA | exact hneB)))
    exact hr2

set_option maxHeartbeats 400000 in
theorem frames_Cut (w : World) (o : Owner) (t p : Nat) (Fs : List Fr) (hs : FramesAt w o t p Fs) (hwf : Wf w o) (n : Int) :
    Calls Tryz.prog 74 #[.pointer (some ⟨p, 0, none⟩), .int .i64 n] w fun e w' => e = .returned (.tuple #[]) ∧ Mod (· = t) w o w' o ∧ FramesAt w' o t p (Fs.take n.toNat) := by
  obtain ⟨m, hm⟩ : ∃ m : Nat, imax n 0 = (m : Int) := ⟨n.toNat, by rw [imax_eq]; omega⟩
  have hmn : n.toNat = m := by rw [imax_eq] at hm; omega
  rw [hmn]
  have hs0 := hs
  obtain ⟨h0, h1, h2, v, G, hG, hb, hr, hl, ha⟩ := hs
  obtain ⟨a, c, rfl, hcap⟩ := hr.len
  have c0 := hb.c 0 _ rfl
  have f0 := hb.frozen
  by_cases hlt : m < Fs.length
  · go_enter Tryz.func74, Tryz.ntmps74
    go_wp2_with (go_at_call 19; refine (frames_Depth _ o t p Fs hs0).mono ?_; rintro e w' ⟨rfl, rfl⟩)
    go_end0
    have hne := hr.ne hb (by decide)
    have hlen : G.length = Fs.length := by rw [← hG, List.length_map]
    refine ⟨rfl, (Mod.refl _ hwf).setCell _ _ (fun _ => h1), h0, h1, by simp; omega, _, G.take m, by rw [List.map_take, hG], hb.set 0 _, ?_, ?_, ?_⟩
    · have hx := (hr.cut rfl m (by omega)).other ⟨p, 0, none⟩ (.slice a m c) (fun b hb' => hne b (by cases a <;> exact hb'))
      rw [List.length_take, Nat.min_eq_left (by omega)]
      have e : (G.take m).flatMap FrV.cells = (G.flatMap FrV.cells).take (m * 6) := flat_take _ 6 FrV.cells_length G m
      rw [e]
      exact hx
    · intro g hg
      exact (hl g (List.mem_of_mem_take hg)).other _ _ ((hl g (List.mem_of_mem_take hg)).ne hb (by decide))
    · exact List.Pairwise.take ha
  · go_enter Tryz.func74, Tryz.ntmps74
    go_wp2_with (go_at_call 19; refine (frames_Depth _ o t p Fs hs0).mono ?_; rintro e w' ⟨rfl, rfl⟩)
    go_end0
    exact ⟨rfl, Mod.refl _ hwf, by rw [List.take_of_length_le (by omega)]; exact hs0⟩

def pushF (Fs : List Fr) (f : Fr) : List Fr × Int := if Fs.length < 128 then (Fs ++ [f], 0) else (Fs, -5)

set_option maxHeartbeats 1000000 in
set_option maxRecDepth 100000 in
theorem frames_Push (w : World) (o : Owner) (t p : Nat) (Fs : List Fr) (hs : FramesAt w o t p Fs) (hwf : Wf w o) (f : Fr) (lv : Value) (t2 : Nat) (hf : f.l.length ≤ 1000) (hlv : Rd w o t2 1 lv f.l.length (f.l.map cv)) :
    Calls Tryz.prog 22 #[.pointer (some ⟨p, 0, none⟩), .agg (frL f lv).toArray] w fun e w' => e = .returned (.int .i64 (pushF Fs f).2) ∧ ∃ o', Mod (· = t) w o w' o' ∧ FramesAt w' o' t p (pushF Fs f).1 := by
  have hs0 := hs
  obtain ⟨h0, h1, h2, v, G, hG, hb, hr, hl, ha⟩ := hs
  obtain ⟨a, c, rfl, hcap⟩ := hr.len
  by_cases hlt : Fs.length < 128
  · obtain ⟨k, x1, x2, x3, x4, l⟩ := f
    obtain ⟨a1, c1, rfl, _⟩ := hlv.len
    dsimp only [frL] at *
    have hlv1 := hlv.alloc (.cells #[.int .i64 k, .int .i64 x1, .int .i64 x2, .int .i64 x3, .int .i64 x4, .slice a1 l.length c1] 58)
    have hm1 := (Mod.refl (· = t) hwf).alloc (.cells #[.int .i64 k, .int .i64 x1, .int .i64 x2, .int .i64 x3, .int .i64 x4, .slice a1 l.length c1] 58)
    have c0 := hb.c 0 _ rfl
    have f0 := hb.frozen
    have hplt := hb.lt
    go_enter Tryz.func22, Tryz.ntmps22
    have hbx := (hb.alloc (.cells #[.int .i64 k, .int .i64 x1, .int .i64 x2, .int .i64 x3, .int .i64 x4, .slice a1 l.length c1] 58))
    have hX := Blk.new w [.int .i64 k, .int .i64 x1, .int .i64 x2, .int .i64 x3, .int .i64 x4, .slice a1 l.length c1] 58
    go_wp2
    go_region_law
      ((first
        | (go_simp; go_at_call 46; refine (frame_own _ o (by exact hm1.wf) ⟨k, x1, x2, x3, x4, l⟩ (.slice a1 l.length c1) t2 hf (by exact hlv1.drew) t).mono ?_
           rintro e w1 ⟨lv', o1, rfl, hm2, hr2, hz, hfr⟩
           obtain ⟨a', c', rfl, _⟩ := hr2.len
           have d0 := (hbx.drew.kept hm2 (fun h => h)).c 0 _ rfl
           have d1 := (hX.drew.kept hm2 (fun h => h)).six
           have d2 := (hbx.drew.kept hm2 (fun h => h)).lt
           have d3 := (hX.drew.kept hm2 (fun h => h)).lt
           have hr3 := (((hr.alloc (.cells #[.int .i64 k, .int .i64 x1, .int .i64 x2, .int .i64 x3, .int .i64 x4, .slice a1 l.length c1] 58)).drew).kept hm2 (fun h => h)).alloc (.cells #[.int .i64 k, .int .i64 x1, .int .i64 x2, .int .i64 x3, .int .i64 x4, (.slice a' l.length c')] 58)
           have hy3 := Rd.new (size := 6) w1 o1 [.int .i64 k, .int .i64 x1, .int .i64 x2, .int .i64 x3, .int .i64 x4, (.slice a' l.length c')] 58 1 rfl (by decide) hm2.wf)
        | (refine step_append_row elFrame (by rfl) (by rfl) (hm2.alloc (.cells #[.int .i64 k, .int .i64 x1, .int .i64 x2, .int .i64 x3, .int .i64 x4, (.slice a' l.length c')] 58)).wf (by rfl) hr3 (by rfl) hy3 (by simp [Value.oneCell']) (by unfold maxLen; omega) (by omega) ?_
           intro v' w2 o2 hr4 hm4 hg4 _
           have e0 := ((hbx.drew.kept hm2 (fun h => h)).alloc (.cells #[.int .i64 k, .int .i64 x1, .int .i64 x2, .int .i64 x3, .int .i64 x4, (.slice a' l.length c')] 58)).grown hg4 (hr3.ne ((hbx.drew.kept hm2 (fun h => h)).alloc (.cells #[.int .i64 k, .int .i64 x1, .int .i64 x2, .int .i64 x3, .int .i64 x4, (.slice a' l.length c')] 58)) (by decide))
           have e1 := e0.c 0 _ rfl
           have e2 := e0.frozen
           have e3 := (((hX.drew.kept hm2 (fun h => h)).alloc (.cells #[.int .i64 k, .int .i64 x1, .int .i64 x2, .int .i64 x3, .int .i64 x4, .slice a' l.length c'] 58)).grown hg4 (fun k hk => by have := (hr.1.lt k hk).2; omega)).six
           obtain ⟨a4, c4, rfl, _⟩ := hr4.len)))
    all_goals
      go_wp2
      go_ret
      have hall : Mod (· = t) w o w2 o2 := ((hm1.drew.trans (hm2.mono (fun _ h => h.elim))).alloc _).trans hm4
      have hne := hr4.ne e0 (by decide)
      have hsz1 := hm2.size
      simp only [pushF, if_pos hlt]
      refine ⟨rfl, o2, hall.setCell _ _ (fun _ => h1), h0, (hall.own p hb.lt).trans h1, by simp; omega, _, G ++ [⟨⟨k, x1, x2, x3, x4, l⟩, .slice a' l.length c'⟩], by simp [hG], e0.set 0 _, ?_, ?_, ?_⟩
      · have hx := hr4.other ⟨p, 0, none⟩ (.slice a4 (Fs.length + 1) c4) hne
        rw [List.length_append, List.flatMap_append]
        exact hx
      · intro g hg
        rcases List.mem_append.1 hg with hg | hg
        · have h3 := (((((hl g hg).alloc (.cells #[.int .i64 k, .int .i64 x1, .int .i64 x2, .int .i64 x3, .int .i64 x4, .slice a1 l.length c1] 58)).drew).kept hm2 (fun h => h)).alloc (.cells #[.int .i64 k, .int .i64 x1, .int .i64 x2, .int .i64 x3, .int .i64 x4, .slice a' l.length c'] 58))
          have h4 := h3.grown hg4 (h3.apart hr3 (by decide)) hm4.own
          exact h4.other _ _ (h4.ne e0 (by decide))
        · simp at hg; subst hg
          have h3 := hr2.alloc (.cells #[.int .i64 k, .int .i64 x1, .int .i64 x2, .int .i64 x3, .int .i64 x4, .slice a' l.length c'] 58)
          have h4 := h3.grown hg4 (h3.apart hr3 (by decide)) hm4.own
          exact h4.other _ _ (h4.ne e0 (by decide))
      · refine List.pairwise_append.2 ⟨ha, List.pairwise_singleton _ _, fun g hg h' hh' b hb1 hb2 => ?_⟩
        simp at hh'; subst hh'
        have q1 := ((hl g hg).1.lt b hb1).2
        have q2 := hfr b hb2
        simp at q2
        omega
  · have c0 := (hb.alloc (.cells (frL f lv).toArray 58)).c 0 _ rfl
    have hlt' : ¬ ((Fs.length : Int) < 128) := by omega
    obtain ⟨k, x1, x2, x3, x4, l⟩ := f
    obtain ⟨a1, c1, rfl, _⟩ := hlv.len
    dsimp only [frL] at *
    have cc1 := hb.c 0 _ rfl
    have hplt := hb.lt
    have hm1 := (Mod.refl (· = t) hwf).alloc (.cells #[.int .i64 k, .int .i64 x1, .int .i64 x2, .int .i64 x3, .int .i64 x4, .slice a1 l.length c1] 58)
    have hk := hs0.kept ((Mod.refl (fun _ => False) hwf).alloc (.cells #[.int .i64 k, .int .i64 x1, .int .i64 x2, .int .i64 x3, .int .i64 x4, .slice a1 l.length c1] 58)) (fun h => h)
    go_enter Tryz.func22, Tryz.ntmps22
    go_wp2
    go_ret
    simp only [pushF, if_neg hlt]
    exact ⟨rfl, o, hm1, hk⟩

end Go.Proofs.YtjcaidbkbdkpeaaGreatDoor
