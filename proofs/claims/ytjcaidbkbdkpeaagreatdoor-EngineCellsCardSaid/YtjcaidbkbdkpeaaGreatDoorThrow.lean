/- Something is thrown, and nothing catches. -/
import Derived.Test.YtjcaidbkbdkpeaaGreatDoorStep
namespace Go.Proofs.YtjcaidbkbdkpeaaGreatDoor
open Go Go.RowKit Go.Rh Go.Shelf
attribute [local go_sem] Oper.semAt_some

set_option maxRecDepth 100000 in
set_option maxHeartbeats 2000000 in
theorem frames_Catch_none (p c : Nat) (a : Option Addr) (w : World) (hp : p < w.heap.size) (hc : w.cell? ⟨p, 0, none⟩ = some (.slice a 0 c)) :
    Calls Tryz.prog 72 #[.pointer (some ⟨p, 0, none⟩)] w fun e W' => e = .returned (.tuple #[.agg #[.int .i64 0, .int .i64 0, .int .i64 0, .int .i64 0, .int .i64 0, .slice none 0 0], .bool false]) ∧ Below w.heap.size w W' := by
  refine (callsIn_wide (n := 3)).1 ?_
  refine callsIn_of_wp_marks Tryz.func72 rfl trivial ?_ rfl
  simp only [Tryz.ntmps72, List.size_toArray, List.length_cons, List.length_nil, Nat.reduceAdd, Nat.reduceSub, Array.replicate_succ, Array.replicate_zero, List.push_toArray, List.append_toArray, List.nil_append, List.cons_append]
  gi_wp2_with (refine ⟨trivial, ?_⟩; gi_at_call 106; refine callsIn_wide.2 ((frames_down _ p).mono ?_); rintro e w' ⟨rfl, rfl⟩)
  have bF := Blk.new (w.alloc (.cells #[.pointer (some ⟨p, 0, none⟩)] 50)) [.int .i64 0, .int .i64 0, .int .i64 0, .int .i64 0, .int .i64 0, .slice none 0 0] 58
  have bB := Boxed.new ((w.alloc (.cells #[.pointer (some ⟨p, 0, none⟩)] 50)).alloc (.cells #[.int .i64 0, .int .i64 0, .int .i64 0, .int .i64 0, .int .i64 0, .slice none 0 0] 58)) 4 (.bool false)
  have bN := Boxed.new (((w.alloc (.cells #[.pointer (some ⟨p, 0, none⟩)] 50)).alloc (.cells #[.int .i64 0, .int .i64 0, .int .i64 0, .int .i64 0, .int .i64 0, .slice none 0 0] 58)).alloc (.cells #[.bool false] 4)) 50 (.pointer (some ⟨p, 0, none⟩))
  rw [World.size_alloc] at bF
  rw [World.size_alloc, World.size_alloc] at bB
  rw [World.size_alloc, World.size_alloc, World.size_alloc] at bN
  have hB0 : Below w.heap.size w ((((w.alloc (.cells #[.pointer (some ⟨p, 0, none⟩)] 50)).alloc (.cells #[.int .i64 0, .int .i64 0, .int .i64 0, .int .i64 0, .int .i64 0, .slice none 0 0] 58)).alloc (.cells #[.bool false] 4)).alloc (.cells #[.pointer (some ⟨p, 0, none⟩)] 50)) :=
    ((((Below.refl _ w).alloc (Nat.le_refl _) _).alloc (by simp) _).alloc (by simp; omega) _).alloc (by simp; omega) _
  have fz := ((bF.alloc (.cells #[.bool false] 4)).alloc (.cells #[.pointer (some ⟨p, 0, none⟩)] 50))
  refine wpIn_rangeFunc_ownG (n := 3) (α := Fin 0) rfl (by decide) (gf := 138) (lb := #[.pointer (some ⟨w.heap.size + 1 + 1 + 1, 0, none⟩)]) rfl trivial (enters_of Tryz.func138 (by kernel_rfl) rfl)
    (down_stops_none 1 (w.heap.size + 1 + 1 + 1) p c a _ (by simp) (by simp; omega) bN.cell ((hB0.cell (p := ⟨p, 0, none⟩) hp).trans hc)) belowK_t (belowK_b (Nat.le_refl _)) (Below.refl _ _) (fun x => x.elim0)
    (fun _ W => ((∀ i v, [Value.int .i64 0, .int .i64 0, .int .i64 0, .int .i64 0, .int .i64 0, .slice none 0 0][i]? = some v → W.cell? ⟨w.heap.size + 1, i, none⟩ = some v ∧ W.frozen? ⟨w.heap.size + 1, i, none⟩ = false) ∧ W.cell? ⟨w.heap.size + 1 + 1, 0, none⟩ = some (.bool false) ∧ W.frozen? ⟨w.heap.size + 1 + 1, 0, none⟩ = false) ∧ Below w.heap.size w W)
    (fun _ _ _ => False)
    (OwnFrom.and (Own.from (fun s A B row hs hg hr => ⟨fun i v hv => ⟨cell_kept (hs.1 i v hv).1 hg hr, (frozen_kept (hs.1 i v hv).1 hg hr).trans (hs.1 i v hv).2⟩, cell_kept hs.2.1 hg hr, (frozen_kept hs.2.1 hg hr).trans hs.2.2⟩) _) (ownFrom_below (Nat.le_refl _) (by simp; omega)))
    (fun _ _ _ _ _ hs _ _ => hs)
    ⟨⟨fun i v hv => ⟨fz.c i v hv, fz.frozen i⟩, (bB.alloc _).cell, (bB.alloc _).frozen⟩, hB0⟩
    (fun x => x.elim0) ?assign ?body ?done ?stop
  case assign => intro l x; exact x.elim0
  case body => intro l pre x; exact x.elim0
  case done =>
    rintro D ys W hD _ ⟨⟨hcr, hcb, hfb⟩, hB⟩ hK
    obtain ⟨z0, f0⟩ := hcr 0 _ rfl
    obtain ⟨z1, f1⟩ := hcr 1 _ rfl
    obtain ⟨z2, f2⟩ := hcr 2 _ rfl
    obtain ⟨z3, f3⟩ := hcr 3 _ rfl
    obtain ⟨z4, f4⟩ := hcr 4 _ rfl
    obtain ⟨z5, f5⟩ := hcr 5 _ rfl
    clear hcr
    gi_wp2
    obtain ⟨W7, hW7⟩ : ∃ W7, W7 = ((((((W.setCell ⟨w.heap.size + 1, 0, none⟩ (.int .i64 0)).setCell ⟨w.heap.size + 1, 1, none⟩ (.int .i64 0)).setCell ⟨w.heap.size + 1, 2, none⟩ (.int .i64 0)).setCell ⟨w.heap.size + 1, 3, none⟩ (.int .i64 0)).setCell ⟨w.heap.size + 1, 4, none⟩ (.int .i64 0)).setCell ⟨w.heap.size + 1, 5, none⟩ (.slice none 0 0)).setCell ⟨w.heap.size + 1 + 1, 0, none⟩ (.bool false) := ⟨_, rfl⟩
    rw [← hW7]
    have e0 : W7.cell? ⟨w.heap.size + 1, 0, none⟩ = some (.int .i64 0) := by rw [hW7]; simp [go_sem, z0, z1, z2, z3, z4, z5, hcb]
    have e1 : W7.cell? ⟨w.heap.size + 1, 1, none⟩ = some (.int .i64 0) := by rw [hW7]; simp [go_sem, z0, z1, z2, z3, z4, z5, hcb]
    have e2 : W7.cell? ⟨w.heap.size + 1, 2, none⟩ = some (.int .i64 0) := by rw [hW7]; simp [go_sem, z0, z1, z2, z3, z4, z5, hcb]
    have e3 : W7.cell? ⟨w.heap.size + 1, 3, none⟩ = some (.int .i64 0) := by rw [hW7]; simp [go_sem, z0, z1, z2, z3, z4, z5, hcb]
    have e4 : W7.cell? ⟨w.heap.size + 1, 4, none⟩ = some (.int .i64 0) := by rw [hW7]; simp [go_sem, z0, z1, z2, z3, z4, z5, hcb]
    have e5 : W7.cell? ⟨w.heap.size + 1, 5, none⟩ = some (.slice none 0 0) := by rw [hW7]; simp [go_sem, z0, z1, z2, z3, z4, z5, hcb]
    have e6 : W7.cell? ⟨w.heap.size + 1 + 1, 0, none⟩ = some (.bool false) := by rw [hW7]; simp [go_sem, z0, z1, z2, z3, z4, z5, hcb]
    have h1 := (KeepsOthers.setCell W ⟨w.heap.size + 1, 0, none⟩ (.int .i64 0)).same D _ hK rfl
    have h2 := (KeepsOthers.setCell _ ⟨w.heap.size + 1, 1, none⟩ (.int .i64 0)).same D _ h1 rfl
    have h3 := (KeepsOthers.setCell _ ⟨w.heap.size + 1, 2, none⟩ (.int .i64 0)).same D _ h2 rfl
    have h4 := (KeepsOthers.setCell _ ⟨w.heap.size + 1, 3, none⟩ (.int .i64 0)).same D _ h3 rfl
    have h5 := (KeepsOthers.setCell _ ⟨w.heap.size + 1, 4, none⟩ (.int .i64 0)).same D _ h4 rfl
    have h6 := (KeepsOthers.setCell _ ⟨w.heap.size + 1, 5, none⟩ (.slice none 0 0)).same D _ h5 rfl
    have h7 := (KeepsOthers.setCell _ ⟨w.heap.size + 1 + 1, 0, none⟩ (.bool false)).same D _ h6 rfl
    have hB7 : Below w.heap.size w W7 := by
      rw [hW7]
      exact (((((((hB.setCell (p := ⟨w.heap.size + 1, 0, none⟩) (by simp) _).setCell (p := ⟨w.heap.size + 1, 1, none⟩) (by simp) _).setCell (p := ⟨w.heap.size + 1, 2, none⟩) (by simp) _).setCell (p := ⟨w.heap.size + 1, 3, none⟩) (by simp) _).setCell (p := ⟨w.heap.size + 1, 4, none⟩) (by simp) _).setCell (p := ⟨w.heap.size + 1, 5, none⟩) (by simp) _).setCell (p := ⟨w.heap.size + 1 + 1, 0, none⟩) (by simp; omega) _)
    rw [← hW7] at h7
    clear hW7 h1 h2 h3 h4 h5 h6
    have keep : ∀ q v, W7.cell? q = some v → (W7.putObj D (.deferred none)).cell? q = some v := fun q v hq => cell_kept hq (grownBy_putObj' _ D (.deferred none)) (fun r e => by cases e; exact ⟨_, h7, rfl⟩)
    have k0 := keep _ _ e0
    have k1 := keep _ _ e1
    have k2 := keep _ _ e2
    have k3 := keep _ _ e3
    have k4 := keep _ _ e4
    have k5 := keep _ _ e5
    have k6 := keep _ _ e6
    refine ⟨by simp, .inl ⟨_, _, rfl, run_takeDeferred h7, ?_⟩⟩
    refine ⟨.tuple #[.agg #[.int .i64 0, .int .i64 0, .int .i64 0, .int .i64 0, .int .i64 0, .slice none 0 0], .bool false], ?_, rfl, hB7.trans (belowK_b (w := w) (Nat.le_refl _) _ D _ _ (by simp at hD; omega) h7 rfl rfl)⟩
    simp [results, Tryz.f72, go_sem, k0, k1, k2, k3, k4, k5, k6]
  case stop =>
    rintro D c pre W _ _ h _
    exact h.elim

theorem catch_none (w : World) (o : Owner) (t p : Nat) (hs : FramesAt w o t p []) (hwf : Wf w o) :
    Calls Tryz.prog 72 #[.pointer (some ⟨p, 0, none⟩)] w fun e w' => e = .returned (.tuple #[.agg #[.int .i64 0, .int .i64 0, .int .i64 0, .int .i64 0, .int .i64 0, .slice none 0 0], .bool false]) ∧ Mod (fun _ => False) w o w' o := by
  obtain ⟨h0, h1, h2, v, G, hG, hb, hr, hl, ha⟩ := hs
  obtain ⟨a, c, rfl, _⟩ := hr.len
  have hGn : G = [] := by
    have := congrArg List.length hG
    simpa using this
  subst hGn
  exact (frames_Catch_none p c a w hb.lt (hb.c 0 _ rfl)).mono fun e w' ⟨h1, h2⟩ => ⟨h1, Mod.below hwf h2⟩

set_option maxHeartbeats 1000000 in
set_option maxRecDepth 100000 in
/-- Nothing catches: all is gone. -/
theorem e_Throw_dead (w : World) (o : Owner) (k : Nat) (h : Hd) (E : Eng) (he : EngAt w o k h E) (hwf : Wf w o) (hf : E.fs = []) (c : Int) :
    Calls Tryz.prog 44 #[gp h, .int .i64 c] w fun e w' => e = .returned (stat 4 0 c) ∧ ∃ o', Mod (InE k) w o w' o' ∧ EngAt w' o' k h { E with fs := [], c := { E.c with def_ := 0, on := 0, next := 0 }, s := { E.s with stack := cutS E.s.stack 0 } } := by
  obtain ⟨hm, hs⟩ := step_door w o hwf
  have he0 := he.same hm
  have hf' := Lib.hid hf
  clear hf
  go_enter Tryz.func44, Tryz.ntmps44
  go_wp2_with fail
  refine (e_place _ o k h _ he0 hm.wf 0 0).mono ?_
  rintro e w2 ⟨rfl, m2, he2⟩
  have hs2 := Box.kept hs m2
  obtain ⟨m3, he3⟩ := he2.withNext m2.wf 0
  have hs3 := Box.kept hs2 m3
  obtain ⟨ac, cc, ae, ce, aw, cw, c0, c1, c2, c3, c4, c5, c6, c7, c8, fz, hlt, r1, r2, r3⟩ := he2.1.open
  have d3 := he3.1.open
  obtain ⟨ac3, cc3, ae3, ce3, aw3, cw3, d0, d1, d2, d3, d4, d5, d6, d7, d8, dz, dlt, _, _, _⟩ := d3
  go_wp2_with fail
  refine (catch_none _ o (k + 2) h.fr (by have := he3.2.1; rw [hf'.out] at this; exact this) m3.wf).mono ?_
  rintro e w4 ⟨rfl, m4⟩
  have he4 := he3.same m4
  have hs4 := Box.kept (k := k) hs3 (m4.mono (fun _ h => h.elim))
  have hm5 := (Mod.refl (fun _ => False) m4.wf).alloc (.cells #[.int .i64 0, .int .i64 0, .int .i64 0, .int .i64 0, .int .i64 0, .slice none 0 0] 58)
  have he5 := he4.same hm5
  have hs5 := Box.kept (k := k) hs4 (hm5.mono (fun _ h => h.elim))
  obtain ⟨ac5, cc5, ae5, ce5, aw5, cw5, f0, f1, f2, f3, f4, f5, f6, f7, f8, fz5, flt, _, _, _⟩ := he5.1.open
  go_wp2_with (go_at_call 16; refine (p_Stack _ o k h _ he5).mono ?_; rintro e w' ⟨rfl, rfl⟩)
  refine (stack_Cut _ o _ _ _ he5.2.2.1.1 hm5.wf 0).mono ?_
  rintro e w6 ⟨rfl, o6, m6, hst6⟩
  obtain ⟨m6', he6⟩ := he5.fullStack m6 hst6
  have hs6 := Box.kept (k := k) hs5 m6'
  obtain ⟨ac6, cc6, ae6, ce6, aw6, cw6, g0, g1, g2, g3, g4, g5, g6, g7, g8, gz, glt, _, _, _⟩ := he6.1.open
  go_wp2_with fail
  refine (frames_Cut _ o6 _ _ _ he6.2.1 m6.wf 0).mono ?_
  rintro e w7 ⟨rfl, m7, hf7⟩
  obtain ⟨m7', he7⟩ := he6.fullFrames m7 hf7
  have hs7 := Box.kept (k := k) hs6 m7'
  obtain ⟨b0, b1, b2, bf⟩ := hs7.1.three
  go_wp2
  refine bodyPost_ret (v := stat 4 0 c) (by simp [results, Tryz.results44, go_sem, b0, b1, b2]) rfl ?_
  have hM := (((((((hm.mono (T' := InE k) (fun _ h => h.elim)).trans m2).trans m3).trans (m4.mono (fun _ h => h.elim))).trans (hm5.mono (fun _ h => h.elim))).trans m6').trans m7')
  exact ⟨rfl, fin3 hM he7 _ (Nat.le_refl _) hs7.2 _ _ _⟩
end Go.Proofs.YtjcaidbkbdkpeaaGreatDoor
