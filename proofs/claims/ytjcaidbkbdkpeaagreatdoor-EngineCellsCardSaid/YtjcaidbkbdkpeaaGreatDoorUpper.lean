/- The uppermost frame, if it is of a kind. -/
import Derived.Test.YtjcaidbkbdkpeaaGreatDoorDown
namespace Go.Proofs.YtjcaidbkbdkpeaaGreatDoor
open Go Go.RowKit Go.Rh Go.Shelf
attribute [local go_sem] Oper.semAt_some

theorem mixed : Tryz.prog.follows .mixedOrders = true := by kernel_rfl

theorem Mod.below {w w' : World} {o : Owner} (hwf : Wf w o) (h : Below w.heap.size w w') : Mod (fun _ => False) w o w' o :=
  ⟨h.os, h.tape, h.output, h.size, fun b hb => hwf b (by have := h.size; omega), fun _ _ => rfl, fun b hb _ => h.block b hb⟩

set_option maxRecDepth 100000 in
set_option maxHeartbeats 2000000 in
theorem upper_in (p g n cap : Nat) (hlen : n + 1 ≤ 128) (kind : Int) (kd : Nat → Int) (w : World) (hp : p < w.heap.size) (hg : g < w.heap.size)
    (hc : w.cell? ⟨p, 0, none⟩ = some (.slice (some ⟨g, 0, none⟩) (n + 1) cap)) (hk : ∀ i, i < n + 1 → w.cell? ⟨g, i * 6, none⟩ = some (.int .i64 (kd i))) :
    Calls Tryz.prog 105 #[.pointer (some ⟨p, 0, none⟩), .int .i64 kind] w fun e W' => e = .returned (.pointer (if kd n = kind then some ⟨g, n * 6, none⟩ else none)) ∧ Below w.heap.size w W' := by
  refine (callsIn_wide (n := 3)).1 ?_
  refine callsIn_of_wp_marks Tryz.func105 rfl trivial ?_ rfl
  simp only [Tryz.ntmps105, List.size_toArray, List.length_cons, List.length_nil, Nat.reduceAdd, Nat.reduceSub, Array.replicate_succ, Array.replicate_zero, List.push_toArray, List.append_toArray, List.nil_append, List.cons_append]
  gi_wp2_with (refine ⟨trivial, ?_⟩; gi_at_call 106; refine callsIn_wide.2 ((frames_down _ p).mono ?_); rintro e w' ⟨rfl, rfl⟩)
  have bK := Boxed.new w 3 (.int .i64 kind)
  have bR := Boxed.new (w.alloc (.cells #[.int .i64 kind] 3)) 157 (.pointer none)
  have bN := Boxed.new ((w.alloc (.cells #[.int .i64 kind] 3)).alloc (.cells #[.pointer none] 157)) 50 (.pointer (some ⟨p, 0, none⟩))
  rw [World.size_alloc] at bR
  rw [World.size_alloc, World.size_alloc] at bN
  have hB0 : Below w.heap.size w (((w.alloc (.cells #[.int .i64 kind] 3)).alloc (.cells #[.pointer none] 157)).alloc (.cells #[.pointer (some ⟨p, 0, none⟩)] 50)) :=
    (((Below.refl _ w).alloc (Nat.le_refl _) _).alloc (by simp) _).alloc (by simp; omega) _
  have hcells : ∀ W, Below w.heap.size w W → ∀ i, i < n + 1 → W.cell? ⟨g, i * 6, none⟩ = some (.int .i64 (kd i)) := fun W hW i hi => (hW.cell (p := ⟨g, i * 6, none⟩) hg).trans (hk i hi)
  refine wpIn_rangeFunc_ownG (n := 3) rfl (by decide) (gf := 138) (lb := #[.pointer (some ⟨w.heap.size + 1 + 1, 0, none⟩)]) rfl trivial (enters_of Tryz.func138 (by kernel_rfl) rfl)
    (down_stops 1 (w.heap.size + 1 + 1) p g (n + 1) cap hlen _ (by simp) (by simp; omega) bN.cell ((hB0.cell (p := ⟨p, 0, none⟩) hp).trans hc)) belowK_t (belowK_b (Nat.le_refl _)) (Below.refl _ _) (fun _ => rfl)
    (fun pre W => (pre = [] ∧ W.cell? ⟨w.heap.size, 0, none⟩ = some (.int .i64 kind) ∧ W.cell? ⟨w.heap.size + 1, 0, none⟩ = some (.pointer none) ∧ W.frozen? ⟨w.heap.size + 1, 0, none⟩ = false) ∧ Below w.heap.size w W)
    (fun c pre W => (∃ x : Fin (n + 1), pre = [x] ∧ ((c = .ret ∧ kd x.val = kind ∧ W.cell? ⟨w.heap.size + 1, 0, none⟩ = some (.pointer (some ⟨g, x.val * 6, none⟩))) ∨ (c = .exit 0 ∧ kd x.val ≠ kind ∧ W.cell? ⟨w.heap.size + 1, 0, none⟩ = some (.pointer none) ∧ W.frozen? ⟨w.heap.size + 1, 0, none⟩ = false))) ∧ Below w.heap.size w W)
    (OwnFrom.and (Own.from (fun s A B row hs hg hr => ⟨hs.1, cell_kept hs.2.1 hg hr, cell_kept hs.2.2.1 hg hr, (frozen_kept hs.2.2.1 hg hr).trans hs.2.2.2⟩) _) (ownFrom_below (Nat.le_refl _) (by simp; omega)))
    (fun c => OwnFrom.and (Own.from (fun s A B row hs hg hr => by
      obtain ⟨x, h1, ⟨h2, h3, h4⟩ | ⟨h2, h3, h4, h5⟩⟩ := hs
      · exact ⟨x, h1, .inl ⟨h2, h3, cell_kept h4 hg hr⟩⟩
      · exact ⟨x, h1, .inr ⟨h2, h3, cell_kept h4 hg hr, (frozen_kept h4 hg hr).trans h5⟩⟩) _) (ownFrom_below (Nat.le_refl _) (by simp; omega)))
    ⟨⟨rfl, ((bK.alloc _).alloc _).cell, (bR.alloc _).cell, (bR.alloc _).frozen⟩, hB0⟩
    (fun x => { tmps := #[.pointer (some ⟨p, 0, none⟩), .int .i64 kind, undef, .pointer (some ⟨w.heap.size, 0, none⟩), .pointer (some ⟨w.heap.size + 1, 0, none⟩), undef, .pointer (some ⟨g, x.val * 6, none⟩),
      .pointer (some ⟨p, 0, none⟩), .func (.func 138) #[] #[.pointer (some ⟨w.heap.size + 1 + 1, 0, none⟩)], .int .i64 (x.val : Int), .pointer (some ⟨g, x.val * 6, none⟩), undef, undef, undef, undef, undef, undef, undef], defers := [] }) ?assign ?body ?done ?stop
  case assign =>
    intro l x W K hK
    gi_wp2
    exact hK
  case body =>
    rintro l pre x W ⟨⟨rfl, hc1, hc2, hf2⟩, hB⟩ _
    have hx := hcells W hB x.val x.isLt
    have hmo := mixed
    gi_wp2
    gi_region_o
    all_goals gi_wp2
    all_goals first
      | (have hx2 : kd x.val = kind := by simpa using ‹(kd x.val == kind) = true›
         exact ⟨((KeepsOthers.setCell _ _ _).trans (KeepsOthers.drew _)).from _, ⟨x, rfl, .inl ⟨rfl, hx2, World.cell?_setCell_same' _ _ _ (by rw [hc2]; rfl)⟩⟩, (hB.setCell (p := ⟨w.heap.size + 1, 0, none⟩) (by simp) _).drew⟩)
      | (have hx2 : kd x.val ≠ kind := by simpa using ‹(kd x.val == kind) = false›
         exact ⟨(KeepsOthers.drew _).from _, ⟨x, rfl, .inr ⟨rfl, hx2, hc2, hf2⟩⟩, hB.drew⟩)
  case done =>
    rintro D ys W hD rfl ⟨⟨h0, _⟩, _⟩ _
    exact absurd (congrArg List.length h0) (by rw [downs_length]; simp)
  case stop =>
    rintro D c pre W hD ⟨k, hk1, rfl⟩ ⟨⟨x, hx, hcase⟩, hB⟩ hK
    have hk2 : k = 1 := by have := congrArg List.length hx; rw [downs_length] at this; simpa using this
    subst hk2
    have hxn : x.val = n := by
      simp [downs] at hx
      rw [← hx]
    rw [hxn] at hcase
    have hend : Below w.heap.size w (W.putObj D (.deferred none)) := hB.trans (belowK_b (w := w) (Nat.le_refl _) W D _ _ (by simp at hD; omega) hK rfl rfl)
    rcases hcase with ⟨rfl, h2, hcr⟩ | ⟨rfl, h2, hcr, hfr⟩
    · gi_wp2
      refine ⟨by simp, .inl ⟨_, _, rfl, run_takeDeferred hK, ?_⟩⟩
      have hc5 := cell_kept hcr (grownBy_putObj' _ D (.deferred none)) (fun r e => by cases e; exact ⟨_, hK, rfl⟩)
      refine ⟨.pointer (some ⟨g, n * 6, none⟩), ?_, rfl, hend⟩
      simp [results, Tryz.f105, go_sem, hc5]
    · gi_wp2
      have hK' := (KeepsOthers.setCell W ⟨w.heap.size + 1, 0, none⟩ (.pointer none)).same D _ hK rfl
      refine ⟨by simp, .inl ⟨_, _, rfl, run_takeDeferred hK', ?_⟩⟩
      have hc5 := cell_kept (World.cell?_setCell_same' W ⟨w.heap.size + 1, 0, none⟩ (.pointer none) (by rw [hcr]; rfl)) (grownBy_putObj' _ D (.deferred none)) (fun r e => by cases e; exact ⟨_, hK', rfl⟩)
      refine ⟨.pointer none, ?_, rfl, (hB.setCell (p := ⟨w.heap.size + 1, 0, none⟩) (by simp) _).trans (belowK_b (w := w) (Nat.le_refl _) _ D _ _ (by simp at hD; omega) hK' rfl rfl)⟩
      simp [results, Tryz.f105, go_sem, hc5]

set_option maxRecDepth 100000 in
set_option maxHeartbeats 2000000 in
theorem upper_none (p c : Nat) (a : Option Addr) (kind : Int) (w : World) (hp : p < w.heap.size) (hc : w.cell? ⟨p, 0, none⟩ = some (.slice a 0 c)) :
    Calls Tryz.prog 105 #[.pointer (some ⟨p, 0, none⟩), .int .i64 kind] w fun e W' => e = .returned (.pointer none) ∧ Below w.heap.size w W' := by
  refine (callsIn_wide (n := 3)).1 ?_
  refine callsIn_of_wp_marks Tryz.func105 rfl trivial ?_ rfl
  simp only [Tryz.ntmps105, List.size_toArray, List.length_cons, List.length_nil, Nat.reduceAdd, Nat.reduceSub, Array.replicate_succ, Array.replicate_zero, List.push_toArray, List.append_toArray, List.nil_append, List.cons_append]
  gi_wp2_with (refine ⟨trivial, ?_⟩; gi_at_call 106; refine callsIn_wide.2 ((frames_down _ p).mono ?_); rintro e w' ⟨rfl, rfl⟩)
  have bR := Boxed.new (w.alloc (.cells #[.int .i64 kind] 3)) 157 (.pointer none)
  have bN := Boxed.new ((w.alloc (.cells #[.int .i64 kind] 3)).alloc (.cells #[.pointer none] 157)) 50 (.pointer (some ⟨p, 0, none⟩))
  rw [World.size_alloc] at bR
  rw [World.size_alloc, World.size_alloc] at bN
  have hB0 : Below w.heap.size w (((w.alloc (.cells #[.int .i64 kind] 3)).alloc (.cells #[.pointer none] 157)).alloc (.cells #[.pointer (some ⟨p, 0, none⟩)] 50)) :=
    (((Below.refl _ w).alloc (Nat.le_refl _) _).alloc (by simp) _).alloc (by simp; omega) _
  refine wpIn_rangeFunc_ownG (n := 3) (α := Fin 0) rfl (by decide) (gf := 138) (lb := #[.pointer (some ⟨w.heap.size + 1 + 1, 0, none⟩)]) rfl trivial (enters_of Tryz.func138 (by kernel_rfl) rfl)
    (down_stops_none 1 (w.heap.size + 1 + 1) p c a _ (by simp) (by simp; omega) bN.cell ((hB0.cell (p := ⟨p, 0, none⟩) hp).trans hc)) belowK_t (belowK_b (Nat.le_refl _)) (Below.refl _ _) (fun x => x.elim0)
    (fun _ W => (W.cell? ⟨w.heap.size + 1, 0, none⟩ = some (.pointer none) ∧ W.frozen? ⟨w.heap.size + 1, 0, none⟩ = false) ∧ Below w.heap.size w W)
    (fun _ _ _ => False)
    (OwnFrom.and (Own.from (fun s A B row hs hg hr => ⟨cell_kept hs.1 hg hr, (frozen_kept hs.1 hg hr).trans hs.2⟩) _) (ownFrom_below (Nat.le_refl _) (by simp; omega)))
    (fun _ _ _ _ _ hs _ _ => hs)
    ⟨⟨(bR.alloc _).cell, (bR.alloc _).frozen⟩, hB0⟩
    (fun x => x.elim0) ?assign ?body ?done ?stop
  case assign => intro l x; exact x.elim0
  case body => intro l pre x; exact x.elim0
  case done =>
    rintro D ys W hD _ ⟨⟨hcr, hfr⟩, hB⟩ hK
    gi_wp2
    have hK' := (KeepsOthers.setCell W ⟨w.heap.size + 1, 0, none⟩ (.pointer none)).same D _ hK rfl
    refine ⟨by simp, .inl ⟨_, _, rfl, run_takeDeferred hK', ?_⟩⟩
    have hc5 := cell_kept (World.cell?_setCell_same' W ⟨w.heap.size + 1, 0, none⟩ (.pointer none) (by rw [hcr]; rfl)) (grownBy_putObj' _ D (.deferred none)) (fun r e => by cases e; exact ⟨_, hK', rfl⟩)
    refine ⟨.pointer none, ?_, rfl, (hB.setCell (p := ⟨w.heap.size + 1, 0, none⟩) (by simp) _).trans (belowK_b (w := w) (Nat.le_refl _) _ D _ _ (by simp at hD; omega) hK' rfl rfl)⟩
    simp [results, Tryz.f105, go_sem, hc5]
  case stop =>
    rintro D c pre W _ _ h _
    exact h.elim

end Go.Proofs.YtjcaidbkbdkpeaaGreatDoor
