/- An engine is made, and runs. -/
import Derived.Test.YtjcaidbkbdkpeaaGreatDoorGoes
import Derived.Test.YtjcaidbkbdkpeaaGreatDoorSame
namespace Go.Proofs.YtjcaidbkbdkpeaaGreatDoor
open Go Go.RowKit Go.Rh

/-- A number above all owners. -/
theorem above_owner {w : World} {o : Owner} (hwf : Wf w o) : ∃ k, ∀ b, o b ≤ k := by
  have h : ∀ n : Nat, ∃ m, ∀ b, b < n → o b ≤ m := by
    intro n
    induction n with
    | zero => exact ⟨0, by omega⟩
    | succ n ih =>
      obtain ⟨m, hm⟩ := ih
      refine ⟨m + o n, fun b hb => ?_⟩
      by_cases h : b = n
      · subst h; omega
      · have := hm b (by omega); omega
  obtain ⟨m, hm⟩ := h w.heap.size
  refine ⟨m, fun b => ?_⟩
  by_cases h : b < w.heap.size
  · exact hm b h
  · have := hwf b (by omega); omega
theorem Mod.above {w w1 : World} {o o1 : Owner} {k : Nat} (hk : ∀ b, o b ≤ k) (m : Mod (InE k) w o w1 o1) : Mod (fun _ => False) w o w1 o1 :=
  ⟨m.os, m.tape, m.output, m.size, m.wf, m.own, fun b hb _ => m.keep b hb (fun h => by have := hk b; have := h.1; omega)⟩

set_option maxHeartbeats 1000000 in
theorem law_made (w : World) (o : Owner) (hwf : Wf w o) (k : Nat) :
    Calls Tryz.prog 33 #[] w fun e w' => ∃ g, e = .returned (.pointer (some ⟨g, 0, none⟩)) ∧ ∃ h o', h.g = g ∧ Mod (InE k) w o w' o' ∧ EngAt w' o' k h ⟨core0, [], st0 1024, inp0⟩ := by
  go_enter Tryz.func33, Tryz.ntmps33
  go_wp2_with fail
  refine (prim_New w o hwf k 1024 (by omega) (by omega) (by omega)).mono ?_
  rintro e w1 ⟨st, rfl, h, o1, rfl, m1, hs1⟩
  obtain ⟨_, _, _, _, vo, vm, hb, _⟩ := hs1.2.2
  have d0 := hb.c 0 _ rfl
  have d1 := hb.c 1 _ rfl
  have d2 := hb.c 2 _ rfl
  clear hb
  have pS : Calls Tryz.prog 16 #[.pointer (some ⟨h.st, 0, none⟩)] w1 fun e w' => e = .returned (.pointer (some ⟨h.sp, 0, none⟩)) ∧ w1 = w' := by
    go_enter Tryz.func16, Tryz.ntmps16
    go_wp2
    go_ret
    exact ⟨rfl, rfl⟩
  have pM : Calls Tryz.prog 53 #[.pointer (some ⟨h.st, 0, none⟩)] w1 fun e w' => e = .returned (.pointer (some ⟨h.mp, 0, none⟩)) ∧ w1 = w' := by
    go_enter Tryz.func53, Tryz.ntmps53
    go_wp2
    go_ret
    exact ⟨rfl, rfl⟩
  have pS' := Lib.hid pS
  have pM' := Lib.hid pM
  clear pS pM
  go_wp2_with fail
  refine pS'.out.mono ?_
  rintro e w' ⟨rfl, rfl⟩
  go_wp2_with fail
  refine pM'.out.mono ?_
  rintro e w' ⟨rfl, rfl⟩
  go_wp2_with fail
  refine (source_New w1 o1 m1.wf (k + 4) (by omega)).mono ?_
  rintro e w2 ⟨inp, rfl, o2, m2, hi2⟩
  have hs2 := hs1.kept m2 (fun h => h) (fun h => h) (fun h => h) (fun h => h)
  go_wp2_with fail
  refine (engine_New w2 o2 m2.wf k h _ _ hs2 inp hi2).mono ?_
  rintro e w3 ⟨g, rfl, h3, o3, rfl, q1, q2, q3, q4, m3, he3⟩
  clear q1 q2 q3 q4
  go_wp2_with fail
  refine (e_State w3 o3 k h3 _ he3).mono ?_
  rintro e w' ⟨rfl, rfl⟩
  go_wp2_with fail
  refine (e_Frames w3 o3 k h3 _ he3).mono ?_
  rintro e w' ⟨rfl, rfl⟩
  go_wp2
  go_ret
  exact ⟨_, rfl, h3, o3, rfl, (m1.trans (m2.mono (fun _ h => h.elim))).trans (m3.mono (fun _ h => h.elim)), he3⟩

theorem Env.inE {w w1 : World} {o o1 : Owner} {k : Nat} (h : Env w o) (m : Mod (InE k) w o w1 o1) : Env w1 o1 := h.kept m (notInE0 rfl)

/-- So many steps are still to come. -/
def RunRel (w : World) (o : Owner) (k : Nat) (h : Hd) (E1 : Eng) (q n : Nat) (v : Value) (wr : World) : Prop :=
  ∃ (j : Nat) (E : Eng) (o1 : Owner), n = q - j ∧ j ≤ q ∧ v = .int .i64 j ∧ Goes k h (q - j) E E1 ∧ Mod (InE k) w o wr o1 ∧ Env wr o1 ∧ EngAt wr o1 k h E ∧ Box wr o1 w.heap.size [.int .i64 0, .int .i64 0, .int .i64 0] 42

theorem Goes.cases0 {k : Nat} {h : Hd} {n : Nat} {E E1 : Eng} (g : Goes k h n E E1) : (n = 0 ∧ E = E1) ∨ ∃ m E', n = m + 1 ∧ StepTo k h E E' 1 0 0 ∧ Goes k h m E' E1 := by
  cases g with
  | refl => exact .inl ⟨rfl, rfl⟩
  | step s g => exact .inr ⟨_, _, rfl, s, g⟩

set_option maxHeartbeats 1000000 in
theorem law_run (w : World) (o : Owner) (hwf : Wf w o) (hE : Env w o) (k : Nat) (h : Hd) (E E1 E2 : Eng) (he : EngAt w o k h E) (q most : Nat) (hg : Goes k h q E E1) (s1 s2 s3 : Int) (hs : StepTo k h E1 E2 s1 s2 s3) (h1 : s1 ≠ 1) (hq : q < most) (hm : most ≤ 100000) :
    Calls Tryz.prog 13 #[gp h, .int .i64 most] w fun e w' => e = .returned (stat s1 s2 s3) ∧ ∃ o', Mod (InE k) w o w' o' ∧ EngAt w' o' k h E2 := by
  have hs' := Lib.hid hs
  clear hs
  have h1' : (s1 = 1) = False := by simp [h1]
  obtain ⟨B, hB⟩ : ∃ B, B = w.heap.size := ⟨_, rfl⟩
  have hB' := Lib.hid hB
  go_enter Tryz.func13, Tryz.ntmps13
  go_wp2
  rw [← hB]
  clear hB
  go_loopg [7] q (fun n v wr => RunRel w o k h E1 q n v wr)
  case atStart =>
    have hm0 := (Mod.refl (fun _ => False) hwf).alloc (.cells #[.int .i64 0, .int .i64 0, .int .i64 0] 42)
    exact ⟨0, E, o, by omega, by omega, rfl, hg, hm0.mono (fun _ h => h.elim), hE.kept hm0 (fun h => h), he.same hm0, Blk.new w [.int .i64 0, .int .i64 0, .int .i64 0] _, hwf _ (Nat.le_refl _)⟩
  case round =>
    obtain ⟨j, E', o1, rfl, hj, rfl, hg', hm', hE', he', hbox⟩ := hrel
    have hlt : j < most := by omega
    rcases hg'.cases0 with ⟨hn0, rfl⟩ | ⟨m, E3, hm3, hstep, hg3⟩
    · have hn0' := Lib.hid hn0
      clear hg' hn0
      go_wp2_with fail
      refine (hs'.out wr o1 hm'.wf hE' he').mono ?_
      rintro e w4 ⟨rfl, o4, m4, he4⟩
      have hb4 := Box.kept hbox m4
      rw [← hB'.out] at hb4
      have hlt4 : B < w4.heap.size := hb4.1.lt
      have n1 : w4.heap.size ≠ B := by omega
      obtain ⟨x0, x1, x2, xf⟩ := hb4.1.three
      go_wp2
      have hX := (((hb4.1.set 0 (.int .i64 s1)).set 1 (.int .i64 s2)).set 2 (.int .i64 s3)).alloc (.cells #[.int .i64 s1, .int .i64 s2, .int .i64 s3] 42)
      obtain ⟨y0, y1, y2, yf⟩ := hX.three
      refine bodyPost_ret (v := stat s1 s2 s3) (by simp [results, Tryz.results13, go_sem, y0, y1, y2]) rfl ?_
      obtain ⟨o5, m5, he5⟩ := fin3 (hm'.trans m4) he4 B (by have := hB'.out; omega) hb4.2 (.int .i64 s1) (.int .i64 s2) (.int .i64 s3)
      have hmA := (Mod.refl (fun _ => False) m5.wf).alloc (.cells #[.int .i64 s1, .int .i64 s2, .int .i64 s3] 42)
      exact ⟨rfl, o5, m5.trans (hmA.mono (fun _ h => h.elim)), he5.same hmA⟩
    · have hn0' := Lib.hid hm3
      have hg3' := Lib.hid hg3
      clear hg' hm3 hg3
      go_wp2_with fail
      refine (hstep wr o1 hm'.wf hE' he').mono ?_
      rintro e w4 ⟨rfl, o4, m4, he4⟩
      have hmA := (Mod.refl (fun _ => False) m4.wf).alloc (.cells #[.int .i64 1, .int .i64 0, .int .i64 0] 42)
      go_wp2
      go_roundg (q - (j + 1))
      case measure => have := hn0'.out; omega
      case rel =>
        have hn1 := hn0'.out
        exact ⟨j + 1, E3, o4, rfl, by omega, by go_num, by rw [show q - (j + 1) = m by omega]; exact hg3'.out, (hm'.trans m4).trans (hmA.mono (fun _ h => h.elim)), (hE'.inE m4).kept hmA (fun h => h), he4.same hmA, Box.kept (k := k) (Box.kept hbox m4) (hmA.mono (fun _ h => h.elim))⟩
end Go.Proofs.YtjcaidbkbdkpeaaGreatDoor
