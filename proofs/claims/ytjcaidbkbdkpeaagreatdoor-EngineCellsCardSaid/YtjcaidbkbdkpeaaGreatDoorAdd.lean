/- A word that may be, and one that is added. -/
import Derived.Test.YtjcaidbkbdkpeaaGreatDoorNames
import Derived.Test.YtjcaidbkbdkpeaaGreatDoorWith
import Derived.Deep.RegionLaw
namespace Go.Proofs.YtjcaidbkbdkpeaaGreatDoor
open Go Go.RowKit Go.Rh

/-- A word that may be: of those that these statements add. -/
def MayW (C : Core) (x : Wd) : Prop := (1 ≤ x.kind ∧ x.kind ≤ 4 ∧ ∃ n : Nat, x.n = n + 1 ∧ n < nOf x.kind) ∨ (x.kind = 5 ∧ 1 ≤ x.n ∧ x.n ≤ C.ends.length) ∨ ((x.kind = 6 ∨ x.kind = 9) ∧ x.n = 0) ∨ (x.kind = 8 ∧ 0 ≤ x.n ∧ x.n ≤ C.words.length)

set_option maxHeartbeats 2000000 in
set_option maxRecDepth 100000 in
theorem e_may (w : World) (o : Owner) (k : Nat) (h : Hd) (E : Eng) (he : EngAt w o k h E) (hwf : Wf w o) (hE : Env w o) (x : Wd) (hx : MayW E.c x) :
    Calls Tryz.prog 35 #[gp h, .agg (wdL x).toArray] w fun e w' => e = .returned (.bool true) ∧ Mod (fun _ => False) w o w' o := by
  have hm := (Mod.refl (fun _ => False) hwf).alloc (.cells (wdL x).toArray 33)
  have he0 := he.same hm
  have hE0 := hE.kept hm (fun h => h)
  obtain ⟨ac, cc, ae, ce, aw, cw, c0, c1, c2, c3, c4, c5, c6, c7, c8, fz, hlt, r1, r2, r3⟩ := he0.1.open
  obtain ⟨kind, n, y⟩ := x
  dsimp only [MayW] at *
  rcases hx with ⟨h1, h4, m, rfl, hm1⟩ | ⟨rfl, h1, h2⟩ | ⟨rfl | rfl, rfl⟩ | ⟨rfl, h1, h2⟩
  · have hcall := Lib.hid (name_some _ o hm.wf hE0 kind h1 h4 m hm1)
    clear hm1
    have hk : kind = 1 ∨ kind = 2 ∨ kind = 3 ∨ kind = 4 := by omega
    rcases hk with rfl | rfl | rfl | rfl
    all_goals
      go_enter Tryz.func35, Tryz.ntmps35
      go_wp2_with fail
      refine hcall.out.mono ?_
      rintro e w1 ⟨s, rfl, m1, hs⟩
      have q3 : ¬ s.toList = [] := by
        rw [Lib.toList_data]
        intro h0
        exact hs (by rw [Lib.size_eq, h0]; rfl)
      clear hs
      go_wp2
      go_ret
      exact ⟨by simp [q3], hm.trans m1⟩
  · have z1 : decide ((1 : Int) ≤ n) = true := decide_eq_true h1
    have z2 : decide (n ≤ (E.c.ends.length : Int)) = true := decide_eq_true h2
    go_enter Tryz.func35, Tryz.ntmps35
    go_wp2_with fail
    go_quiet (fail)
    go_wp2
    go_ret
    exact ⟨rfl, hm.drewN _⟩
  · go_enter Tryz.func35, Tryz.ntmps35
    go_wp2
    go_ret
    exact ⟨rfl, hm⟩
  · go_enter Tryz.func35, Tryz.ntmps35
    go_wp2
    go_ret
    exact ⟨rfl, hm⟩
  · have z1 : decide ((0 : Int) ≤ n) = true := decide_eq_true h1
    have z2 : decide (n ≤ (E.c.words.length : Int)) = true := decide_eq_true h2
    go_enter Tryz.func35, Tryz.ntmps35
    go_wp2_with fail
    go_quiet (fail)
    go_wp2
    go_ret
    exact ⟨rfl, hm.drewN _⟩

set_option maxHeartbeats 2000000 in
set_option maxRecDepth 100000 in
theorem e_Add (w : World) (o : Owner) (k : Nat) (h : Hd) (E : Eng) (he : EngAt w o k h E) (hwf : Wf w o) (hE : Env w o) (x : Wd) (hx : MayW E.c x) (hroom : E.c.words.length < 600) :
    Calls Tryz.prog 9 #[gp h, .agg (wdL x).toArray] w fun e w' => e = .returned (.tuple #[.int .i64 ((E.c.words.length : Int) + 1), .int .i64 0]) ∧ ∃ o', Mod (InE k) w o w' o' ∧ EngAt w' o' k h { E with c := { E.c with words := E.c.words ++ [x] } } := by
  have hm := (Mod.refl (fun _ => False) hwf).alloc (.cells (wdL x).toArray 33)
  have he0 := he.same hm
  have hE0 := hE.kept hm (fun h => h)
  have hX0 : Box (w.alloc (.cells (wdL x).toArray 33)) o w.heap.size (wdL x) 33 := ⟨Blk.new w (wdL x) _, hwf _ (Nat.le_refl _)⟩
  have hmay := Lib.hid (e_may _ o k h E he0 hm.wf hE0 x hx)
  obtain ⟨kind, n, y⟩ := x
  dsimp only at *
  clear hx
  go_enter Tryz.func9, Tryz.ntmps9
  go_wp2_with fail
  refine hmay.out.mono ?_
  rintro e w1 ⟨rfl, m1⟩
  have he1 := he0.same m1
  have hX1 := Box.kept (k := k) hX0 (m1.mono (fun _ h => h.elim))
  obtain ⟨x0, x1, x2, xf⟩ := hX1.1.three
  obtain ⟨q0, q1, q2, q3, q4, vc, ve, vw, hb, r1, r2, r3⟩ := he1.1
  obtain ⟨ac, cc, rfl, _⟩ := r1.len
  obtain ⟨ae, ce, rfl, _⟩ := r2.len
  obtain ⟨aw, cw, rfl, _⟩ := r3.len
  have c2 := hb.c 2 _ rfl
  have fz := hb.frozen
  have hneg : h.g ≠ w.heap.size := by intro h0; have h1 := he1.g; have h2 := hX1.2; rw [h0] at h1; omega
  have hneg' : w.heap.size ≠ h.g := fun h0 => hneg h0.symm
  have z1 : decide ((600 : Int) ≤ (E.c.words.length : Int)) = false := decide_eq_false (by omega)
  have n1 : w1.heap.size ≠ h.g := by have := hb.lt; omega
  have hmX := ((Mod.refl (· = k + 3) m1.wf).alloc (.cells #[.int .i64 kind, .int .i64 n, .int .i64 y] 33)).drew
  have hrow := (r3.alloc (.cells #[.int .i64 kind, .int .i64 n, .int .i64 y] 33)).drew
  have hbX := (hb.alloc (.cells #[.int .i64 kind, .int .i64 n, .int .i64 y] 33)).drew
  have hy := (Rd.new (size := 3) w1 o (wdL ⟨kind, n, y⟩) 33 1 rfl (by decide) m1.wf).drew
  have c2' := (hb.alloc (.cells #[.int .i64 kind, .int .i64 n, .int .i64 y] 33)).c 2 _ rfl
  have hE1 := Lib.hid he1
  have h1' := Lib.hid r1
  have h2' := Lib.hid r2
  go_wp2_with fail
  go_region_law
    (refine step_append_row elWord (by rfl) (by rfl) hmX.wf (by rfl) hrow (by rfl) hy (by simp [Value.oneCell']) (by unfold maxLen; omega) (by omega) ?_
     intro v' w2 o2 hr4 hm4 hg4 _
     have e0 := hbX.grown hg4 (hrow.ne hbX (by decide))
     have e1 := e0.c 2 _ rfl
     have e2 := e0.frozen
     obtain ⟨a4, c4, rfl, _⟩ := hr4.len)
  all_goals
    go_wp2
    go_ret2
    have hall : Mod (· = k + 3) w1 o w2 o2 := hmX.trans hm4
    have hall2 := hall.setCell ⟨h.g, 2, none⟩ (.slice a4 (E.c.words.length + 1) c4) (fun _ => q1)
    have hA1 := ((h1'.out.alloc (.cells #[.int .i64 kind, .int .i64 n, .int .i64 y] 33)).drew).grown hg4 (((h1'.out.alloc (.cells #[.int .i64 kind, .int .i64 n, .int .i64 y] 33)).drew).apart hrow (by decide)) hm4.own
    have hA2 := ((h2'.out.alloc (.cells #[.int .i64 kind, .int .i64 n, .int .i64 y] 33)).drew).grown hg4 (((h2'.out.alloc (.cells #[.int .i64 kind, .int .i64 n, .int .i64 y] 33)).drew).apart hrow (by decide)) hm4.own
    refine ⟨rfl, o2, ((hm.trans m1).mono (fun _ h => h.elim)).trans (hall2.mono (fun x hx => by subst hx; exact ⟨by omega, by omega⟩)), hE1.out.core hall2 ⟨q0, (hall.own h.g hb.lt).trans q1, q2, q3, by simp; omega, _, _, _, e0.set 2 _, hA1.other _ _ (hA1.ne e0 (by decide)), hA2.other _ _ (hA2.ne e0 (by decide)), ?_⟩⟩
    have hx := hr4.other ⟨h.g, 2, none⟩ (.slice a4 (E.c.words.length + 1) c4) (hr4.ne e0 (by decide))
    dsimp only
    rw [List.length_append, List.flatMap_append]
    exact hx
end Go.Proofs.YtjcaidbkbdkpeaaGreatDoor
