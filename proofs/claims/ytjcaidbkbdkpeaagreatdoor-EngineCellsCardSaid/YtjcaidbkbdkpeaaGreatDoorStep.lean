/- One step. -/
import Derived.Test.YtjcaidbkbdkpeaaGreatDoorExec
import Derived.StillTailTactics
namespace Go.Proofs.YtjcaidbkbdkpeaaGreatDoor
open Go Go.RowKit Go.Rh

/-- A status into a block that was made at the door. -/
theorem step_door (w : World) (o : Owner) (hwf : Wf w o) :
    Mod (fun _ => False) w o (w.alloc (.cells #[.int .i64 0, .int .i64 0, .int .i64 0] 42)) o ∧ Box (w.alloc (.cells #[.int .i64 0, .int .i64 0, .int .i64 0] 42)) o w.heap.size [.int .i64 0, .int .i64 0, .int .i64 0] 42 :=
  ⟨(Mod.refl _ hwf).alloc _, ⟨Blk.new w [.int .i64 0, .int .i64 0, .int .i64 0] _, hwf _ (Nat.le_refl _)⟩⟩

set_option maxHeartbeats 1000000 in
set_option maxRecDepth 100000 in
theorem step_exec (w : World) (o : Owner) (k : Nat) (h : Hd) (E E2 : Eng) (he : EngAt w o k h E) (hwf : Wf w o) (i : Nat) (hn : E.c.next = (i : Int) + 1) (s1 s2 s3 : Int)
    (hd : ∀ w1 o1, Wf w1 o1 → EngAt w1 o1 k h { E with c := { E.c with next := 0 } } → Calls Tryz.prog 40 #[gp h, .int .i64 ((i : Int) + 1)] w1 fun e w' => e = .returned (stat s1 s2 s3) ∧ ∃ o', Mod (InE k) w1 o1 w' o' ∧ EngAt w' o' k h E2) :
    Calls Tryz.prog 20 #[gp h] w fun e w' => e = .returned (stat s1 s2 s3) ∧ ∃ o', Mod (InE k) w o w' o' ∧ EngAt w' o' k h E2 := by
  obtain ⟨hm, hs⟩ := step_door w o hwf
  have he0 := he.same hm
  obtain ⟨ac, cc, ae, ce, aw, cw, c0, c1, c2, c3, c4, c5, c6, c7, c8, fz, hlt, r1, r2, r3⟩ := he0.1.open
  obtain ⟨m1, he1⟩ := he0.withNext hm.wf 0
  have hs1 := Box.kept hs m1
  rw [hn] at c6
  have n0 : ¬ ((i : Int) + 1 = 0) := by omega
  go_enter Tryz.func20, Tryz.ntmps20
  go_wp2_with fail
  refine (hd _ o m1.wf he1).mono ?_
  rintro e w5 ⟨rfl, o5, m5, he5⟩
  have q5 := Box.kept hs1 m5
  obtain ⟨b0, b1, b2, bf⟩ := q5.1.three
  go_wp2
  refine bodyPost_ret (v := stat s1 s2 s3) (by simp [results, Tryz.results20, go_sem, b0, b1, b2]) rfl ?_
  exact ⟨rfl, fin3 (((hm.mono (fun _ h => h.elim)).trans m1).trans m5) he5 _ (by omega) q5.2 _ _ _⟩

set_option maxHeartbeats 2000000 in
set_option maxRecDepth 100000 in
theorem step_ins (w : World) (o : Owner) (k : Nat) (h : Hd) (E E2 : Eng) (he : EngAt w o k h E) (hwf : Wf w o) (hn : E.c.next = 0) (Fs : List Fr) (f : Fr) (hf : E.fs = Fs ++ [f]) (hfl : f.l.length ≤ 1000) (hk6 : f.kind ≠ 6) (hk7 : f.kind ≠ 7)
    (n i : Nat) (hdef : E.c.def_ = (n : Int) + 1) (hon : E.c.on = i) (op a x : Int) (hI : InsAt E.c n i op a x) (s1 s2 s3 : Int)
    (hd : ∀ w1 o1, Wf w1 o1 → EngAt w1 o1 k h { E with c := { E.c with on := (i : Int) + 1 } } → Calls Tryz.prog 45 #[gp h, insV op a x] w1 fun e w' => e = .returned (stat s1 s2 s3) ∧ ∃ o', Mod (InE k) w1 o1 w' o' ∧ EngAt w' o' k h E2) :
    Calls Tryz.prog 20 #[gp h] w fun e w' => e = .returned (stat s1 s2 s3) ∧ ∃ o', Mod (InE k) w o w' o' ∧ EngAt w' o' k h E2 := by
  obtain ⟨hm, hs⟩ := step_door w o hwf
  have he0 := he.same hm
  obtain ⟨ac, cc, ae, ce, aw, cw, c0, c1, c2, c3, c4, c5, c6, c7, c8, fz, hlt, r1, r2, r3⟩ := he0.1.open
  have htop := Lib.hid (frames_Top _ o _ _ Fs f (by have := he0.2.1; rw [hf] at this; exact this) hm.wf hfl)
  have hib : (i : Int) + 1 ≤ 400000 := by
    obtain ⟨b, e, _, _, h3, h4, _, _⟩ := hI.lay
    have := he.1.2.2.1
    omega
  have hI' := Lib.hid hI
  rw [hn] at c6
  rw [hdef] at c4
  rw [hon] at c5
  have hdef' := Lib.hid hdef
  have hon' := Lib.hid hon
  clear hf hI hdef hon
  have n0 : ((n : Int) + 1 = 0) = False := by simp; omega
  have hk6' : (f.kind = 6) = False := by simp [hk6]
  have hk7' : (f.kind = 7) = False := by simp [hk7]
  have hw1 : IntKind.i64.wrap ((i : Int) + 1) = (i : Int) + 1 := IntWalk.i64_in _ (by omega)
  clear hib
  go_enter Tryz.func20, Tryz.ntmps20
  go_wp2_with fail
  refine htop.out.mono ?_
  rintro e w4 ⟨lv, o4, rfl, m4, hl4⟩
  obtain ⟨la, lc, rfl, _⟩ := hl4.len
  have he4 := he0.same m4
  have hs4 := Box.kept (k := k) (by exact hs) (m4.mono (fun _ h => h.elim))
  have hm5 := (Mod.refl (fun _ => False) m4.wf).alloc (.cells #[.int .i64 f.kind, .int .i64 f.a, .int .i64 f.b, .int .i64 f.x, .int .i64 f.y, .slice la f.l.length lc] 58)
  have he5 := he4.same hm5
  obtain ⟨ac', cc', ae', ce', aw', cw', d0, d1, d2, d3, d4, d5, d6, d7, d8, fz', hlt', r1', r2', r3'⟩ := he5.1.open
  rw [hdef'.out] at d4
  rw [hon'.out] at d5
  go_wp2_with fail
  have hat : ∀ w1, Mod (fun _ => False) (w4.alloc (.cells #[.int .i64 f.kind, .int .i64 f.a, .int .i64 f.b, .int .i64 f.x, .int .i64 f.y, .slice la f.l.length lc] 58)) o4 w1 o4 → Calls Tryz.prog 43 #[.pointer (some ⟨h.g, 0, none⟩), .int .i64 ((n : Int) + 1), .int .i64 (i : Int)] w1 fun e w' => e = .returned (.tuple #[.agg #[.int .u8 op, .int .i64 a, .int .i64 x], .bool true]) ∧ Mod (fun _ => False) (w4.alloc (.cells #[.int .i64 f.kind, .int .i64 f.a, .int .i64 f.b, .int .i64 f.x, .int .i64 f.y, .slice la f.l.length lc] 58)) o4 w' o4 ∧ w1.heap.size ≤ w'.heap.size ∧ (∀ b, b < w1.heap.size → w'.heap[b]? = w1.heap[b]?) :=
    fun w1 m => (t_at w1 o4 k h E (he5.same m) m.wf n i op a x hI'.out).mono fun e w' ⟨q1, q2⟩ => ⟨q1, m.trans q2, q2.size, fun b hb => q2.keep b hb (fun h => h)⟩
  have hgl : h.g < w4.heap.size := by obtain ⟨_, _, _, _, _, _, _, _, hb4, _⟩ := he4.1; exact hb4.lt
  have ng1 : h.g ≠ w4.heap.size + 1 := by omega
  have ng2 : w4.heap.size + 1 ≠ h.g := by omega
  have hnew : Blk ((w4.alloc (.cells #[.int .i64 f.kind, .int .i64 f.a, .int .i64 f.b, .int .i64 f.x, .int .i64 f.y, .slice la f.l.length lc] 58)).drew.alloc (.cells #[.int .u8 0, .int .i64 0, .int .i64 0] 35)) (w4.heap.size + 1) [.int .u8 0, .int .i64 0, .int .i64 0] 35 := by
    have := Blk.new (w4.alloc (.cells #[.int .i64 f.kind, .int .i64 f.a, .int .i64 f.b, .int .i64 f.x, .int .i64 f.y, .slice la f.l.length lc] 58)).drew [.int .u8 0, .int .i64 0, .int .i64 0] 35
    rwa [show (w4.alloc (.cells #[.int .i64 f.kind, .int .i64 f.a, .int .i64 f.b, .int .i64 f.x, .int .i64 f.y, .slice la f.l.length lc] 58)).drew.heap.size = w4.heap.size + 1 by simp] at this
  go_region_held3 (fun w' => w'.cell? ⟨h.g, 4, none⟩ = some (.int .i64 ((n : Int) + 1)) ∧ w'.cell? ⟨h.g, 5, none⟩ = some (.int .i64 (i : Int))) (go_keep)
    ((first
      | (go_simp; go_at_call 43; refine (hat _ ((Mod.refl (fun _ => False) hm5.wf).drew.alloc (.cells #[.int .u8 0, .int .i64 0, .int .i64 0] 35))).mono ?_
         rintro e w6 ⟨rfl, m6, hsz6, hkp6⟩
         have he6 := he5.same m6
         obtain ⟨ac6, cc6, ae6, ce6, aw6, cw6, f0, f1, f2, f3, f4, f5, f6, f7, f8, fz6, hlt6, _, _, _⟩ := he6.1.open
         rw [hdef'.out] at f4
         rw [hon'.out] at f5
         have hB6 : Blk w6 (w4.heap.size + 1) [.int .u8 0, .int .i64 0, .int .i64 0] 35 := hnew.to (hkp6 _ hnew.lt)
         obtain ⟨i0, i1, i2, ifr⟩ := hB6.three)
      | (go_simp; go_at_call 43; refine (hat _ ((Mod.refl (fun _ => False) hm5.wf).drew)).mono ?_
         rintro e w6 ⟨rfl, m6, hsz6, hkp6⟩
         have he6 := he5.same m6
         obtain ⟨ac6, cc6, ae6, ce6, aw6, cw6, f0, f1, f2, f3, f4, f5, f6, f7, f8, fz6, hlt6, _, _, _⟩ := he6.1.open
         rw [hdef'.out] at f4
         rw [hon'.out] at f5)))
  all_goals
    have hgl6 : h.g < w6.heap.size := by obtain ⟨_, _, _, _, _, _, _, _, hb4, _⟩ := he6.1; exact hb4.lt
    have ho1 : o4 (w4.heap.size + 1) = 0 := m4.wf _ (by omega)
    have hs6 := Box.kept (k := k) (Box.kept (k := k) hs4 (hm5.mono (fun _ h => h.elim))) (m6.mono (fun _ h => h.elim))
    have hsl4 := hs4.1.lt
    have hsz5 : w4.heap.size + 1 ≤ w6.heap.size := by have := m6.size; simpa using this
    have hsz4 : w.heap.size ≤ w4.heap.size := by have := (hm.trans m4).size; exact this
    first
      | (have hX7 := ((hB6.set 0 (.int .u8 op)).set 1 (.int .i64 a)).set 2 (.int .i64 x)
         have hm7 := (((Mod.refl (· = 0) m6.wf).setCell ⟨w4.heap.size + 1, 0, none⟩ (.int .u8 op) (fun _ => ho1)).setCell ⟨w4.heap.size + 1, 1, none⟩ (.int .i64 a) (fun _ => ho1)).setCell ⟨w4.heap.size + 1, 2, none⟩ (.int .i64 x) (fun _ => ho1)
         have he7 := he6.far hm7
         have hs7 := ((hs6.1.other ⟨w4.heap.size + 1, 0, none⟩ (.int .u8 op) (by simp; omega)).other ⟨w4.heap.size + 1, 1, none⟩ (.int .i64 a) (by simp; omega)).other ⟨w4.heap.size + 1, 2, none⟩ (.int .i64 x) (by simp; omega)
         have hM7 := (((((hm.trans m4).trans hm5).trans m6).setNew ⟨w4.heap.size + 1, 0, none⟩ (.int .u8 op) (by simp; omega)).setNew ⟨w4.heap.size + 1, 1, none⟩ (.int .i64 a) (by simp; omega)).setNew ⟨w4.heap.size + 1, 2, none⟩ (.int .i64 x) (by simp; omega)
         have n7 : h.g ≠ w4.heap.size + 1 := by omega
         have n8 : w4.heap.size + 1 ≠ h.g := by omega
         obtain ⟨m8, he8⟩ := he7.withOn hM7.wf ((i : Int) + 1)
         have hM8 := (hM7.mono (T' := InE k) (fun _ h => h.elim)).trans m8
         have hs8 := Box.kept (k := k) ⟨hs7, hs6.2⟩ m8)
      | (have hX7 := Blk.new w6 [.int .u8 op, .int .i64 a, .int .i64 x] 35
         have hm7 := (Mod.refl (fun _ => False) m6.wf).alloc (.cells #[.int .u8 op, .int .i64 a, .int .i64 x] 35)
         have he7 := he6.same hm7
         have hs7 := hs6.1.alloc (.cells #[.int .u8 op, .int .i64 a, .int .i64 x] 35)
         have hM7 := (((hm.trans m4).trans hm5).trans m6).alloc (.cells #[.int .u8 op, .int .i64 a, .int .i64 x] 35)
         have n7 : h.g ≠ w6.heap.size := by omega
         have n8 : w6.heap.size ≠ h.g := by omega
         obtain ⟨m8a, he8a⟩ := he6.withOn m6.wf ((i : Int) + 1)
         have hm8 := (Mod.refl (fun _ => False) m8a.wf).alloc (.cells #[.int .u8 op, .int .i64 a, .int .i64 x] 35)
         have he8 := he8a.same hm8
         have hM8 := (((((hm.trans m4).trans hm5).trans m6).mono (T' := InE k) (fun _ h => h.elim)).trans m8a).trans (hm8.mono (fun _ h => h.elim))
         have hs8 := Box.kept (k := k) (Box.kept (k := k) hs6 m8a) (hm8.mono (fun _ h => h.elim)))
    obtain ⟨x0, x1, x2, xfr⟩ := hX7.three
    obtain ⟨ac7, cc7, ae7, ce7, aw7, cw7, j0, j1, j2, j3, j4, j5, j6, j7, j8, jz7, jlt7, _, _, _⟩ := he7.1.open
    rw [hdef'.out] at j4
    rw [hon'.out] at j5
    go_wp2_with fail
    refine (hd _ o4 hM8.wf he8).mono ?_
    rintro e w9 ⟨rfl, o9, m9, he9⟩
    have q9 := Box.kept (k := k) hs8 m9
    obtain ⟨b0, b1, b2, bf⟩ := q9.1.three
    go_wp2
    refine bodyPost_ret (v := stat s1 s2 s3) (by simp [results, Tryz.results20, go_sem, b0, b1, b2]) rfl ?_
    exact ⟨rfl, fin3 (hM8.trans m9) he9 _ (by omega) q9.2 _ _ _⟩

set_option maxHeartbeats 2000000 in
set_option maxRecDepth 100000 in
theorem step_ret (w : World) (o : Owner) (k : Nat) (h : Hd) (E E2 : Eng) (he : EngAt w o k h E) (hwf : Wf w o) (hn : E.c.next = 0) (hdef : E.c.def_ = 0)
    (f : Fr) (ok : Bool) (hf : (E.fs = [] ∧ f = fr0 ∧ ok = false) ∨ (∃ Fs, E.fs = Fs ++ [f] ∧ f.l.length ≤ 1000 ∧ ok = true)) (hk6 : f.kind ≠ 6) (hk7 : f.kind ≠ 7) (s1 s2 s3 : Int)
    (hd : ∀ w1 o1, Wf w1 o1 → EngAt w1 o1 k h E → Calls Tryz.prog 42 #[gp h] w1 fun e w' => e = .returned (stat s1 s2 s3) ∧ ∃ o', Mod (InE k) w1 o1 w' o' ∧ EngAt w' o' k h E2) :
    Calls Tryz.prog 20 #[gp h] w fun e w' => e = .returned (stat s1 s2 s3) ∧ ∃ o', Mod (InE k) w o w' o' ∧ EngAt w' o' k h E2 := by
  obtain ⟨hm, hs⟩ := step_door w o hwf
  have he0 := he.same hm
  obtain ⟨ac, cc, ae, ce, aw, cw, c0, c1, c2, c3, c4, c5, c6, c7, c8, fz, hlt, r1, r2, r3⟩ := he0.1.open
  have htop : Calls Tryz.prog 41 #[.pointer (some ⟨h.fr, 0, none⟩)] (w.alloc (.cells #[.int .i64 0, .int .i64 0, .int .i64 0] 42)) (fun e w' => ∃ la lc o', e = .returned (.tuple #[.agg #[.int .i64 f.kind, .int .i64 f.a, .int .i64 f.b, .int .i64 f.x, .int .i64 f.y, .slice la f.l.length lc], .bool ok]) ∧ Mod (fun _ => False) (w.alloc (.cells #[.int .i64 0, .int .i64 0, .int .i64 0] 42)) o w' o') := by
    rcases hf with ⟨h1, rfl, rfl⟩ | ⟨Fs, h1, h2, rfl⟩
    · exact (frames_Top_none _ o _ _ (by have := he0.2.1; rw [h1] at this; exact this) hm.wf).mono fun e w' ⟨q1, q2⟩ => ⟨_, _, o, q1, q2⟩
    · refine (frames_Top _ o _ _ Fs f (by have := he0.2.1; rw [h1] at this; exact this) hm.wf h2).mono fun e w' ⟨lv, o', q1, q2, q3⟩ => ?_
      obtain ⟨la, lc, rfl, _⟩ := q3.len
      exact ⟨la, lc, o', q1, q2⟩
  have htop' := Lib.hid htop
  rw [hn] at c6
  rw [hdef] at c4
  have hdef' := Lib.hid hdef
  have hn' := Lib.hid hn
  clear hf htop hdef hn
  have hk6' : (f.kind = 6) = False := by simp [hk6]
  have hk7' : (f.kind = 7) = False := by simp [hk7]
  go_enter Tryz.func20, Tryz.ntmps20
  go_wp2_with fail
  refine htop'.out.mono ?_
  rintro e w4 ⟨la, lc, o4, rfl, m4⟩
  have he4 := he0.same m4
  have hs4 := Box.kept (k := k) (by exact hs) (m4.mono (fun _ h => h.elim))
  have hm5 := (Mod.refl (fun _ => False) m4.wf).alloc (.cells #[.int .i64 f.kind, .int .i64 f.a, .int .i64 f.b, .int .i64 f.x, .int .i64 f.y, .slice la f.l.length lc] 58)
  have he5 := he4.same hm5
  obtain ⟨ac', cc', ae', ce', aw', cw', d0, d1, d2, d3, d4, d5, d6, d7, d8, fz', hlt', r1', r2', r3'⟩ := he5.1.open
  rw [hdef'.out] at d4
  go_wp2_with fail
  refine (hd _ o4 hm5.wf he5).mono ?_
  rintro e w9 ⟨rfl, o9, m9, he9⟩
  have q9 := Box.kept (k := k) (Box.kept (k := k) hs4 (hm5.mono (fun _ h => h.elim))) m9
  obtain ⟨b0, b1, b2, bf⟩ := q9.1.three
  go_wp2
  refine bodyPost_ret (v := stat s1 s2 s3) (by simp [results, Tryz.results20, go_sem, b0, b1, b2]) rfl ?_
  exact ⟨rfl, fin3 ((((hm.trans m4).trans hm5).mono (fun _ h => h.elim)).trans m9) he9 _ (by omega) q9.2 _ _ _⟩
end Go.Proofs.YtjcaidbkbdkpeaaGreatDoor
