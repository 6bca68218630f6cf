/- A word that does something with frames; one that stands for another; what is put aside. -/
import Derived.Test.YtjcaidbkbdkpeaaGreatDoorCtl
namespace Go.Proofs.YtjcaidbkbdkpeaaGreatDoor
open Go Go.RowKit Go.Rh

set_option maxHeartbeats 1000000 in
set_option maxRecDepth 100000 in
theorem exec_defer (w : World) (o : Owner) (k : Nat) (h : Hd) (E E2 : Eng) (he : EngAt w o k h E) (hwf : Wf w o) (i : Nat) (n x : Int) (hx : E.c.words[i]? = some ⟨8, n, x⟩) (s1 s2 s3 : Int)
    (hd : ∀ w1 o1, Wf w1 o1 → EngAt w1 o1 k h E → Calls Tryz.prog 67 #[gp h, .int .i64 n] w1 fun e w' => e = .returned (stat s1 s2 s3) ∧ ∃ o', Mod (InE k) w1 o1 w' o' ∧ EngAt w' o' k h E2) :
    Calls Tryz.prog 40 #[gp h, .int .i64 ((i : Int) + 1)] w fun e w' => e = .returned (stat s1 s2 s3) ∧ ∃ o', Mod (InE k) w o w' o' ∧ EngAt w' o' k h E2 := by
  obtain ⟨hm2, hm, hg, hs, hwd⟩ := exec_door w o hwf h ⟨8, n, x⟩
  have he2 := he.same hm2
  have he0 := he.same hm
  have hil : i < E.c.words.length := (List.getElem?_eq_some_iff.1 hx).1
  have hle : E.c.words.length ≤ 600 := he.1.2.2.2.2.1
  obtain ⟨bw, cw, hcw, g0, g1, g2⟩ := he2.wordsAt hx
  have hfind := Lib.hid (e_find_yes _ h i _ bw cw hil hle hcw)
  have hdef := Lib.hid (hd _ o hm.wf he0)
  clear hx hd
  dsimp only at g0 g1 g2
  go_enter Tryz.func40, Tryz.ntmps40
  go_wp2_with fail
  refine hfind.out.mono ?_
  rintro e w4 ⟨rfl, rfl⟩
  have n1 : w.heap.size ≠ w.heap.size + 1 + 1 := by omega
  have n2 : w.heap.size + 1 + 1 ≠ w.heap.size := by omega
  go_wp2_with fail
  refine hdef.out.mono ?_
  rintro e w5 ⟨rfl, o5, m5, he5⟩
  have q1 := (Box.kept (by exact hs) m5)
  obtain ⟨b0, b1, b2, bf⟩ := q1.1.three
  go_wp2
  refine bodyPost_ret (v := stat s1 s2 s3) (by simp [results, Tryz.results40, go_sem, b0, b1, b2]) rfl ?_
  exact ⟨rfl, fin3 ((hm.mono (fun _ h => h.elim)).trans m5) he5 _ (by omega) q1.2 _ _ _⟩

set_option maxHeartbeats 2000000 in
set_option maxRecDepth 100000 in
theorem exec_ctl (w : World) (o : Owner) (k : Nat) (h : Hd) (E E2 : Eng) (he : EngAt w o k h E) (hwf : Wf w o) (i : Nat) (n x : Int) (hx : E.c.words[i]? = some ⟨2, n, x⟩) (f : Nat) (hf : (ctlPs h).lookup n = some (bound h f)) (hent : ∀ args w, (callFunc f args).run Tryz.prog w = .ok (.enter f args) w) (s1 s2 s3 : Int)
    (hd : ∀ w1 o1, Wf w1 o1 → EngAt w1 o1 k h E → Calls Tryz.prog f #[gp h] w1 fun e w' => e = .returned (stat s1 s2 s3) ∧ ∃ o', Mod (InE k) w1 o1 w' o' ∧ EngAt w' o' k h E2) :
    Calls Tryz.prog 40 #[gp h, .int .i64 ((i : Int) + 1)] w fun e w' => e = .returned (stat s1 s2 s3) ∧ ∃ o', Mod (InE k) w o w' o' ∧ EngAt w' o' k h E2 := by
  obtain ⟨hm2, hm, hg, hs, hwd⟩ := exec_door w o hwf h ⟨2, n, x⟩
  have he2 := he.same hm2
  have he0 := he.same hm
  have hil : i < E.c.words.length := (List.getElem?_eq_some_iff.1 hx).1
  have hle : E.c.words.length ≤ 600 := he.1.2.2.2.2.1
  obtain ⟨bw, cw, hcw, g0, g1, g2⟩ := he2.wordsAt hx
  have hfind := Lib.hid (e_find_yes _ h i _ bw cw hil hle hcw)
  have hdef := Lib.hid hd
  have hfl := Lib.hid hf
  clear hx hd hf
  dsimp only at g0 g1 g2
  go_enter Tryz.func40, Tryz.ntmps40
  go_wp2_with fail
  refine hfind.out.mono ?_
  rintro e w4 ⟨rfl, rfl⟩
  have hwf0 := hm.wf
  have n1 : w.heap.size ≠ w.heap.size + 1 + 1 := by omega
  have n2 : w.heap.size + 1 + 1 ≠ w.heap.size := by omega
  go_wp2_with fail
  have x1 : (((w.alloc (.cells #[gp h] 24)).alloc (.cells #[.int .i64 0, .int .i64 0, .int .i64 0] 42)).alloc (.cells #[.int .i64 2, .int .i64 n, .int .i64 x] 33)).drew.cell? ⟨w.heap.size + 1 + 1, 1, none⟩ = some (.int .i64 n) := hwd.c 1 _ rfl
  go_region_held3 (fun w' => w'.cell? ⟨w.heap.size, 0, none⟩ = some (gp h) ∧ w'.cell? ⟨w.heap.size + 1 + 1, 1, none⟩ = some (.int .i64 n)) (go_keep)
    ((first
      | (go_simp; go_at_call 68; refine (e_controls _ o (by exact hwf0) h).mono ?_
         rintro e w4 ⟨M, rfl, m4, hM⟩
         have he4 := he0.same ((Mod.refl (fun _ => False) hm.wf).drew.trans (by exact m4))
         have hlk : (Instr.lookup 129 (.map (some M)) (.int .i64 n) false).run Tryz.prog w4 = .ok (bound h f) w4 := run_look_some Tryz.underlying129 Tryz.underlying3 hM hfl.out
         have q1 := (Box.kept (k := k) (by exact hg) (m4.mono (fun _ h => h.elim))).c 0 _ rfl
         have q2 := (Box.kept (k := k) (by exact hwd) (m4.mono (fun _ h => h.elim))).c 1 _ rfl)
      | (go_simp; refine (hdef.out _ o (by exact m4.wf) (by exact he4)).mono ?_
         rintro e w5 ⟨rfl, o5, m5, he5⟩
         have q3 := (Box.kept (k := k) (Box.kept (k := k) (by exact hg) (m4.mono (fun _ h => h.elim))) m5).c 0 _ rfl
         have q4 := (Box.kept (k := k) (Box.kept (k := k) (by exact hwd) (m4.mono (fun _ h => h.elim))) m5).c 1 _ rfl
         have q5 := (Box.kept (k := k) (Box.kept (k := k) (by exact hs) (m4.mono (fun _ h => h.elim))) m5)
         obtain ⟨b0, b1, b2, bf⟩ := q5.1.three)))
  all_goals
    go_wp2
    refine bodyPost_ret (v := stat s1 s2 s3) (by simp [results, Tryz.results40, go_sem, b0, b1, b2]) rfl ?_
    exact ⟨rfl, fin3 (((hm.drew.trans m4).mono (fun _ h => h.elim)).trans m5) he5 _ (by omega) q5.2 _ _ _⟩

set_option maxHeartbeats 1000000 in
set_option maxRecDepth 100000 in
/-- A cell is put aside. -/
theorem toR_does (k : Nat) (h : Hd) (bg : Nat) (x : Int) (E : Eng) (w1 : World) (o1 : Owner) (v : Value) (he : EngAt w1 o1 k h E) (hwf : Wf w1 o1) (hfit : E.fs.length < 128) (hg : Box w1 o1 bg [gp h] 24) (hr : Rd w1 o1 0 1 v 1 [cv x]) :
    Calls Tryz.prog 133 #[v, .pointer (some ⟨bg, 0, none⟩)] w1 fun e w2 => e = .returned (.int .i64 0) ∧ ∃ o2, Mod (InE k) w1 o1 w2 o2 ∧ EngAt w2 o2 k h { E with fs := E.fs ++ [⟨2, 0, 0, x, 0, []⟩] } := by
  obtain ⟨a', c', rfl, ho, hlt, hx⟩ := Rd.at hr (by omega)
  obtain ⟨ab, ao, ap⟩ := a'
  have hx0 : w1.cell? ⟨ab, ao, ap⟩ = some (cv x) := by simpa [Addr.add] using hx 0 (cv x) rfl
  clear hr hx
  have hp : pushF E.fs ⟨2, 0, 0, x, 0, []⟩ = (E.fs ++ [⟨2, 0, 0, x, 0, []⟩], 0) := if_pos hfit
  have g0 := hg.c 0 _ rfl
  obtain ⟨ac, cc, ae, ce, aw, cw, c0, c1, c2, c3, c4, c5, c6, c7, c8, fz, hltg, r1, r2, r3⟩ := he.1.open
  clear c0 c1 c2 c4 c5 c6 c7 c8
  go_enter Tryz.func133, Tryz.ntmps133
  go_wp2_with fail
  go_region_held3 (fun w' => w'.cell? ⟨bg, 0, none⟩ = some (gp h) ∧ w'.cell? ⟨h.g, 3, none⟩ = some (.pointer (some ⟨h.fr, 0, none⟩)) ∧ w'.cell? ⟨ab, ao, ap⟩ = some (cv x)) (go_keep)
    ((go_simp; go_at_call 22; refine (frames_Push _ o1 _ _ _ (he.2.1.kept (Mod.refl (fun _ => False) hwf).drew (fun h => h)) (by exact hwf) ⟨2, 0, 0, x, 0, []⟩ (.slice none 0 0) 0 (by simp) (Rd.nil _ _ _ _)).mono ?_
      rw [hp]; rintro e w2 ⟨rfl, o2, hm1, hs1⟩
      obtain ⟨m1, he1⟩ := (he.same (Mod.refl (fun _ => False) hwf).drew).fullFrames hm1 hs1
      have q1 := (Box.kept (by exact hg) m1).c 0 _ rfl
      have q3 : w2.cell? ⟨ab, ao, ap⟩ = some (cv x) := (farCell m1 ⟨ab, ao, ap⟩ ho hlt).trans hx0
      obtain ⟨ac', cc', ae', ce', aw', cw', d0, d1, d2, d3, d4, d5, d6, d7, d8, fz', hlt', r1', r2', r3'⟩ := he1.1.open))
  go_wp2
  go_ret
  exact ⟨rfl, o2, (Mod.refl _ hwf).drew.trans m1, he1⟩

set_option maxHeartbeats 1000000 in
set_option maxRecDepth 100000 in
theorem e_toR (w : World) (o : Owner) (k : Nat) (h : Hd) (E : Eng) (he : EngAt w o k h E) (hwf : Wf w o) (L : List Int) (y : Int) (hL : E.s.stack = L ++ [y]) (hfit : E.fs.length < 128) :
    Calls Tryz.prog 96 #[gp h] w fun e w' => e = .returned ran ∧ ∃ o', Mod (InE k) w o w' o' ∧ EngAt w' o' k h { E with s := { E.s with stack := L }, fs := E.fs ++ [⟨2, 0, 0, y, 0, []⟩] } := by
  have hm := ((Mod.refl (fun _ => False) hwf).alloc (.cells #[gp h] 24)).alloc (.cells #[.int .i64 0, .int .i64 0, .int .i64 0] 42)
  have hg : Box ((w.alloc (.cells #[gp h] 24)).alloc (.cells #[.int .i64 0, .int .i64 0, .int .i64 0] 42)) o w.heap.size [gp h] 24 := ⟨(Blk.new w [gp h] 24).alloc _, hwf _ (Nat.le_refl _)⟩
  have hs : Box ((w.alloc (.cells #[gp h] 24)).alloc (.cells #[.int .i64 0, .int .i64 0, .int .i64 0] 42)) o (w.heap.size + 1) [.int .i64 0, .int .i64 0, .int .i64 0] 42 := by
    refine ⟨?_, hwf _ (by omega)⟩
    have := Blk.new (w.alloc (.cells #[gp h] 24)) [.int .i64 0, .int .i64 0, .int .i64 0] 42
    rwa [World.size_alloc] at this
  have he0 := he.same hm
  have htake : takeS E.s.stack 1 = ([y], L, 0) := by rw [hL]; exact takeS_snoc L y
  clear hL
  have hdo : DoesW k h 133 #[.pointer (some ⟨w.heap.size, 0, none⟩)] [y] { E with s := { E.s with stack := L } } { E with s := { E.s with stack := L }, fs := E.fs ++ [⟨2, 0, 0, y, 0, []⟩] }
      ((w.alloc (.cells #[gp h] 24)).alloc (.cells #[.int .i64 0, .int .i64 0, .int .i64 0] 42)) o := by
    intro w1 o1 v hmm he1 hr1
    rw [show (#[v] ++ #[.pointer (some ⟨w.heap.size, 0, none⟩)] : Array Value) = #[v, .pointer (some ⟨w.heap.size, 0, none⟩)] from by simp]
    exact toR_does k h _ y _ w1 o1 v he1 hmm.wf hfit (hg.kept hmm) hr1
  have hw := e_with_ok _ o k h E _ he0 hm.wf 1 (by omega) (by omega) L [y] htake 133 _ (enters_of Tryz.func133 (by kernel_rfl) rfl) hdo
  have hhw := Lib.hid hw
  clear hdo hw
  go_enter Tryz.func96, Tryz.ntmps96
  go_wp2_with fail
  refine hhw.out.mono ?_
  rintro e w5 ⟨rfl, o5, m5, he5⟩
  have q1 := (Box.kept (by exact hs) m5)
  obtain ⟨b0, b1, b2, bf⟩ := q1.1.three
  go_wp2
  refine bodyPost_ret (v := ran) (by simp [results, Tryz.results96, go_sem, b0, b1, b2]) rfl ?_
  exact ⟨rfl, fin3 ((hm.mono (fun _ h => h.elim)).trans m5) he5 _ (by omega) q1.2 _ _ _⟩

set_option maxHeartbeats 1000000 in
set_option maxRecDepth 100000 in
theorem e_fromR (w : World) (o : Owner) (k : Nat) (h : Hd) (E : Eng) (he : EngAt w o k h E) (hwf : Wf w o) (Fs : List Fr) (a b x y : Int) (hf : E.fs = Fs ++ [⟨2, a, b, x, y, []⟩]) (hfit : E.s.stack.length < 128) :
    Calls Tryz.prog 97 #[gp h] w fun e w' => e = .returned ran ∧ ∃ o', Mod (InE k) w o w' o' ∧ EngAt w' o' k h { E with fs := Fs, s := { E.s with stack := E.s.stack ++ [x] } } := by
  obtain ⟨hm, hs⟩ := step_door w o hwf
  have he0 := he.same hm
  obtain ⟨ac, cc, ae, ce, aw, cw, c0, c1, c2, c3, c4, c5, c6, c7, c8, fz, hlt, r1, r2, r3⟩ := he0.1.open
  have hF0 : FramesAt (w.alloc (.cells #[.int .i64 0, .int .i64 0, .int .i64 0] 42)) o (k + 2) h.fr (Fs ++ [⟨2, a, b, x, y, []⟩]) := by have := he0.2.1; rw [hf] at this; exact this
  have hpop := Lib.hid (frames_Pop_yes _ o _ _ Fs ⟨2, a, b, x, y, []⟩ hF0 hm.wf (by simp))
  have hp : putS E.s.stack [x] = (E.s.stack ++ [x], 0) := if_pos (by simp; omega)
  clear hf hF0
  go_enter Tryz.func97, Tryz.ntmps97
  go_wp2_with fail
  refine hpop.out.mono ?_
  rintro e w4 ⟨lv, rfl, o4, m4, hF4, hl4⟩
  obtain ⟨m4', he4⟩ := he0.fullFrames m4 hF4
  obtain ⟨la, lc, rfl, _⟩ := hl4.len
  have hs4 := Box.kept (k := k) hs m4'
  have hm5 := (Mod.refl (fun _ => False) m4.wf).alloc (.cells #[.int .i64 2, .int .i64 a, .int .i64 b, .int .i64 x, .int .i64 y, .slice la 0 lc] 58)
  have he5 := he4.same hm5
  go_wp2_with fail
  refine (e_push _ o4 k h _ he5 hm5.wf x).mono ?_
  rw [hp]
  rintro e w6 ⟨rfl, o6, m6, he6⟩
  go_wp2_with fail
  refine (e_done_ok w6 o6 m6.wf h).mono ?_
  rintro e w7 ⟨rfl, m7⟩
  have q1 := Box.kept (k := k) (Box.kept (Box.kept (k := k) hs4 (hm5.mono (fun _ h => h.elim))) m6) (m7.mono (fun _ h => h.elim))
  obtain ⟨b0, b1, b2, bf⟩ := q1.1.three
  go_wp2
  refine bodyPost_ret (v := ran) (by simp [results, Tryz.results97, go_sem, b0, b1, b2]) rfl ?_
  exact ⟨rfl, fin3 ((((((hm.mono (fun _ h => h.elim)).trans m4')).trans (hm5.mono (fun _ h => h.elim))).trans m6).trans (m7.mono (fun _ h => h.elim))) (he6.same m7) _ (by omega) q1.2 _ _ _⟩

set_option maxHeartbeats 1000000 in
set_option maxRecDepth 100000 in
theorem e_copyR (w : World) (o : Owner) (k : Nat) (h : Hd) (E : Eng) (he : EngAt w o k h E) (hwf : Wf w o) (Fs : List Fr) (a b x y : Int) (hf : E.fs = Fs ++ [⟨2, a, b, x, y, []⟩]) (hfit : E.s.stack.length < 128) :
    Calls Tryz.prog 98 #[gp h] w fun e w' => e = .returned ran ∧ ∃ o', Mod (InE k) w o w' o' ∧ EngAt w' o' k h { E with s := { E.s with stack := E.s.stack ++ [x] } } := by
  obtain ⟨hm, hs⟩ := step_door w o hwf
  have he0 := he.same hm
  obtain ⟨ac, cc, ae, ce, aw, cw, c0, c1, c2, c3, c4, c5, c6, c7, c8, fz, hlt, r1, r2, r3⟩ := he0.1.open
  have hF0 : FramesAt (w.alloc (.cells #[.int .i64 0, .int .i64 0, .int .i64 0] 42)) o (k + 2) h.fr (Fs ++ [⟨2, a, b, x, y, []⟩]) := by have := he0.2.1; rw [hf] at this; exact this
  have htop := Lib.hid (frames_Top _ o _ _ Fs ⟨2, a, b, x, y, []⟩ hF0 hm.wf (by simp))
  have hp : putS E.s.stack [x] = (E.s.stack ++ [x], 0) := if_pos (by simp; omega)
  clear hf hF0
  go_enter Tryz.func98, Tryz.ntmps98
  go_wp2_with fail
  refine htop.out.mono ?_
  rintro e w4 ⟨lv, o4, rfl, m4, hl4⟩
  have he4 := he0.same m4
  obtain ⟨la, lc, rfl, _⟩ := hl4.len
  have hs4 := Box.kept (k := k) hs (m4.mono (fun _ h => h.elim))
  have hm5 := (Mod.refl (fun _ => False) m4.wf).alloc (.cells #[.int .i64 2, .int .i64 a, .int .i64 b, .int .i64 x, .int .i64 y, .slice la 0 lc] 58)
  have he5 := he4.same hm5
  go_wp2_with fail
  refine (e_push _ o4 k h _ he5 hm5.wf x).mono ?_
  rw [hp]
  rintro e w6 ⟨rfl, o6, m6, he6⟩
  go_wp2_with fail
  refine (e_done_ok w6 o6 m6.wf h).mono ?_
  rintro e w7 ⟨rfl, m7⟩
  have q1 := Box.kept (k := k) (Box.kept (Box.kept (k := k) hs4 (hm5.mono (fun _ h => h.elim))) m6) (m7.mono (fun _ h => h.elim))
  obtain ⟨b0, b1, b2, bf⟩ := q1.1.three
  go_wp2
  refine bodyPost_ret (v := ran) (by simp [results, Tryz.results98, go_sem, b0, b1, b2]) rfl ?_
  exact ⟨rfl, fin3 ((((((hm.trans m4).mono (fun _ h => h.elim))).trans (hm5.mono (fun _ h => h.elim))).trans m6).trans (m7.mono (fun _ h => h.elim))) (he6.same m7) _ (by omega) q1.2 _ _ _⟩
end Go.Proofs.YtjcaidbkbdkpeaaGreatDoor
