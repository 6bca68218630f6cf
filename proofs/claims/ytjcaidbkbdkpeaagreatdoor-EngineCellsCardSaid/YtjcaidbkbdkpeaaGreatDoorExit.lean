/- The end of a definition; what comes back. -/
import Derived.Test.YtjcaidbkbdkpeaaGreatDoorDoes
namespace Go.Proofs.YtjcaidbkbdkpeaaGreatDoor
open Go Go.RowKit Go.Rh

set_option maxHeartbeats 1000000 in
set_option maxRecDepth 100000 in
theorem holds_exit (w : World) (o : Owner) (k : Nat) (h : Hd) (E : Eng) (he : EngAt w o k h E) (hwf : Wf w o) (a x : Int) (Fs : List Fr) (f : Fr) (hf : E.fs = Fs ++ [f]) (hfl : f.l.length ≤ 1000) (hk : f.kind ≠ 4) :
    Calls Tryz.prog 84 #[gp h, insV 15 a x] w fun e w' => e = .returned ran ∧ ∃ o', Mod (InE k) w o w' o' ∧ EngAt w' o' k h { E with c := { E.c with def_ := 0, on := 0 } } := by
  obtain ⟨hm, hg, hi, hs⟩ := does_door w o hwf h 15 a x
  have he0 := he.same hm
  obtain ⟨ac, cc, ae, ce, aw, cw, c0, c1, c2, c3, c4, c5, c6, c7, c8, fz, hlt, r1, r2, r3⟩ := he0.1.open
  have htop := Lib.hid (frames_Top _ o _ _ Fs f (by have := he0.2.1; rw [hf] at this; exact this) hm.wf hfl)
  clear hf
  go_enter Tryz.func84, Tryz.ntmps84
  go_wp2_with fail
  refine htop.out.mono ?_
  rintro e w4 ⟨lv, o4, rfl, m4, hl4⟩
  obtain ⟨la, lc, rfl, _⟩ := hl4.len
  have he4 := he0.same m4
  have hg4 := Box.kept (k := k) (by exact hg) (m4.mono (fun _ h => h.elim))
  have hs4 := Box.kept (k := k) (by exact hs) (m4.mono (fun _ h => h.elim))
  have g4 := hg4.c 0 _ rfl
  have g4' := (hg4.1.alloc (.cells #[.int .i64 f.kind, .int .i64 f.a, .int .i64 f.b, .int .i64 f.x, .int .i64 f.y, .slice la f.l.length lc] 58)).c 0 _ rfl
  have hm5 := (Mod.refl (fun _ => False) m4.wf).alloc (.cells #[.int .i64 f.kind, .int .i64 f.a, .int .i64 f.b, .int .i64 f.x, .int .i64 f.y, .slice la f.l.length lc] 58)
  have hk' : (f.kind = 4) = False := by simp [hk]
  go_wp2_with fail
  refine (e_place _ o4 k h _ (he4.same hm5) hm5.wf 0 0).mono ?_
  rintro e w6 ⟨rfl, m6, he6⟩
  have g6 := (Box.kept (Box.kept (k := k) hg4 (hm5.mono (fun _ h => h.elim))) m6).c 0 _ rfl
  go_wp2_with fail
  refine (e_done_ok w6 o4 m6.wf h).mono ?_
  rintro e w7 ⟨rfl, m7⟩
  have q1 := Box.kept (k := k) (Box.kept (Box.kept (k := k) hs4 (hm5.mono (fun _ h => h.elim))) m6) (m7.mono (fun _ h => h.elim))
  obtain ⟨b0, b1, b2, bf⟩ := q1.1.three
  go_wp2
  refine bodyPost_ret (v := ran) (by simp [results, Tryz.results84, go_sem, b0, b1, b2]) rfl ?_
  exact ⟨rfl, fin3 (((((hm.trans m4).trans hm5).mono (fun _ h => h.elim)).trans m6).trans (m7.mono (fun _ h => h.elim))) (he6.same m7) _ (by omega) q1.2 _ _ _⟩

set_option maxHeartbeats 1000000 in
set_option maxRecDepth 100000 in
theorem does_exit (w : World) (o : Owner) (k : Nat) (h : Hd) (E : Eng) (he : EngAt w o k h E) (hwf : Wf w o) (a x : Int) (Fs : List Fr) (f : Fr) (hf : E.fs = Fs ++ [f]) (hfl : f.l.length ≤ 1000) (hk : f.kind ≠ 4) :
    Calls Tryz.prog 45 #[gp h, insV 15 a x] w fun e w' => e = .returned ran ∧ ∃ o', Mod (InE k) w o w' o' ∧ EngAt w' o' k h { E with c := { E.c with def_ := 0, on := 0 } } := by
  obtain ⟨hm, hg, hi, hs⟩ := does_door w o hwf h 15 a x
  have he0 := he.same hm
  have hh := Lib.hid (holds_exit _ o k h E he0 hm.wf a x Fs f hf hfl hk)
  clear hf
  have hi0 := hi.1.three
  go_enter Tryz.func45, Tryz.ntmps45
  go_wp2_with fail
  refine hh.out.mono ?_
  rintro e w5 ⟨rfl, o5, m5, he5⟩
  have q1 := (Box.kept (by exact hs) m5)
  obtain ⟨b0, b1, b2, bf⟩ := q1.1.three
  go_wp2
  refine bodyPost_ret (v := ran) (by simp [results, Tryz.results45, go_sem, b0, b1, b2]) rfl ?_
  exact ⟨rfl, fin3 ((hm.mono (fun _ h => h.elim)).trans m5) he5 _ (by omega) q1.2 _ _ _⟩

set_option maxHeartbeats 1000000 in
set_option maxRecDepth 100000 in
theorem returns_halt (w : World) (o : Owner) (k : Nat) (h : Hd) (E : Eng) (he : EngAt w o k h E) (hwf : Wf w o) (hf : E.fs = []) :
    Calls Tryz.prog 42 #[gp h] w fun e w' => e = .returned (stat 5 0 0) ∧ ∃ o', Mod (InE k) w o w' o' ∧ EngAt w' o' k h E := by
  have hm := (Mod.refl (fun _ => False) hwf).alloc (.cells #[.int .i64 0, .int .i64 0, .int .i64 0] 42)
  have hs : Box (w.alloc (.cells #[.int .i64 0, .int .i64 0, .int .i64 0] 42)) o w.heap.size [.int .i64 0, .int .i64 0, .int .i64 0] 42 := ⟨Blk.new w [.int .i64 0, .int .i64 0, .int .i64 0] _, hwf _ (Nat.le_refl _)⟩
  have he0 := he.same hm
  obtain ⟨ac, cc, ae, ce, aw, cw, c0, c1, c2, c3, c4, c5, c6, c7, c8, fz, hlt, r1, r2, r3⟩ := he0.1.open
  have htop := Lib.hid (show Calls Tryz.prog 41 #[.pointer (some ⟨h.fr, 0, none⟩)] (w.alloc (.cells #[.int .i64 0, .int .i64 0, .int .i64 0] 42)) (fun e w' => e = .returned (.tuple #[.agg #[.int .i64 0, .int .i64 0, .int .i64 0, .int .i64 0, .int .i64 0, .slice none 0 0], .bool false]) ∧ Mod (fun _ => False) (w.alloc (.cells #[.int .i64 0, .int .i64 0, .int .i64 0] 42)) o w' o) from
    frames_Top_none _ o _ _ (by have := he0.2.1; rw [hf] at this; exact this) hm.wf)
  clear hf
  go_enter Tryz.func42, Tryz.ntmps42
  go_wp2_with fail
  refine htop.out.mono ?_
  rintro e w4 ⟨rfl, m4⟩
  have he4 := he0.same m4
  have hs4 := Box.kept (k := k) (by exact hs) (m4.mono (fun _ h => h.elim))
  have hm5 := (Mod.refl (fun _ => False) m4.wf).alloc (.cells #[.int .i64 0, .int .i64 0, .int .i64 0, .int .i64 0, .int .i64 0, .slice none 0 0] 58)
  have q1 := Box.kept (k := k) hs4 (hm5.mono (fun _ h => h.elim))
  obtain ⟨b0, b1, b2, bf⟩ := q1.1.three
  go_wp2
  refine bodyPost_ret (v := stat 5 0 0) (by simp [results, Tryz.results42, go_sem, b0, b1, b2]) rfl ?_
  exact ⟨rfl, fin3 (((hm.trans m4).trans hm5).mono (fun _ h => h.elim)) (he4.same hm5) _ (by omega) q1.2 _ _ _⟩

set_option maxHeartbeats 1000000 in
set_option maxRecDepth 100000 in
theorem returns_call (w : World) (o : Owner) (k : Nat) (h : Hd) (E : Eng) (he : EngAt w o k h E) (hwf : Wf w o) (Fs : List Fr) (a b x y : Int) (hf : E.fs = Fs ++ [⟨1, a, b, x, y, []⟩]) :
    Calls Tryz.prog 42 #[gp h] w fun e w' => e = .returned ran ∧ ∃ o', Mod (InE k) w o w' o' ∧ EngAt w' o' k h { E with fs := Fs, c := { E.c with def_ := a, on := b } } := by
  have hm := (Mod.refl (fun _ => False) hwf).alloc (.cells #[.int .i64 0, .int .i64 0, .int .i64 0] 42)
  have hs : Box (w.alloc (.cells #[.int .i64 0, .int .i64 0, .int .i64 0] 42)) o w.heap.size [.int .i64 0, .int .i64 0, .int .i64 0] 42 := ⟨Blk.new w [.int .i64 0, .int .i64 0, .int .i64 0] _, hwf _ (Nat.le_refl _)⟩
  have he0 := he.same hm
  obtain ⟨ac, cc, ae, ce, aw, cw, c0, c1, c2, c3, c4, c5, c6, c7, c8, fz, hlt, r1, r2, r3⟩ := he0.1.open
  have hF0 : FramesAt (w.alloc (.cells #[.int .i64 0, .int .i64 0, .int .i64 0] 42)) o (k + 2) h.fr (Fs ++ [⟨1, a, b, x, y, []⟩]) := by have := he0.2.1; rw [hf] at this; exact this
  have htop := Lib.hid (show Calls Tryz.prog 41 #[.pointer (some ⟨h.fr, 0, none⟩)] (w.alloc (.cells #[.int .i64 0, .int .i64 0, .int .i64 0] 42)) (fun e w' => ∃ lv o', e = .returned (.tuple #[.agg #[.int .i64 1, .int .i64 a, .int .i64 b, .int .i64 x, .int .i64 y, lv], .bool true]) ∧ Mod (fun _ => False) (w.alloc (.cells #[.int .i64 0, .int .i64 0, .int .i64 0] 42)) o w' o' ∧ LRow w' o' 0 lv []) from
    frames_Top _ o _ _ Fs _ hF0 hm.wf (by simp))
  have hF := Lib.hid hF0
  clear hf hF0
  go_enter Tryz.func42, Tryz.ntmps42
  go_wp2_with fail
  refine htop.out.mono ?_
  rintro e w4 ⟨lv, o4, rfl, m4, hl4⟩
  obtain ⟨la, lc, rfl, _⟩ := hl4.len
  have he4 := he0.same m4
  have hs4 := Box.kept (k := k) (by exact hs) (m4.mono (fun _ h => h.elim))
  have hm5 := (Mod.refl (fun _ => False) m4.wf).alloc (.cells #[.int .i64 1, .int .i64 a, .int .i64 b, .int .i64 x, .int .i64 y, .slice la 0 lc] 58)
  have he5 := he4.same hm5
  obtain ⟨ac', cc', ae', ce', aw', cw', d0, d1, d2, d3, d4, d5, d6, d7, d8, fz', hlt', r1', r2', r3'⟩ := he5.1.open
  have hfr5 : Box _ o4 w4.heap.size _ _ := ⟨Blk.new w4 [.int .i64 1, .int .i64 a, .int .i64 b, .int .i64 x, .int .i64 y, .slice la 0 lc] 58, m4.wf _ (Nat.le_refl _)⟩
  go_wp2_with fail
  refine (frames_Pop_yes _ o4 _ _ Fs ⟨1, a, b, x, y, []⟩ ((hF.out.kept m4 (fun h => h)).kept hm5 (fun h => h)) hm5.wf (by simp)).mono ?_
  rintro e w6 ⟨lv6, rfl, o6, m6, hF6, hl6⟩
  obtain ⟨m6', he6⟩ := he5.fullFrames m6 hF6
  have q6 := (Box.kept (k := k) hfr5 m6').1.six
  go_wp2_with fail
  refine (e_place _ o6 k h _ he6 m6.wf a b).mono ?_
  rintro e w7 ⟨rfl, m7, he7⟩
  go_wp2_with fail
  refine (e_done_ok w7 o6 m7.wf h).mono ?_
  rintro e w8 ⟨rfl, m8⟩
  have q1 := Box.kept (k := k) (Box.kept (Box.kept (Box.kept (k := k) hs4 (hm5.mono (fun _ h => h.elim))) m6') m7) (m8.mono (fun _ h => h.elim))
  obtain ⟨b0, b1, b2, bf⟩ := q1.1.three
  go_wp2
  refine bodyPost_ret (v := ran) (by simp [results, Tryz.results42, go_sem, b0, b1, b2]) rfl ?_
  exact ⟨rfl, fin3 ((((((hm.trans m4).trans hm5).mono (fun _ h => h.elim)).trans m6').trans m7).trans (m8.mono (fun _ h => h.elim))) (he7.same m8) _ (by omega) q1.2 _ _ _⟩
end Go.Proofs.YtjcaidbkbdkpeaaGreatDoor
