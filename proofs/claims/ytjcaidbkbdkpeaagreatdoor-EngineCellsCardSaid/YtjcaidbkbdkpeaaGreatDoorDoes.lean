/- What each instruction does. -/
import Derived.Test.YtjcaidbkbdkpeaaGreatDoorThr
namespace Go.Proofs.YtjcaidbkbdkpeaaGreatDoor
open Go Go.RowKit Go.Rh

abbrev insL (op a x : Int) : List Value := [.int .u8 op, .int .i64 a, .int .i64 x]
abbrev insV (op a x : Int) : Value := .agg (insL op a x).toArray

/-- The blocks that are made at the door. -/
theorem does_door (w : World) (o : Owner) (hwf : Wf w o) (h : Hd) (op a x : Int) :
    let w3 := ((w.alloc (.cells #[gp h] 24)).alloc (.cells #[.int .u8 op, .int .i64 a, .int .i64 x] 35)).alloc (.cells #[.int .i64 0, .int .i64 0, .int .i64 0] 42)
    Mod (fun _ => False) w o w3 o ∧ Box w3 o w.heap.size [gp h] 24 ∧ Box w3 o (w.heap.size + 1) (insL op a x) 35 ∧ Box w3 o (w.heap.size + 2) [.int .i64 0, .int .i64 0, .int .i64 0] 42 := by
  intro w3
  have hm := (((Mod.refl (fun _ => False) hwf).alloc (.cells #[gp h] 24)).alloc (.cells #[.int .u8 op, .int .i64 a, .int .i64 x] 35)).alloc (.cells #[.int .i64 0, .int .i64 0, .int .i64 0] 42)
  refine ⟨hm, ⟨((Blk.new w [gp h] 24).alloc _).alloc _, hwf _ (Nat.le_refl _)⟩, ⟨?_, hwf _ (by omega)⟩, ⟨?_, hwf _ (by omega)⟩⟩
  · have := (Blk.new (w.alloc (.cells #[gp h] 24)) (insL op a x) 35).alloc (.cells #[.int .i64 0, .int .i64 0, .int .i64 0] 42)
    rwa [World.size_alloc] at this
  · have := Blk.new ((w.alloc (.cells #[gp h] 24)).alloc (.cells #[.int .u8 op, .int .i64 a, .int .i64 x] 35)) [.int .i64 0, .int .i64 0, .int .i64 0] 42
    rwa [World.size_alloc, World.size_alloc] at this

/-- A status is laid into its block. -/
theorem fin3 {w w5 : World} {o o5 : Owner} {k : Nat} {h : Hd} {E : Eng} (M : Mod (InE k) w o w5 o5) (he : EngAt w5 o5 k h E) (B : Nat) (hB : w.heap.size ≤ B) (hBo : o5 B = 0) (x y z : Value) :
    ∃ o', Mod (InE k) w o (((w5.setCell ⟨B, 0, none⟩ x).setCell ⟨B, 1, none⟩ y).setCell ⟨B, 2, none⟩ z) o' ∧ EngAt (((w5.setCell ⟨B, 0, none⟩ x).setCell ⟨B, 1, none⟩ y).setCell ⟨B, 2, none⟩ z) o' k h E :=
  ⟨o5, ((M.setNew _ _ hB).setNew _ _ hB).setNew _ _ hB, he.far ((((Mod.refl (· = 0) M.wf).setCell _ _ (fun _ => hBo)).setCell _ _ (fun _ => hBo)).setCell _ _ (fun _ => hBo))⟩

set_option maxHeartbeats 1000000 in
set_option maxRecDepth 100000 in
theorem does_jump (w : World) (o : Owner) (k : Nat) (h : Hd) (E : Eng) (he : EngAt w o k h E) (hwf : Wf w o) (a x : Int) :
    Calls Tryz.prog 45 #[gp h, insV 3 a x] w fun e w' => e = .returned ran ∧ ∃ o', Mod (InE k) w o w' o' ∧ EngAt w' o' k h { E with c := { E.c with on := a } } := by
  obtain ⟨hm, hg, hi, hs⟩ := does_door w o hwf h 3 a x
  have he0 := he.same hm
  go_enter Tryz.func45, Tryz.ntmps45
  go_wp2_with fail
  have hwf0 := hm.wf
  have n1 : w.heap.size ≠ w.heap.size + 1 + 1 := by omega
  have n2 : w.heap.size + 1 + 1 ≠ w.heap.size := by omega
  go_region_held3 (fun w' => w'.cell? ⟨w.heap.size, 0, none⟩ = some (gp h) ∧ w'.cell? ⟨w.heap.size + 1, 1, none⟩ = some (.int .i64 a)) (go_keep)
    ((first
      | (go_simp; go_at_call 77; refine (e_jump_yes _ o k h E (he0.same (Mod.refl (fun _ => False) hm.wf).drew) hwf0 a).mono ?_
         rintro e w4 ⟨rfl, m4, he4⟩
         have q1 := (Box.kept (by exact hg) m4).c 0 _ rfl
         have q2 := (Box.kept (by exact hi) m4).c 1 _ rfl)
      | (go_simp; go_at_call 60; refine (e_done_ok w4 o m4.wf h).mono ?_
         rintro e w5 ⟨rfl, m5⟩
         have q3 := (Box.kept (k := k) (Box.kept (by exact hg) m4) (m5.mono (fun _ h => h.elim))).c 0 _ rfl
         have q4 := (Box.kept (k := k) (Box.kept (by exact hi) m4) (m5.mono (fun _ h => h.elim))).c 1 _ rfl
         have q5 := (Box.kept (k := k) (Box.kept (by exact hs) m4) (m5.mono (fun _ h => h.elim)))
         obtain ⟨b0, b1, b2, bf⟩ := q5.1.three)))
  go_wp2
  refine bodyPost_ret (v := ran) (by simp [results, Tryz.results45, go_sem, b0, b1, b2]) rfl ?_
  exact ⟨rfl, fin3 (((hm.drew.mono (fun _ h => h.elim)).trans m4).trans (m5.mono (fun _ h => h.elim))) (he4.same m5) _ (by omega) q5.2 _ _ _⟩
set_option maxHeartbeats 1000000 in
set_option maxRecDepth 100000 in
theorem does_lit (w : World) (o : Owner) (k : Nat) (h : Hd) (E : Eng) (he : EngAt w o k h E) (hwf : Wf w o) (a x : Int) (hfit : E.s.stack.length < 128) :
    Calls Tryz.prog 45 #[gp h, insV 1 a x] w fun e w' => e = .returned ran ∧ ∃ o', Mod (InE k) w o w' o' ∧ EngAt w' o' k h { E with s := { E.s with stack := E.s.stack ++ [x] } } := by
  obtain ⟨hm, hg, hi, hs⟩ := does_door w o hwf h 1 a x
  have he0 := he.same hm
  go_enter Tryz.func45, Tryz.ntmps45
  go_wp2_with fail
  have hp : putS E.s.stack [x] = (E.s.stack ++ [x], 0) := if_pos (by simp; omega)
  have hwf0 := hm.wf
  have n1 : w.heap.size ≠ w.heap.size + 1 + 1 := by omega
  have n2 : w.heap.size + 1 + 1 ≠ w.heap.size := by omega
  go_region_held3 (fun w' => w'.cell? ⟨w.heap.size, 0, none⟩ = some (gp h) ∧ w'.cell? ⟨w.heap.size + 1, 2, none⟩ = some (.int .i64 x)) (go_keep)
    ((first
      | (go_simp; go_at_call 63; refine (e_push _ o k h E (he0.same (Mod.refl (fun _ => False) hm.wf).drew) hwf0 x).mono ?_
         rw [hp]
         rintro e w4 ⟨rfl, o4, m4, he4⟩
         have q1 := (Box.kept (by exact hg) m4).c 0 _ rfl
         have q2 := (Box.kept (by exact hi) m4).c 2 _ rfl)
      | (go_simp; go_at_call 60; refine (e_done_ok w4 o4 m4.wf h).mono ?_
         rintro e w5 ⟨rfl, m5⟩
         have q3 := (Box.kept (k := k) (Box.kept (by exact hg) m4) (m5.mono (fun _ h => h.elim))).c 0 _ rfl
         have q4 := (Box.kept (k := k) (Box.kept (by exact hi) m4) (m5.mono (fun _ h => h.elim))).c 2 _ rfl
         have q5 := (Box.kept (k := k) (Box.kept (by exact hs) m4) (m5.mono (fun _ h => h.elim)))
         obtain ⟨b0, b1, b2, bf⟩ := q5.1.three)))
  go_wp2
  refine bodyPost_ret (v := ran) (by simp [results, Tryz.results45, go_sem, b0, b1, b2]) rfl ?_
  exact ⟨rfl, fin3 (((hm.drew.mono (fun _ h => h.elim)).trans m4).trans (m5.mono (fun _ h => h.elim))) (he4.same m5) _ (by omega) q5.2 _ _ _⟩

set_option maxHeartbeats 1000000 in
set_option maxRecDepth 100000 in
theorem does_zero (w : World) (o : Owner) (k : Nat) (h : Hd) (E : Eng) (he : EngAt w o k h E) (hwf : Wf w o) (a x : Int) (L : List Int) (y : Int) (hL : E.s.stack = L ++ [y]) (on' : Int) (hon : on' = if y = 0 then a else E.c.on) :
    Calls Tryz.prog 45 #[gp h, insV 4 a x] w fun e w' => e = .returned ran ∧ ∃ o', Mod (InE k) w o w' o' ∧ EngAt w' o' k h { E with s := { E.s with stack := L }, c := { E.c with on := on' } } := by
  obtain ⟨hm, hg, hi, hs⟩ := does_door w o hwf h 4 a x
  have he0 := he.same hm
  have htake : takeS E.s.stack 1 = ([y], L, 0) := by rw [hL]; exact takeS_snoc L y
  clear hL
  have hdo : DoesW k h 78 #[.pointer (some ⟨w.heap.size, 0, none⟩), .pointer (some ⟨w.heap.size + 1, 0, none⟩)] [y] { E with s := { E.s with stack := L } } { E with s := { E.s with stack := L }, c := { E.c with on := on' } }
      (((w.alloc (.cells #[gp h] 24)).alloc (.cells #[.int .u8 4, .int .i64 a, .int .i64 x] 35)).alloc (.cells #[.int .i64 0, .int .i64 0, .int .i64 0] 42)) o := by
    intro w1 o1 v hmm he1 hr1
    rw [show (#[v] ++ #[.pointer (some ⟨w.heap.size, 0, none⟩), .pointer (some ⟨w.heap.size + 1, 0, none⟩)] : Array Value) = #[v, .pointer (some ⟨w.heap.size, 0, none⟩), .pointer (some ⟨w.heap.size + 1, 0, none⟩)] from by simp]
    rw [hon]
    exact zero_does k h _ _ y a 4 x _ w1 o1 v he1 hmm.wf (hg.kept hmm) (hi.kept hmm) hr1
  have hw := e_with_ok _ o k h E _ he0 hm.wf 1 (by omega) (by omega) L [y] htake 78 _ (enters_of Tryz.func78 (by kernel_rfl) rfl) hdo
  have hhw := Lib.hid hw
  clear hdo hw hon
  go_enter Tryz.func45, Tryz.ntmps45
  go_wp2_with fail
  refine hhw.out.mono ?_
  rintro e w5 ⟨rfl, o5, m5, he5⟩
  have q1 := (Box.kept (by exact hs) m5)
  obtain ⟨b0, b1, b2, bf⟩ := q1.1.three
  go_wp2
  refine bodyPost_ret (v := ran) (by simp [results, Tryz.results45, go_sem, b0, b1, b2]) rfl ?_
  exact ⟨rfl, fin3 ((hm.mono (fun _ h => h.elim)).trans m5) he5 _ (by omega) q1.2 _ _ _⟩

set_option maxHeartbeats 1000000 in
set_option maxRecDepth 100000 in
/-- OpOf: E2 is what the closure makes of it. -/
theorem does_of (w : World) (o : Owner) (k : Nat) (h : Hd) (E : Eng) (he : EngAt w o k h E) (hwf : Wf w o) (a x : Int) (L : List Int) (y1 y2 : Int) (hL : E.s.stack = L ++ [y1, y2]) (hlen : L.length < 128) (on' : Int) (L' : List Int) (hon : (on', L') = if y1 = y2 then (E.c.on, L) else (a, L ++ [y1])) :
    Calls Tryz.prog 45 #[gp h, insV 10 a x] w fun e w' => e = .returned ran ∧ ∃ o', Mod (InE k) w o w' o' ∧ EngAt w' o' k h { E with s := { E.s with stack := L' }, c := { E.c with on := on' } } := by
  obtain ⟨hm, hg, hi, hs⟩ := does_door w o hwf h 10 a x
  have he0 := he.same hm
  have htake : takeS E.s.stack 2 = ([y1, y2], L, 0) := by
    rw [hL]; unfold takeS
    have h1 : ¬ (((L ++ [y1, y2]).length : Int) < 2) := by simp; omega
    rw [if_neg (by decide), if_neg h1]; simp
  clear hL
  have hdo : DoesW k h 83 #[.pointer (some ⟨w.heap.size, 0, none⟩), .pointer (some ⟨w.heap.size + 1, 0, none⟩)] [y1, y2] { E with s := { E.s with stack := L } } { E with s := { E.s with stack := L' }, c := { E.c with on := on' } }
      (((w.alloc (.cells #[gp h] 24)).alloc (.cells #[.int .u8 10, .int .i64 a, .int .i64 x] 35)).alloc (.cells #[.int .i64 0, .int .i64 0, .int .i64 0] 42)) o := by
    intro w1 o1 v hmm he1 hr1
    rw [show (#[v] ++ #[.pointer (some ⟨w.heap.size, 0, none⟩), .pointer (some ⟨w.heap.size + 1, 0, none⟩)] : Array Value) = #[v, .pointer (some ⟨w.heap.size, 0, none⟩), .pointer (some ⟨w.heap.size + 1, 0, none⟩)] from by simp]
    by_cases hy : y1 = y2
    · rw [if_pos hy] at hon
      obtain ⟨rfl, rfl⟩ := Prod.mk.inj hon
      subst hy
      exact of_does_same k h _ _ y1 _ w1 o1 v he1 hmm.wf hr1
    · rw [if_neg hy] at hon
      obtain ⟨rfl, rfl⟩ := Prod.mk.inj hon
      exact of_does_other k h _ _ y1 y2 on' 10 x hy _ w1 o1 v he1 hmm.wf hlen (hg.kept hmm) (hi.kept hmm) hr1
  have hw := e_with_ok _ o k h E _ he0 hm.wf 2 (by omega) (by omega) L [y1, y2] htake 83 _ (enters_of Tryz.func83 (by kernel_rfl) rfl) hdo
  have hhw := Lib.hid hw
  clear hdo hw hon
  go_enter Tryz.func45, Tryz.ntmps45
  go_wp2_with fail
  refine hhw.out.mono ?_
  rintro e w5 ⟨rfl, o5, m5, he5⟩
  have q1 := (Box.kept (by exact hs) m5)
  obtain ⟨b0, b1, b2, bf⟩ := q1.1.three
  go_wp2
  refine bodyPost_ret (v := ran) (by simp [results, Tryz.results45, go_sem, b0, b1, b2]) rfl ?_
  exact ⟨rfl, fin3 ((hm.mono (fun _ h => h.elim)).trans m5) he5 _ (by omega) q1.2 _ _ _⟩

set_option maxHeartbeats 1000000 in
set_option maxRecDepth 100000 in
theorem holds_drop (w : World) (o : Owner) (k : Nat) (h : Hd) (E : Eng) (he : EngAt w o k h E) (hwf : Wf w o) (a x : Int) (L : List Int) (y : Int) (hL : E.s.stack = L ++ [y]) :
    Calls Tryz.prog 84 #[gp h, insV 11 a x] w fun e w' => e = .returned ran ∧ ∃ o', Mod (InE k) w o w' o' ∧ EngAt w' o' k h { E with s := { E.s with stack := L } } := by
  obtain ⟨hm, hg, hi, hs⟩ := does_door w o hwf h 11 a x
  have he0 := he.same hm
  have htake : takeS E.s.stack 1 = ([y], L, 0) := by rw [hL]; exact takeS_snoc L y
  clear hL
  have hdo : DoesW k h 110 #[] [y] { E with s := { E.s with stack := L } } { E with s := { E.s with stack := L } }
      (((w.alloc (.cells #[gp h] 24)).alloc (.cells #[.int .u8 11, .int .i64 a, .int .i64 x] 35)).alloc (.cells #[.int .i64 0, .int .i64 0, .int .i64 0] 42)) o := by
    intro w1 o1 v hmm he1 hr1
    exact drop_does k h _ w1 o1 v he1 hmm.wf
  have hw := e_with_ok _ o k h E _ he0 hm.wf 1 (by omega) (by omega) L [y] htake 110 _ (enters_of Tryz.func110 (by kernel_rfl) rfl) hdo
  have hhw := Lib.hid hw
  clear hdo hw
  go_enter Tryz.func84, Tryz.ntmps84
  go_wp2_with fail
  refine hhw.out.mono ?_
  rintro e w5 ⟨rfl, o5, m5, he5⟩
  have q1 := (Box.kept (by exact hs) m5)
  obtain ⟨b0, b1, b2, bf⟩ := q1.1.three
  go_wp2
  refine bodyPost_ret (v := ran) (by simp [results, Tryz.results84, go_sem, b0, b1, b2]) rfl ?_
  exact ⟨rfl, fin3 ((hm.mono (fun _ h => h.elim)).trans m5) he5 _ (by omega) q1.2 _ _ _⟩

set_option maxHeartbeats 1000000 in
set_option maxRecDepth 100000 in
theorem does_drop (w : World) (o : Owner) (k : Nat) (h : Hd) (E : Eng) (he : EngAt w o k h E) (hwf : Wf w o) (a x : Int) (L : List Int) (y : Int) (hL : E.s.stack = L ++ [y]) :
    Calls Tryz.prog 45 #[gp h, insV 11 a x] w fun e w' => e = .returned ran ∧ ∃ o', Mod (InE k) w o w' o' ∧ EngAt w' o' k h { E with s := { E.s with stack := L } } := by
  obtain ⟨hm, hg, hi, hs⟩ := does_door w o hwf h 11 a x
  have he0 := he.same hm
  have hh := Lib.hid (holds_drop _ o k h E he0 hm.wf a x L y hL)
  clear hL
  have hi0 := hi.1.three
  go_enter Tryz.func45, Tryz.ntmps45
  go_wp2_with fail
  refine hh.out.mono ?_
  rintro e w5 ⟨rfl, o5, m5, he5⟩
  have q1 := (Box.kept (by exact hs) m5)
  obtain ⟨b0, b1, b2, bf⟩ := q1.1.three
  go_wp2
  refine bodyPost_ret (v := ran) (by simp [results, Tryz.results45, go_sem, b0, b1, b2]) rfl ?_
  exact ⟨rfl, fin3 ((hm.mono (fun _ h => h.elim)).trans m5) he5 _ (by omega) q1.2 _ _ _⟩
end Go.Proofs.YtjcaidbkbdkpeaaGreatDoor
