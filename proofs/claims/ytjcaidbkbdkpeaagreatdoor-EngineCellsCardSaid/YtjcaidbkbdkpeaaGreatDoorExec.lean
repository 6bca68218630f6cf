/- A word is executed. -/
import Derived.Test.YtjcaidbkbdkpeaaGreatDoorExit
namespace Go.Proofs.YtjcaidbkbdkpeaaGreatDoor
open Go Go.RowKit Go.Rh

/-- The blocks that are made at the door. -/
theorem exec_door (w : World) (o : Owner) (hwf : Wf w o) (h : Hd) (x : Wd) :
    let w2 := (w.alloc (.cells #[gp h] 24)).alloc (.cells #[.int .i64 0, .int .i64 0, .int .i64 0] 42)
    let w3 := w2.alloc (.cells #[.int .i64 x.kind, .int .i64 x.n, .int .i64 x.w] 33)
    Mod (fun _ => False) w o w2 o ∧ Mod (fun _ => False) w o w3 o ∧ Box w3 o w.heap.size [gp h] 24 ∧ Box w3 o (w.heap.size + 1) [.int .i64 0, .int .i64 0, .int .i64 0] 42 ∧ Box w3 o (w.heap.size + 1 + 1) (wdL x) 33 := by
  intro w2 w3
  have hm2 := ((Mod.refl (fun _ => False) hwf).alloc (.cells #[gp h] 24)).alloc (.cells #[.int .i64 0, .int .i64 0, .int .i64 0] 42)
  refine ⟨hm2, hm2.alloc _, ⟨((Blk.new w [gp h] 24).alloc _).alloc _, hwf _ (Nat.le_refl _)⟩, ⟨?_, hwf _ (by omega)⟩, ⟨?_, hwf _ (by omega)⟩⟩
  · have := (Blk.new (w.alloc (.cells #[gp h] 24)) [.int .i64 0, .int .i64 0, .int .i64 0] 42).alloc (.cells #[.int .i64 x.kind, .int .i64 x.n, .int .i64 x.w] 33)
    rwa [World.size_alloc] at this
  · have := Blk.new w2 (wdL x) 33
    rwa [World.size_alloc, World.size_alloc] at this

set_option maxHeartbeats 1000000 in
set_option maxRecDepth 100000 in
theorem exec_colon (w : World) (o : Owner) (k : Nat) (h : Hd) (E : Eng) (he : EngAt w o k h E) (hwf : Wf w o) (i : Nat) (n x : Int) (hx : E.c.words[i]? = some ⟨5, n, x⟩) (h1 : 1 ≤ n) (h2 : n ≤ E.c.ends.length) (hf : E.fs.length < 128) :
    Calls Tryz.prog 40 #[gp h, .int .i64 ((i : Int) + 1)] w fun e w' => e = .returned ran ∧ ∃ o', Mod (InE k) w o w' o' ∧ EngAt w' o' k h { E with fs := E.fs ++ [⟨1, E.c.def_, E.c.on, 0, 0, []⟩], c := { E.c with def_ := n, on := 0 } } := by
  obtain ⟨hm2, hm, hg, hs, hwd⟩ := exec_door w o hwf h ⟨5, n, x⟩
  have he2 := he.same hm2
  have he0 := he.same hm
  have hil : i < E.c.words.length := (List.getElem?_eq_some_iff.1 hx).1
  have hle : E.c.words.length ≤ 600 := he.1.2.2.2.2.1
  obtain ⟨bw, cw, hcw, g0, g1, g2⟩ := he2.wordsAt hx
  have hfind := Lib.hid (e_find_yes _ h i _ bw cw hil hle hcw)
  have hn2 : n ≤ 300 := by have := he.1.2.2.2.1; omega
  clear hx
  dsimp only at g0 g1 g2
  go_enter Tryz.func40, Tryz.ntmps40
  go_wp2_with fail
  refine hfind.out.mono ?_
  rintro e w4 ⟨rfl, rfl⟩
  have hwf0 := hm.wf
  have n1 : w.heap.size ≠ w.heap.size + 1 + 1 := by omega
  have n2 : w.heap.size + 1 + 1 ≠ w.heap.size := by omega
  go_wp2_with fail
  have x1 : (((w.alloc (.cells #[gp h] 24)).alloc (.cells #[.int .i64 0, .int .i64 0, .int .i64 0] 42)).alloc (.cells #[.int .i64 5, .int .i64 n, .int .i64 x] 33)).drew.cell? ⟨w.heap.size + 1 + 1, 1, none⟩ = some (.int .i64 n) := hwd.c 1 _ rfl
  go_region_held3 (fun w' => w'.cell? ⟨w.heap.size, 0, none⟩ = some (gp h) ∧ w'.cell? ⟨w.heap.size + 1 + 1, 1, none⟩ = some (.int .i64 n)) (go_keep)
    ((first
      | (go_simp; go_at_call 62; refine (e_call_ok _ o k h E (he0.same (Mod.refl (fun _ => False) hm.wf).drew) hwf0 n h1 h2 hf).mono ?_
         rintro e w4 ⟨rfl, o4, m4, he4⟩
         have q1 := (Box.kept (by exact hg) m4).c 0 _ rfl
         have q2 := (Box.kept (by exact hwd) m4).c 1 _ rfl)
      | (go_simp; go_at_call 60; refine (e_done_ok w4 o4 m4.wf h).mono ?_
         rintro e w5 ⟨rfl, m5⟩
         have q3 := (Box.kept (k := k) (Box.kept (by exact hg) m4) (m5.mono (fun _ h => h.elim))).c 0 _ rfl
         have q4 := (Box.kept (k := k) (Box.kept (by exact hwd) m4) (m5.mono (fun _ h => h.elim))).c 1 _ rfl
         have q5 := (Box.kept (k := k) (Box.kept (by exact hs) m4) (m5.mono (fun _ h => h.elim)))
         obtain ⟨b0, b1, b2, bf⟩ := q5.1.three)))
  go_wp2
  refine bodyPost_ret (v := ran) (by simp [results, Tryz.results40, go_sem, b0, b1, b2]) rfl ?_
  exact ⟨rfl, fin3 (((hm.drew.mono (fun _ h => h.elim)).trans m4).trans (m5.mono (fun _ h => h.elim))) (he4.same m5) _ (by omega) q5.2 _ _ _⟩

set_option maxHeartbeats 1000000 in
set_option maxRecDepth 100000 in
theorem exec_cell (w : World) (o : Owner) (k : Nat) (h : Hd) (E : Eng) (he : EngAt w o k h E) (hwf : Wf w o) (i : Nat) (n x : Int) (hx : E.c.words[i]? = some ⟨6, n, x⟩) (hfit : E.s.stack.length < 128) :
    Calls Tryz.prog 40 #[gp h, .int .i64 ((i : Int) + 1)] w fun e w' => e = .returned ran ∧ ∃ o', Mod (InE k) w o w' o' ∧ EngAt w' o' k h { E with s := { E.s with stack := E.s.stack ++ [x] } } := by
  obtain ⟨hm2, hm, hg, hs, hwd⟩ := exec_door w o hwf h ⟨6, n, x⟩
  have he2 := he.same hm2
  have he0 := he.same hm
  have hil : i < E.c.words.length := (List.getElem?_eq_some_iff.1 hx).1
  have hle : E.c.words.length ≤ 600 := he.1.2.2.2.2.1
  obtain ⟨bw, cw, hcw, g0, g1, g2⟩ := he2.wordsAt hx
  have hfind := Lib.hid (e_find_yes _ h i _ bw cw hil hle hcw)
  have hp : putS E.s.stack [x] = (E.s.stack ++ [x], 0) := if_pos (by simp; omega)
  clear hx
  dsimp only at g0 g1 g2
  go_enter Tryz.func40, Tryz.ntmps40
  go_wp2_with fail
  refine hfind.out.mono ?_
  rintro e w4 ⟨rfl, rfl⟩
  have hwf0 := hm.wf
  have n1 : w.heap.size ≠ w.heap.size + 1 + 1 := by omega
  have n2 : w.heap.size + 1 + 1 ≠ w.heap.size := by omega
  go_wp2_with fail
  have x1 : (((w.alloc (.cells #[gp h] 24)).alloc (.cells #[.int .i64 0, .int .i64 0, .int .i64 0] 42)).alloc (.cells #[.int .i64 6, .int .i64 n, .int .i64 x] 33)).drew.cell? ⟨w.heap.size + 1 + 1, 2, none⟩ = some (.int .i64 x) := hwd.c 2 _ rfl
  go_region_held3 (fun w' => w'.cell? ⟨w.heap.size, 0, none⟩ = some (gp h) ∧ w'.cell? ⟨w.heap.size + 1 + 1, 2, none⟩ = some (.int .i64 x)) (go_keep)
    ((first
      | (go_simp; go_at_call 63; refine (e_push _ o k h E (he0.same (Mod.refl (fun _ => False) hm.wf).drew) hwf0 x).mono ?_
         rw [hp]
         rintro e w4 ⟨rfl, o4, m4, he4⟩
         have q1 := (Box.kept (by exact hg) m4).c 0 _ rfl
         have q2 := (Box.kept (by exact hwd) m4).c 2 _ rfl)
      | (go_simp; go_at_call 60; refine (e_done_ok w4 o4 m4.wf h).mono ?_
         rintro e w5 ⟨rfl, m5⟩
         have q3 := (Box.kept (k := k) (Box.kept (by exact hg) m4) (m5.mono (fun _ h => h.elim))).c 0 _ rfl
         have q4 := (Box.kept (k := k) (Box.kept (by exact hwd) m4) (m5.mono (fun _ h => h.elim))).c 2 _ rfl
         have q5 := (Box.kept (k := k) (Box.kept (by exact hs) m4) (m5.mono (fun _ h => h.elim)))
         obtain ⟨b0, b1, b2, bf⟩ := q5.1.three)))
  go_wp2
  refine bodyPost_ret (v := ran) (by simp [results, Tryz.results40, go_sem, b0, b1, b2]) rfl ?_
  exact ⟨rfl, fin3 (((hm.drew.mono (fun _ h => h.elim)).trans m4).trans (m5.mono (fun _ h => h.elim))) (he4.same m5) _ (by omega) q5.2 _ _ _⟩

set_option maxHeartbeats 1000000 in
set_option maxRecDepth 100000 in
theorem exec_value (w : World) (o : Owner) (k : Nat) (h : Hd) (E : Eng) (he : EngAt w o k h E) (hwf : Wf w o) (i : Nat) (n x : Int) (hx : E.c.words[i]? = some ⟨9, n, x⟩) (hfit : E.s.stack.length < 128) :
    Calls Tryz.prog 40 #[gp h, .int .i64 ((i : Int) + 1)] w fun e w' => e = .returned ran ∧ ∃ o', Mod (InE k) w o w' o' ∧ EngAt w' o' k h { E with s := { E.s with stack := E.s.stack ++ [x] } } := by
  obtain ⟨hm2, hm, hg, hs, hwd⟩ := exec_door w o hwf h ⟨9, n, x⟩
  have he2 := he.same hm2
  have he0 := he.same hm
  have hil : i < E.c.words.length := (List.getElem?_eq_some_iff.1 hx).1
  have hle : E.c.words.length ≤ 600 := he.1.2.2.2.2.1
  obtain ⟨bw, cw, hcw, g0, g1, g2⟩ := he2.wordsAt hx
  have hfind := Lib.hid (e_find_yes _ h i _ bw cw hil hle hcw)
  have hp : putS E.s.stack [x] = (E.s.stack ++ [x], 0) := if_pos (by simp; omega)
  clear hx
  dsimp only at g0 g1 g2
  go_enter Tryz.func40, Tryz.ntmps40
  go_wp2_with fail
  refine hfind.out.mono ?_
  rintro e w4 ⟨rfl, rfl⟩
  have hwf0 := hm.wf
  have n1 : w.heap.size ≠ w.heap.size + 1 + 1 := by omega
  have n2 : w.heap.size + 1 + 1 ≠ w.heap.size := by omega
  go_wp2_with fail
  have x1 : (((w.alloc (.cells #[gp h] 24)).alloc (.cells #[.int .i64 0, .int .i64 0, .int .i64 0] 42)).alloc (.cells #[.int .i64 9, .int .i64 n, .int .i64 x] 33)).drew.cell? ⟨w.heap.size + 1 + 1, 2, none⟩ = some (.int .i64 x) := hwd.c 2 _ rfl
  go_region_held3 (fun w' => w'.cell? ⟨w.heap.size, 0, none⟩ = some (gp h) ∧ w'.cell? ⟨w.heap.size + 1 + 1, 2, none⟩ = some (.int .i64 x)) (go_keep)
    ((first
      | (go_simp; go_at_call 63; refine (e_push _ o k h E (he0.same (Mod.refl (fun _ => False) hm.wf).drew) hwf0 x).mono ?_
         rw [hp]
         rintro e w4 ⟨rfl, o4, m4, he4⟩
         have q1 := (Box.kept (by exact hg) m4).c 0 _ rfl
         have q2 := (Box.kept (by exact hwd) m4).c 2 _ rfl)
      | (go_simp; go_at_call 60; refine (e_done_ok w4 o4 m4.wf h).mono ?_
         rintro e w5 ⟨rfl, m5⟩
         have q3 := (Box.kept (k := k) (Box.kept (by exact hg) m4) (m5.mono (fun _ h => h.elim))).c 0 _ rfl
         have q4 := (Box.kept (k := k) (Box.kept (by exact hwd) m4) (m5.mono (fun _ h => h.elim))).c 2 _ rfl
         have q5 := (Box.kept (k := k) (Box.kept (by exact hs) m4) (m5.mono (fun _ h => h.elim)))
         obtain ⟨b0, b1, b2, bf⟩ := q5.1.three)))
  go_wp2
  refine bodyPost_ret (v := ran) (by simp [results, Tryz.results40, go_sem, b0, b1, b2]) rfl ?_
  exact ⟨rfl, fin3 (((hm.drew.mono (fun _ h => h.elim)).trans m4).trans (m5.mono (fun _ h => h.elim))) (he4.same m5) _ (by omega) q5.2 _ _ _⟩

end Go.Proofs.YtjcaidbkbdkpeaaGreatDoor
