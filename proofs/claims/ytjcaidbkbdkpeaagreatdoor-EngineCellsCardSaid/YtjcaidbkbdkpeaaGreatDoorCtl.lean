/- Words that do something with frames; words that stand for others; calls. -/
import Derived.Test.YtjcaidbkbdkpeaaGreatDoorStep
import Derived.Test.YtjcaidbkbdkpeaaGreatDoorMap
namespace Go.Proofs.YtjcaidbkbdkpeaaGreatDoor
open Go Go.RowKit Go.Rh

abbrev bound (h : Hd) (f : Nat) : Value := .func (.func f) #[gp h] #[]
def ctlPs (h : Hd) : List (Int × Value) := [(1, bound h 96), (2, bound h 97), (3, bound h 98), (4, bound h 99), (5, bound h 100), (6, bound h 101), (7, bound h 102), (8, bound h 103), (9, bound h 104)]

set_option maxHeartbeats 2000000 in
set_option maxRecDepth 100000 in
theorem e_controls (w : World) (o : Owner) (hwf : Wf w o) (h : Hd) :
    Calls Tryz.prog 68 #[gp h] w fun e w' => ∃ M, e = .returned (.map (some M)) ∧ Mod (fun _ => False) w o w' o ∧ MapB w' M (ctlPs h) := by
  have hmm := @run_makeMap Tryz.prog
  have k0 := MapB.new w
  go_enter Tryz.func68, Tryz.ntmps68
  go_wp2_with (first
    | (refine wpList_insert (by rfl) (by rfl) Tryz.underlying129 Tryz.underlying3 (by rfl) k0 (by rfl) (by rfl) (by simp) ?_; intro w1 k1 t1)
    | (refine wpList_insert (by rfl) (by rfl) Tryz.underlying129 Tryz.underlying3 (by rfl) k1 (by rfl) (by rfl) (by simp) ?_; intro w2 k2 t2)
    | (refine wpList_insert (by rfl) (by rfl) Tryz.underlying129 Tryz.underlying3 (by rfl) k2 (by rfl) (by rfl) (by simp) ?_; intro w3 k3 t3)
    | (refine wpList_insert (by rfl) (by rfl) Tryz.underlying129 Tryz.underlying3 (by rfl) k3 (by rfl) (by rfl) (by simp) ?_; intro w4 k4 t4)
    | (refine wpList_insert (by rfl) (by rfl) Tryz.underlying129 Tryz.underlying3 (by rfl) k4 (by rfl) (by rfl) (by simp) ?_; intro w5 k5 t5)
    | (refine wpList_insert (by rfl) (by rfl) Tryz.underlying129 Tryz.underlying3 (by rfl) k5 (by rfl) (by rfl) (by simp) ?_; intro w6 k6 t6)
    | (refine wpList_insert (by rfl) (by rfl) Tryz.underlying129 Tryz.underlying3 (by rfl) k6 (by rfl) (by rfl) (by simp) ?_; intro w7 k7 t7)
    | (refine wpList_insert (by rfl) (by rfl) Tryz.underlying129 Tryz.underlying3 (by rfl) k7 (by rfl) (by rfl) (by simp) ?_; intro w8 k8 t8)
    | (refine wpList_insert (by rfl) (by rfl) Tryz.underlying129 Tryz.underlying3 (by rfl) k8 (by rfl) (by rfl) (by simp) ?_; intro w9 k9 t9))
  go_ret
  have hk : MapB w9 w.heap.size (ctlPs h) := k9
  have hm := (((((((((((Mod.refl (fun _ => False) hwf).alloc (.map #[] 0)).turn t1 (Nat.le_refl _)).turn t2 (Nat.le_refl _)).turn t3 (Nat.le_refl _)).turn t4 (Nat.le_refl _)).turn t5 (Nat.le_refl _)).turn t6 (Nat.le_refl _)).turn t7 (Nat.le_refl _)).turn t8 (Nat.le_refl _)).turn t9 (Nat.le_refl _))
  exact ⟨_, rfl, hm, hk⟩

set_option maxHeartbeats 1000000 in
set_option maxRecDepth 100000 in
theorem does_call (w : World) (o : Owner) (k : Nat) (h : Hd) (E E2 : Eng) (he : EngAt w o k h E) (hwf : Wf w o) (a x : Int) (s1 s2 s3 : Int)
    (hd : ∀ w1 o1, Wf w1 o1 → EngAt w1 o1 k h E → Calls Tryz.prog 40 #[gp h, .int .i64 a] w1 fun e w' => e = .returned (stat s1 s2 s3) ∧ ∃ o', Mod (InE k) w1 o1 w' o' ∧ EngAt w' o' k h E2) :
    Calls Tryz.prog 45 #[gp h, insV 2 a x] w fun e w' => e = .returned (stat s1 s2 s3) ∧ ∃ o', Mod (InE k) w o w' o' ∧ EngAt w' o' k h E2 := by
  obtain ⟨hm, hg, hi, hs⟩ := does_door w o hwf h 2 a x
  have he0 := he.same hm
  have hh := Lib.hid (hd _ o hm.wf he0)
  clear hd
  go_enter Tryz.func45, Tryz.ntmps45
  go_wp2_with fail
  refine hh.out.mono ?_
  rintro e w5 ⟨rfl, o5, m5, he5⟩
  have q1 := (Box.kept (by exact hs) m5)
  obtain ⟨b0, b1, b2, bf⟩ := q1.1.three
  go_wp2
  refine bodyPost_ret (v := stat s1 s2 s3) (by simp [results, Tryz.results45, go_sem, b0, b1, b2]) rfl ?_
  exact ⟨rfl, fin3 ((hm.mono (fun _ h => h.elim)).trans m5) he5 _ (by omega) q1.2 _ _ _⟩

set_option maxHeartbeats 1000000 in
set_option maxRecDepth 100000 in
theorem e_deferred (w : World) (o : Owner) (k : Nat) (h : Hd) (E : Eng) (he : EngAt w o k h E) (hwf : Wf w o) (i : Nat) (hi : i < E.c.words.length) :
    Calls Tryz.prog 67 #[gp h, .int .i64 ((i : Int) + 1)] w fun e w' => e = .returned ran ∧ ∃ o', Mod (InE k) w o w' o' ∧ EngAt w' o' k h { E with c := { E.c with next := (i : Int) + 1 } } := by
  obtain ⟨hm, hs⟩ := step_door w o hwf
  have he0 := he.same hm
  have hx : E.c.words[i]? = some E.c.words[i] := List.getElem?_eq_getElem hi
  have hle : E.c.words.length ≤ 600 := he.1.2.2.2.2.1
  obtain ⟨b, cw', hcw, g0, g1, g2⟩ := he0.wordsAt hx
  obtain ⟨ac, cc, ae, ce, aw, cw, c0, c1, c2, c3, c4, c5, c6, c7, c8, fz, hlt, r1, r2, r3⟩ := he0.1.open
  have hfind := Lib.hid (e_find_yes _ h i _ b cw' hi hle hcw)
  have n0 : ((i : Int) + 1 == 0) = false := by simp; omega
  clear hx g0 g1 g2
  go_enter Tryz.func67, Tryz.ntmps67
  go_wp2_with fail
  refine hfind.out.mono ?_
  rintro e w1 ⟨rfl, rfl⟩
  obtain ⟨m1, he1⟩ := he0.withNext hm.wf ((i : Int) + 1)
  have hs1 := Box.kept hs m1
  go_wp2_with fail
  refine (e_done_ok _ o m1.wf h).mono ?_
  rintro e w3 ⟨rfl, m3⟩
  have q1 := Box.kept (k := k) hs1 (m3.mono (fun _ h => h.elim))
  obtain ⟨b0, b1, b2, bf⟩ := q1.1.three
  go_wp2
  refine bodyPost_ret (v := ran) (by simp [results, Tryz.results67, go_sem, b0, b1, b2]) rfl ?_
  exact ⟨rfl, fin3 (((hm.mono (fun _ h => h.elim)).trans m1).trans (m3.mono (fun _ h => h.elim))) (he1.same m3) _ (Nat.le_refl _) q1.2 _ _ _⟩
end Go.Proofs.YtjcaidbkbdkpeaaGreatDoor
