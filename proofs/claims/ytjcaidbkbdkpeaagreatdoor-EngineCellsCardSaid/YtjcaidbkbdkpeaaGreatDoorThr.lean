/- The threads: where a definition begins; an instruction of it. -/
import Derived.Test.YtjcaidbkbdkpeaaGreatDoorWith
import Derived.Laws.Cover3
import Derived.Laws.BitsLemmas
namespace Go.Proofs.YtjcaidbkbdkpeaaGreatDoor
open Go Go.RowKit Go.Rh

def beginN (ends : List Int) (n : Nat) : Int := if n = 0 then 0 else ends.getD (n - 1) 0

set_option maxHeartbeats 400000 in
theorem t_begin (w : World) (o : Owner) (k : Nat) (h : Hd) (E : Eng) (he : EngAt w o k h E) (n : Nat) (hn : n ≤ E.c.ends.length) :
    Calls Tryz.prog 71 #[.pointer (some ⟨h.g, 0, none⟩), .int .i64 ((n : Int) + 1)] w fun e w' => e = .returned (.int .i64 (beginN E.c.ends n)) ∧ w = w' := by
  have hle : E.c.ends.length ≤ 300 := he.1.2.2.2.1
  obtain ⟨ac, cc, ae, ce, aw, cw, c0, c1, c2, c3, c4, c5, c6, c7, c8, fz, hlt, r1, r2, r3⟩ := he.1.open
  by_cases h0 : n = 0
  · subst h0
    simp only [beginN, if_true]
    go_enter Tryz.func71, Tryz.ntmps71
    go_wp2
    go_ret
    exact ⟨rfl, rfl⟩
  · obtain ⟨m, rfl⟩ : ∃ m, n = m + 1 := ⟨n - 1, by omega⟩
    obtain ⟨b, rfl⟩ : ∃ b, ae = some b := by
      rcases r2.1.2 with ⟨h1, h2⟩ | ⟨g, cap, cur, h1, _⟩
      · omega
      · cases h1; exact ⟨_, rfl⟩
    have hg : (E.c.ends.map cv)[m]? = some (cv (E.c.ends.getD m 0)) := by
      rw [List.getElem?_map, List.getD_eq_getElem?_getD, List.getElem?_eq_getElem (by omega)]; rfl
    have d := r2.cells rfl m _ hg
    have hE : beginN E.c.ends (m + 1) = E.c.ends.getD m 0 := by simp [beginN]
    rw [hE]
    have x1 : ¬ (((m + 1 : Nat) : Int) + 1 = 1) := by omega
    go_enter Tryz.func71, Tryz.ntmps71
    go_wp2
    go_ret
    exact ⟨by simp [cv], rfl⟩

theorem low_bits (a op : Int) (op0 : 0 ≤ op) (op1 : op < 256) (a0 : 0 ≤ a) (a1 : a ≤ 100000) : bits .and .i64 (a * 256 + op) 255 % 256 = op := by
  have h := bits_mask .i64 30 (by decide) (fun n h0 h1 => IntWalk.i64_in _ (by omega)) 8 (by omega) (a * 256 + op) (by omega) (by omega)
  have e : ((2 : Int) ^ 8 - 1) = 255 := by decide
  rw [e] at h
  rw [h]
  omega
theorem or_bits (a op : Int) (op0 : 0 ≤ op) (op1 : op < 256) (a0 : 0 ≤ a) (a1 : a ≤ 100000) : bits .or .i64 (a * 256) op = a * 256 + op := by
  obtain ⟨x, rfl⟩ := Int.eq_ofNat_of_zero_le a0
  obtain ⟨y, rfl⟩ := Int.eq_ofNat_of_zero_le op0
  have h := (bits_nat .i64 30 (by decide) (fun n h0 h1 => IntWalk.i64_in _ (by omega)) (x * 256) y (by omega) (by omega)).2
  have e : x * 256 ||| y = x * 256 + y := by
    have := Nat.two_pow_add_eq_or_of_lt (i := 8) (b := y) (by omega) x
    rw [Nat.mul_comm x 256]; exact this.symm
  rw [e] at h
  simpa using h

/-- The instruction i of the definition n (from 0): its two cells. -/
structure InsAt (C : Core) (n i : Nat) (op a x : Int) : Prop where
  nl : n < C.ends.length
  op0 : 0 ≤ op
  op1 : op < 256
  a0 : 0 ≤ a
  a1 : a ≤ 100000
  lay : ∃ b e : Nat, beginN C.ends n = b ∧ C.ends[n]? = some (e : Int) ∧ b + 2 * i + 2 ≤ e ∧ e ≤ C.code.length ∧ C.code[b + 2 * i]? = some (a * 256 + op) ∧ C.code[b + 2 * i + 1]? = some x

set_option maxHeartbeats 1000000 in
set_option maxRecDepth 100000 in
theorem t_at (w : World) (o : Owner) (k : Nat) (h : Hd) (E : Eng) (he : EngAt w o k h E) (hwf : Wf w o) (n i : Nat) (op a x : Int) (hI : InsAt E.c n i op a x) :
    Calls Tryz.prog 43 #[.pointer (some ⟨h.g, 0, none⟩), .int .i64 ((n : Int) + 1), .int .i64 (i : Int)] w fun e w' => e = .returned (.tuple #[.agg #[.int .u8 op, .int .i64 a, .int .i64 x], .bool true]) ∧ Mod (fun _ => False) w o w' o := by
  obtain ⟨hn, op0, op1, a0, a1, b, e, hb, hen, hbe, hec, hc0, hc1⟩ := hI
  have hle : E.c.ends.length ≤ 300 := he.1.2.2.2.1
  have hlc : E.c.code.length ≤ 400000 := he.1.2.2.1
  have hm0 := (Mod.refl (fun _ => False) hwf).alloc (.cells #[.int .u8 0, .int .i64 0, .int .i64 0] 35)
  have hbg : ∀ w1, Mod (fun _ => False) w o w1 o → Calls Tryz.prog 71 #[.pointer (some ⟨h.g, 0, none⟩), .int .i64 ((n : Int) + 1)] w1 fun e w' => e = .returned (.int .i64 (b : Int)) ∧ w' = w1 := by
    intro w1 hm
    have := t_begin _ o k h E (he.same hm) n (by omega)
    rw [hb] at this
    exact this.mono fun _ _ ⟨h1, h2⟩ => ⟨h1, h2.symm⟩
  obtain ⟨ac, cc, ae, ce, aw, cw, c0, c1, c2, c3, c4, c5, c6, c7, c8, fz, hlt, r1, r2, r3⟩ := he.1.open
  obtain ⟨be, rfl, nbe⟩ : ∃ b, ae = some ⟨b, 0, none⟩ ∧ b < w.heap.size := by
    rcases r2.1.2 with ⟨h1, h2⟩ | ⟨g, cap, cur, h1, _, hg, _⟩
    · omega
    · cases h1; exact ⟨_, rfl, (Array.getElem?_eq_some_iff.1 hg).1⟩
  obtain ⟨bc, rfl, nbc⟩ : ∃ b, ac = some ⟨b, 0, none⟩ ∧ b < w.heap.size := by
    rcases r1.1.2 with ⟨h1, h2⟩ | ⟨g, cap, cur, h1, _, hg, _⟩
    · omega
    · cases h1; exact ⟨_, rfl, (Array.getElem?_eq_some_iff.1 hg).1⟩
  have n1 : w.heap.size ≠ be := by omega
  have n2 : w.heap.size ≠ bc := by omega
  have n3 : w.heap.size ≠ h.g := by omega
  have hadd : ∀ b j : Nat, (⟨b, 0, none⟩ : Addr).add j = ⟨b, j, none⟩ := by
    intro b j
    unfold Addr.add; split
    · next h0 => rw [h0]
    · simp
  have d := r2.cells rfl n (cv e) (by rw [List.getElem?_map, hen]; rfl)
  rw [hadd] at d
  have dc : ∀ j u, E.c.code[j]? = some u → w.cell? ⟨bc, j, none⟩ = some (cv u) := by
    intro j u hu
    have := r1.cells rfl j (cv u) (by rw [List.getElem?_map, hu]; rfl)
    rwa [hadd] at this
  have e0 := dc _ _ hc0
  have e1 := dc _ _ hc1
  clear dc hc0 hc1 hen hb
  have hcc : E.c.code.length ≤ cc := by
    obtain ⟨_, _, h1, h2⟩ := r1.len
    cases h1; exact h2
  go_enter Tryz.func43, Tryz.ntmps43
  have x1 : decide ((n : Int) + 1 < 1) = false := decide_eq_false (by omega)
  have x2 : decide ((E.c.ends.length : Int) < (n : Int) + 1) = false := decide_eq_false (by omega)
  have x3 : decide ((i : Int) < 0) = false := decide_eq_false (by omega)
  have x4 : IntKind.i64.wrap ((n : Int) + 1 - 1) = (n : Int) := by rw [Int.add_sub_cancel]; exact IntWalk.i64_in _ (by omega)
  have x4b : IntKind.i64.wrap (n : Int) = (n : Int) := IntWalk.i64_in _ (by omega)
  have x5 : (0 : Int) ≤ (n : Int) := by omega
  have x6 : (n : Int) < (E.c.ends.length : Int) := by omega
  have x7 : IntKind.i64.wrap ((e : Int) - (b : Int)) = (e : Int) - b := IntWalk.i64_in _ (by omega)
  go_wp2_with fail
  go_quiet ((go_simp; go_at_call 71; exact Calls.quiet_of_same (hbg _ (by exact hm0.drewN _))))
  have x8 : decide (((e : Int) - b) / 2 ≤ (i : Int)) = false := decide_eq_false (by omega)
  have y1 : IntKind.i64.wrap (2 * (i : Int)) = 2 * (i : Int) := IntWalk.i64_in _ (by omega)
  obtain ⟨B, hB⟩ : ∃ B, B = b + 2 * i := ⟨_, rfl⟩
  rw [← hB] at e0 e1
  have y2 : IntKind.i64.wrap ((b : Int) + 2 * (i : Int)) = (B : Int) := by rw [IntWalk.i64_in _ (by omega)]; omega
  have y3 : (0 : Int) ≤ (B : Int) := by omega
  have y4 : (B : Int) ≤ (E.c.code.length : Int) := by omega
  have y5 : (cc = B) = False := by simp; omega
  have y6 : (2 : Int) ≤ ((cc - B : Nat) : Int) := by omega
  have y8 : subA (some ⟨bc, 0, none⟩) B cc 1 = some ⟨bc, B, none⟩ := by
    unfold subA
    rw [if_neg (by omega), Nat.mul_one]
    show some ((⟨bc, 0, none⟩ : Addr).add B) = _
    rw [hadd]
  have y9 : ∀ w', (Instr.arrayAt 135 (.slice (some ⟨bc, B, none⟩) 2 (cc - B))).run Tryz.prog w' = .ok (.pointer (some ⟨bc, B, none⟩)) w' := fun w' =>
    run_arrayAt _ _ _ 2 _ _ _ Tryz.underlying135 (Nat.le_refl _)
  have y7 := Lib.hid hB
  have z1 := low_bits a op op0 op1 a0 a1
  have z2 : (a * 256 + op) / 256 = a := by omega
  clear hB hadd
  go_wp2_with fail
  go_region_held3 (fun w' => w'.cell? ⟨h.g, 0, none⟩ = some (.slice (some ⟨bc, 0, none⟩) E.c.code.length cc) ∧ w'.cell? ⟨bc, B, none⟩ = some (cv (a * 256 + op)) ∧ w'.cell? ⟨bc, B + 1, none⟩ = some (cv x)) (go_keep)
    ((go_simp; go_at_call 71; refine (hbg _ (by first | exact hm0.drewN _ | exact (hm0.drewN _).alloc _)).mono ?_; rintro e w' ⟨rfl, rfl⟩))
  all_goals go_wp2
  all_goals
    try rw [z1]
    try rw [z2]
    refine bodyPost_ret (v := .tuple #[.agg #[.int .u8 op, .int .i64 a, .int .i64 x], .bool true]) (by simp [results, Tryz.results43, go_sem]) rfl ?_
    refine ⟨rfl, ?_⟩
    (repeat (first | refine Mod.setNew ?_ _ _ (by simp) | refine Mod.alloc ?_ _))
    exact hm0.drewN _
end Go.Proofs.YtjcaidbkbdkpeaaGreatDoor
