/- What a definition may be: one that has no loops and no locals may be. -/
import Derived.Test.YtjcaidbkbdkpeaaGreatDoorMay
import Derived.Test.YtjcaidbkbdkpeaaGreatDoorMap
namespace Go.Proofs.YtjcaidbkbdkpeaaGreatDoor
open Go Go.RowKit Go.Rh

def lowOf (k : Int) : Int := if k = 2 then 1 else 0
def highOf (n words k : Int) : Int := if k = 1 then n else if k = 2 then words else 0

theorem zeroInt (w : World) : (zeroValue 3).run Tryz.prog w = .ok (.int .i64 0) w := by kernel_rfl

set_option maxHeartbeats 4000000 in
set_option maxRecDepth 100000 in
theorem ins_May (w : World) (o : Owner) (hwf : Wf w o) (ab c : Nat) (d : List In1) (words : Nat) (hd : PlainDef d words) (hwords : words ≤ 1000) (hab : ab < w.heap.size) (hv : ∀ j u, (d.flatMap In1.cells)[j]? = some u → w.cell? ⟨ab, j, none⟩ = some u) :
    Calls Tryz.prog 36 #[.agg #[.slice (some ⟨ab, 0, none⟩) d.length c], .int .i64 words] w fun e w' => e = .returned (.bool true) ∧ Mod (fun _ => False) w o w' o := by
  have hm0 := (Mod.refl (fun _ => False) hwf).alloc (.cells #[.slice (some ⟨ab, 0, none⟩) d.length c] 39)
  have hL := ins_Loops _ o hm0.wf ab c d words hd (by simp; omega) (fun j u hu => by rw [hm0.cells ab j hab]; exact hv j u hu)
  have hpos := hd.pos
  have hle := hd.le
  obtain ⟨m, hmd⟩ : ∃ m, d.length = m + 1 := ⟨d.length - 1, by omega⟩
  have hdef : Box (w.alloc (.cells #[.slice (some ⟨ab, 0, none⟩) d.length c] 39)) o w.heap.size [.slice (some ⟨ab, 0, none⟩) d.length c] 39 := ⟨Blk.new w [.slice (some ⟨ab, 0, none⟩) d.length c] 39, hwf _ (Nat.le_refl _)⟩
  rw [hmd] at hL hm0 hdef hle ⊢
  have hd' := Lib.hid hd
  have hv' := Lib.hid hv
  have hmd' := Lib.hid hmd
  have hL' := Lib.hid hL
  clear hd hv hmd hL hpos
  have hcell : ∀ W : World, Mod (fun _ => False) w o W o → ∀ i i1, d[i]? = some i1 → W.cell? ⟨ab, i * 3, none⟩ = some (.int .u8 i1.op) ∧ W.cell? ⟨ab, i * 3 + 1, none⟩ = some (.int .i64 i1.a) ∧ W.cell? ⟨ab, i * 3 + 2, none⟩ = some (.int .i64 i1.x) := by
    intro W hW i i1 hi1
    have hg : ∀ j, j < 3 → W.cell? ⟨ab, i * 3 + j, none⟩ = (In1.cells i1)[j]? := by
      intro j hj
      have h1 := flat_get In1.cells 3 In1.cells_length d i j i1 hi1 hj
      have h2 : (In1.cells i1)[j]? = some ((In1.cells i1)[j]'(by rw [In1.cells_length]; exact hj)) := List.getElem?_eq_getElem _
      rw [h2, hW.cells ab _ hab]
      exact hv'.out _ _ (h1.trans h2)
    exact ⟨hg 0 (by omega), hg 1 (by omega), hg 2 (by omega)⟩
  have hcell' := Lib.hid hcell
  clear hcell
  obtain ⟨iF, hiF⟩ : ∃ iF, d[0]? = some iF := ⟨_, List.getElem?_eq_getElem (by have := hmd'.out; omega)⟩
  obtain ⟨iL, hiL⟩ : ∃ iL, d[m]? = some iL := ⟨_, List.getElem?_eq_getElem (by have := hmd'.out; omega)⟩
  have hLop : iL.op = 15 := by
    have := hd'.out.last
    rw [hmd'.out, Nat.add_sub_cancel, hiL] at this
    simpa using this
  have hFop : (iF.op == 12) = false := by
    have := hd'.out.op iF (List.mem_of_getElem? hiF)
    unfold Plain at this
    simp; omega
  have hFL := Lib.hid (And.intro hiF hiL)
  clear hiF hiL
  have y1 : IntKind.i64.wrap ((m : Int) + 1 - 1) = (m : Int) := by rw [Int.add_sub_cancel]; exact IntWalk.i64_in _ (by omega)
  have y2 : IntKind.i64.wrap (m : Int) = (m : Int) := IntWalk.i64_in _ (by omega)
  go_enter Tryz.func36, Tryz.ntmps36
  go_wp2_with fail
  refine hL'.out.mono ?_
  rintro e w1 ⟨B, rfl, hBlt, hm1, ls, hls, hls0, hBB⟩
  have hm01 := hm0.trans hm1
  have hd1 := Box.kept (k := 0) hdef (hm1.mono (fun _ h => h.elim))
  have c0 := hd1.c 0 _ rfl
  obtain ⟨f0, f1, f2⟩ := hcell'.out w1 hm01 0 iF hFL.out.1
  obtain ⟨l0, l1, l2⟩ := hcell'.out w1 hm01 m iL hFL.out.2
  rw [hLop] at l0
  rw [Nat.zero_mul] at f0
  clear f1 f2 l1 l2
  have hls' := Lib.hid (And.intro hls hls0)
  clear hls hls0
  have hmm := @run_makeMap Tryz.prog
  have k0 := MapB.new w1
  have hd1a := hd1.1.alloc (.map #[] 0)
  have n0 : w.heap.size ≠ w1.heap.size := by have := hd1.1.lt; omega
  go_wp2_with (first
    | (refine wpList_insert (by rfl) (by rfl) Tryz.underlying121 Tryz.underlying3 (by rfl) k0 (by rfl) (by rfl) (by simp) ?_; intro w2 k1 t2; have hd2 := hd1a.turn t2 n0)
    | (refine wpList_insert (by rfl) (by rfl) Tryz.underlying121 Tryz.underlying3 (by rfl) k1 (by rfl) (by rfl) (by simp) ?_; intro w3 k2 t3
       have hd3 := (hd2.turn t3 n0).alloc (.map #[] 0)
       have c3 := hd3.c 0 _ rfl
       have k3 := MapB.new w3
       have n3 : w.heap.size ≠ w3.heap.size := by have := (hd2.turn t3 n0).lt; omega)
    | (refine wpList_insert (by rfl) (by rfl) Tryz.underlying121 Tryz.underlying3 (by rfl) k3 (by rfl) (by rfl) (by simp) ?_; intro w4 k4 t4)
    | (refine wpList_insert (by rfl) (by rfl) Tryz.underlying121 Tryz.underlying3 (by rfl) k4 (by rfl) (by rfl) (by simp) ?_; intro w5 k5 t5)
    | (refine wpList_insert (by rfl) (by rfl) Tryz.underlying121 Tryz.underlying3 (by rfl) k5 (by rfl) (by rfl) (by simp) ?_; intro w6 k6 t6)
    | (refine wpList_insert (by rfl) (by rfl) Tryz.underlying121 Tryz.underlying3 (by rfl) k6 (by rfl) (by rfl) (by simp) ?_; intro w7 k7 t7
       have hd7 := (((hd3.turn t4 n3).turn t5 n3).turn t6 n3).turn t7 n3
       have c7 := hd7.c 0 _ rfl))
  have q2 : MapB w3 w1.heap.size [(2, .int .i64 1), (3, .int .i64 1)] := k2
  have q7 : MapB w7 w3.heap.size [(1, .int .i64 m), (2, .int .i64 words), (3, .int .i64 16), (4, .int .i64 (-1))] := k7
  have nW : w1.heap.size ≠ w3.heap.size := by have := q2.lt; omega
  have q2' : MapB w7 w1.heap.size [(2, .int .i64 1), (3, .int .i64 1)] := (((((q2.alloc (.map #[] 0)).turn t4 nW).turn t5 nW).turn t6 nW).turn t7 nW)
  have nB1 : B ≠ w1.heap.size := by have := hBB.lt; omega
  have hBB3 := ((hBB.alloc (.map #[] 0)).turn t2 nB1).turn t3 nB1
  have nB3 : B ≠ w3.heap.size := by have := hBB3.lt; omega
  have hBB7 := ((((hBB3.alloc (.map #[] 0)).turn t4 nB3).turn t5 nB3).turn t6 nB3).turn t7 nB3
  have s1 : w.heap.size ≤ w1.heap.size := hm01.size
  have hm3 := ((hm01.alloc (.map #[] 0)).turn t2 s1).turn t3 s1
  have s3 : w.heap.size ≤ w3.heap.size := hm3.size
  have hm7 := ((((hm3.alloc (.map #[] 0)).turn t4 s3).turn t5 s3).turn t6 s3).turn t7 s3
  have hb0 : o B = 0 := hwf _ (by simp at hBlt; omega)
  have z1 : o w1.heap.size = 0 := hwf _ s1
  have z3 : o w3.heap.size = 0 := hwf _ s3
  have hX := Lib.hid (And.intro q2' (And.intro q7 (And.intro hBB7 hd7)))
  have hm7' := Lib.hid hm7
  clear k0 k1 k2 k3 k4 k5 k6 k7 hd1a hd2 hd3 hd7 t2 t3 t4 t5 t6 t7 c0 c3 c7 q2 q7 q2' hBB hBB3 hBB7 hm3 hm7 f0 l0 hFop hm1 hd1 hdef hmm
  obtain ⟨M1, hM1⟩ : ∃ M1, M1 = w1.heap.size := ⟨_, rfl⟩
  obtain ⟨M2, hM2⟩ : ∃ M2, M2 = w3.heap.size := ⟨_, rfl⟩
  rw [← hM1] at nB1 s1 z1 nW
  rw [← hM2] at nB3 s3 z3 nW n3
  have hXX : Hid (MapB w7 M1 [(2, .int .i64 1), (3, .int .i64 1)] ∧ MapB w7 M2 [(1, .int .i64 m), (2, .int .i64 words), (3, .int .i64 16), (4, .int .i64 (-1))] ∧ Blk w7 B (ls.map cv) 3 ∧ Blk w7 w.heap.size [.slice (some ⟨ab, 0, none⟩) (m + 1) c] 39) := by rw [hM1, hM2]; exact hX
  rw [← hM1, ← hM2]
  clear hX hM1 hM2
  go_loopg [67] (m + 1) (fun g v wr => ∃ j : Nat, j ≤ m + 1 ∧ g = m + 1 - j ∧ v = .int .i64 j ∧ Mod (fun _ => False) w7 o wr o)
  case atStart => exact ⟨0, by omega, by omega, rfl, Mod.refl _ hm7'.out.wf⟩
  case round =>
    obtain ⟨j, hj, rfl, rfl, hmr⟩ := hrel
    by_cases hlt : j < m + 1
    · obtain ⟨i1, hi1⟩ : ∃ i1, d[j]? = some i1 := ⟨_, List.getElem?_eq_getElem (by have := hmd'.out; omega)⟩
      obtain ⟨v0, v1, v2⟩ := hcell'.out wr (hm7'.out.trans hmr) j i1 hi1
      have hi1' := Lib.hid hi1
      have hop := hd'.out.op i1 (List.mem_of_getElem? hi1)
      clear hi1
      have n1 : wr.heap.size ≠ ab := by have := (hm7'.out.trans hmr).size; omega
      have hkd := fun W => ins_kind W i1.op hop
      have hkd' := Lib.hid hkd
      clear hkd
      have hmx := hmr.alloc (.cells #[.int .u8 i1.op, .int .i64 i1.a, .int .i64 i1.x] 35)
      have hMx1 := hXX.out.1.kept hmx (fun h => h)
      have hMx2 := hXX.out.2.1.kept hmx (fun h => h)
      have hMB := hXX.out.2.2.1.kept hmx (fun h => h)
      have hMD := hXX.out.2.2.2.kept hmx (fun h => h)
      have cD := hMD.c 0 _ rfl
      have kk : kindOf i1.op = 0 ∨ kindOf i1.op = 1 ∨ kindOf i1.op = 2 := by unfold kindOf; split <;> (try split) <;> simp
      have hlow : (Instr.lookup 121 (.map (some M1)) (.int .i64 (kindOf i1.op)) false).run Tryz.prog (wr.alloc (.cells #[.int .u8 i1.op, .int .i64 i1.a, .int .i64 i1.x] 35)) = .ok (.int .i64 (lowOf (kindOf i1.op))) (wr.alloc (.cells #[.int .u8 i1.op, .int .i64 i1.a, .int .i64 i1.x] 35)) := by
        rcases kk with h | h | h <;> rw [h]
        · exact run_look_none Tryz.underlying121 Tryz.underlying3 hMx1 (zeroInt _) (by simp)
        · exact run_look_none Tryz.underlying121 Tryz.underlying3 hMx1 (zeroInt _) (by simp)
        · exact run_look_some Tryz.underlying121 Tryz.underlying3 hMx1 rfl
      have hhigh : (Instr.lookup 121 (.map (some M2)) (.int .i64 (kindOf i1.op)) false).run Tryz.prog (wr.alloc (.cells #[.int .u8 i1.op, .int .i64 i1.a, .int .i64 i1.x] 35)) = .ok (.int .i64 (highOf m words (kindOf i1.op))) (wr.alloc (.cells #[.int .u8 i1.op, .int .i64 i1.a, .int .i64 i1.x] 35)) := by
        rcases kk with h | h | h <;> rw [h]
        · exact run_look_none Tryz.underlying121 Tryz.underlying3 hMx2 (zeroInt _) (by simp)
        · exact run_look_some Tryz.underlying121 Tryz.underlying3 hMx2 rfl
        · exact run_look_some Tryz.underlying121 Tryz.underlying3 hMx2 rfl
      have hopD := hop
      unfold Plain at hopD
      have hrange : lowOf (kindOf i1.op) ≤ i1.a ∧ i1.a ≤ highOf m words (kindOf i1.op) := by
        have hmem := List.mem_of_getElem? hi1'.out
        have h1 := hd'.out.place i1 hmem
        have h2 := hd'.out.word i1 hmem
        have h3 := hd'.out.zero i1 hmem
        rw [hmd'.out] at h1
        rcases hopD with h | h | h | h | h | h | h <;> simp [h, kindOf, lowOf, highOf] at h1 h2 h3 ⊢ <;> omega
      have hx0 : i1.op = 1 ∨ i1.x = 0 := by
        by_cases h : i1.op = 1
        · exact .inl h
        · exact .inr (hd'.out.cell i1 (List.mem_of_getElem? hi1'.out) h)
      have hlv : (wr.alloc (.cells #[.int .u8 i1.op, .int .i64 i1.a, .int .i64 i1.x] 35)).cell? ⟨B, j, none⟩ = some (cv (ls.getD j 0)) ∧ ls.getD j 0 ≤ 0 := by
        have hjl : j < ls.length := by have := hls'.out.1; omega
        have hg : ls.getD j 0 = ls[j] := by rw [List.getD_eq_getElem?_getD, List.getElem?_eq_getElem hjl]; rfl
        refine ⟨hMB.c j _ (by rw [List.getElem?_map, List.getElem?_eq_getElem hjl, hg]; rfl), ?_⟩
        rw [hg]
        have := hls'.out.2 ls[j] (List.getElem_mem hjl)
        omega
      obtain ⟨lv, hlvv⟩ : ∃ lv, lv = ls.getD j 0 := ⟨_, rfl⟩
      rw [← hlvv] at hlv
      obtain ⟨b1, b2⟩ := hlv
      have g7 : decide (0 < lv) = false := decide_eq_false (by omega)
      have nB : wr.heap.size ≠ B := by have := (hXX.out.2.2.1.kept hmr (fun h => h)).lt; omega
      clear hlvv kk hMx1 hMx2 hMB hMD hop hi1'
      obtain ⟨op, a, x⟩ := i1
      dsimp only at *
      obtain ⟨hr1, hr2⟩ := hrange
      have g4 : decide (a < lowOf (kindOf op)) = false := decide_eq_false (by omega)
      have g5 : decide (highOf m words (kindOf op) < a) = false := decide_eq_false (by omega)
      clear hr1 hr2 b2
      have fin : ∀ W, W = wr.alloc (.cells #[.int .u8 op, .int .i64 a, .int .i64 x] 35) → Mod (fun _ => False) w7 o W o := by intro W hW; rw [hW]; exact hmx
      have fin' := Lib.hid fin
      clear fin hmx
      have h3 : op = 1 ∨ op = 15 ∨ (op ≠ 1 ∧ op ≠ 15 ∧ 1 < op ∧ op < 15 ∧ op ≠ 12) := by omega
      rcases h3 with rfl | rfl | ⟨h1, h15, h1l, h16, h12⟩
      · clear hopD hx0
        go_wp2_with (go_at_call 59; refine (hkd'.out _).mono ?_; rintro e w' ⟨rfl, rfl⟩)
        go_roundg (m + 1 - (j + 1))
        case measure => omega
        case rel => exact ⟨j + 1, by omega, rfl, by go_num, fin'.out _ rfl⟩
      · have hx : x = 0 := by omega
        subst hx
        clear hopD hx0
        have hjm : (j = m ∧ (j == m) = true) ∨ (¬ j = m ∧ (j == m) = false) := by
          by_cases h : j = m
          · exact .inl ⟨h, by simp [h]⟩
          · exact .inr ⟨h, by simp [h]⟩
        rcases hjm with ⟨hjm, hjb⟩ | ⟨hjm, hjb⟩
        · subst hjm
          clear hjb
          go_wp2_with (go_at_call 59; refine (hkd'.out _).mono ?_; rintro e w' ⟨rfl, rfl⟩)
          go_roundg (j + 1 - (j + 1))
          case measure => omega
          case rel => exact ⟨j + 1, by omega, rfl, by go_num, fin'.out _ rfl⟩
        · have h9 : ((j : Int) == (m : Int)) = false := by simp; omega
          clear hjm
          go_wp2_with (go_at_call 59; refine (hkd'.out _).mono ?_; rintro e w' ⟨rfl, rfl⟩)
          go_roundg (m + 1 - (j + 1))
          case measure => omega
          case rel => exact ⟨j + 1, by omega, rfl, by go_num, fin'.out _ rfl⟩
      · have hx : x = 0 := by omega
        subst hx
        have g1 : decide (op < 1) = false := decide_eq_false (by omega)
        have g2 : decide (16 ≤ op) = false := decide_eq_false (by omega)
        have g3 : (op == 1) = false := by simp; omega
        have g3' : (op != 1) = true := by simp; omega
        have g6 : (op == 12) = false := by simp; omega
        have g8 : (op == 15) = false := by simp; omega
        clear hopD hx0 h1 h15 h1l h16 h12
        go_wp2_with (go_at_call 59; refine (hkd'.out _).mono ?_; rintro e w' ⟨rfl, rfl⟩)
        go_roundg (m + 1 - (j + 1))
        case measure => omega
        case rel => exact ⟨j + 1, by omega, rfl, by go_num, fin'.out _ rfl⟩
    · go_wp2
      go_ret
      exact ⟨rfl, hm7'.out.trans hmr⟩
end Go.Proofs.YtjcaidbkbdkpeaaGreatDoor
