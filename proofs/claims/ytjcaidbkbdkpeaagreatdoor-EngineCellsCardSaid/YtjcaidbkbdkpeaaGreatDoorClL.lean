/- EngineCells, walked: it answers true. -/
import Derived.Test.YtjcaidbkbdkpeaaGreatDoorBrL
import Derived.Test.YtjcaidbkbdkpeaaGreatDoorClP
import Derived.Test.YtjcaidbkbdkpeaaGreatDoorXt
namespace Go.Proofs.YtjcaidbkbdkpeaaGreatDoor
open Go Go.RowKit Go.Rh

/-- What is wanted, after the first j cells. -/
def clV (l : List Int) : Nat → List Int
  | 0 => []
  | j + 1 => [l.getD j 0, l.getD j 0] ++ clV l j
theorem clV_length (l : List Int) : ∀ j, (clV l j).length = j * 2
  | 0 => rfl
  | j + 1 => by simp [clV, clV_length l j]; omega
theorem clS_V (l : List Int) (n : Nat) : ∀ t ≤ n, clS l n t ++ clV l (n - t) = clV l n
  | 0, _ => by simp [clS]
  | t + 1, ht => by
    have ih := clS_V l n t (by omega)
    rw [← ih]
    have e : n - t = (n - (t + 1)) + 1 := by omega
    rw [e]
    simp only [clS, clV]
    rw [show n - (t + 1) = n - 1 - t by omega]
    simp

/-- A block that is new, owned by t. -/
theorem rowLitTo {W : World} {o : Owner} {cs : List Value} {e : TypeId} {n B size : Nat} (t : Nat) (hs : W.heap.size = B) (hl : cs.length = n * size) (hm : n ≤ maxLen) :
    Row (W.alloc (.cells cs.toArray e)) (o.put B t) t e size (.slice (some ⟨B, 0, none⟩) n n) n cs := by
  subst hs
  refine ⟨⟨hl, .inr ⟨W.heap.size, n, cs.toArray, rfl, Nat.zero_le _, heap_alloc_new W _, Nat.le_refl _, hm, by simp [hl], ?_⟩⟩, fun k hk => ?_⟩
  · rw [← hl]; simp
  · simp [Value.ownBlock] at hk; subst hk; exact Owner.put_same _ _ _
theorem row_old {w w1 : World} {x : Obj} {o o1 : Owner} {t : Nat} {e : TypeId} {size n : Nat} {v : Value} {xs : List Value} {v' : Value} (hr : Row w o t e size v n xs) (hv : v'.ownBlock = some w.heap.size) (hg : (w.alloc x).grownBy w1 v'.ownBlock) (ho : ∀ b, b < w.heap.size → o1 b = o b) : Row w1 o1 t e size v n xs :=
  hr.to fun k hk hlt => ⟨(hg.block k (by simp; omega) (fun e => by rw [hv] at e; cases e; omega)).trans (Below.heap_alloc _ _ _ hlt), ho k hlt⟩

/-- What is laid, and added, for the first j cells. -/
def ClRel (w : World) (o : Owner) (k : Nat) (h : Hd) (l : List Int) (j : Nat) (vc vw : Value) (wr : World) : Prop :=
  ∃ o1 : Owner, Mod (fun x => k < x) w o wr o1 ∧ EngAt wr o1 k h (engW (clWs l j)) ∧ Row wr o1 (k + 8) 35 3 vc (j * 2) ((clA j).flatMap In1.cells) ∧ Row wr o1 (k + 8) 27 1 vw (j * 2) ((clV l j).map cv)

theorem engW_add (l : List Int) (j : Nat) : clWs l j ++ [⟨if j % 2 = 0 then 6 else 9, 0, l.getD j 0⟩] ++ [⟨8, 181 + 2 * (j : Int), 0⟩] = clWs l (j + 1) := by rw [clWs_snoc]; simp [clP]

set_option maxHeartbeats 4000000 in
set_option maxRecDepth 100000 in
theorem law_Cells (w : World) (o : Owner) (hwf : Wf w o) (hE : Env w o) (v : Value) (l : List Int) (hv : Came w v l) :
    Calls Tryz.prog 3 #[v] w fun e w' => e = .returned (.bool true) ∧ ∃ o', Mod (fun _ => False) w o w' o' := by
  obtain ⟨n, hn⟩ : ∃ n, n = min l.length 20 := ⟨_, rfl⟩
  have hmin : imin (l.length : Int) 20 = (n : Int) := by rw [imin_eq, hn]; omega
  obtain ⟨aa, c, rfl, hac, hcm⟩ : ∃ aa c, v = .slice aa l.length c ∧ l.length ≤ c ∧ c ≤ maxLen := by
    rcases hv with ⟨rfl, rfl⟩ | ⟨a, c, rfl, h1, h2, _⟩
    · exact ⟨_, _, rfl, Nat.le_refl _, by decide⟩
    · exact ⟨_, _, rfl, h1, h2⟩
  obtain ⟨N, hN⟩ : ∃ N, N = l.length := ⟨_, rfl⟩
  have hn20 : n ≤ 20 := by omega
  have hnN : n ≤ N := by omega
  rw [← hN] at hmin hac ⊢
  have hv' := Lib.hid hv
  have hN' := Lib.hid hN
  unfold maxLen at hcm
  clear hv hn hN
  go_enter Tryz.func3, Tryz.ntmps3
  go_wp2_with fail
  refine (law_shown w o hwf hE).mono ?_
  rintro e w1 ⟨rfl, o1, m1⟩
  obtain ⟨k, hk⟩ := above_owner m1.wf
  have hE1 := hE.kept m1 (fun h => h)
  go_wp2_with fail
  refine (law_built w1 o1 m1.wf hE1 k hk).mono ?_
  rintro e w2 ⟨g, rfl, h, o2, rfl, m2, he2⟩
  have hE2 := hE1.kept m2 (fun h => h)
  have hm12 := Lib.hid (m1.trans m2)
  have hwf2 := m2.wf
  have hm2 := Lib.hid m2
  have hob : ∀ b, b < w.heap.size → o2 b ≤ k := fun b hb => by rw [m2.own b (Nat.lt_of_lt_of_le hb m1.size)]; exact hk b
  have z1 : (0 : Int) ≤ (n : Int) := by omega
  have z2 : (n : Int) ≤ (c : Int) := by omega
  have hsf := statKind
  have hm1 := Lib.hid m1
  clear m1 m2
  go_wp2_with fail
  go_loopg [6, 7, 33] n (fun g vc vw v wr => ∃ j : Nat, j ≤ n ∧ g = n - j ∧ v = .int .i64 j ∧ ClRel w2 o2 k h l j vc vw wr)
  case atStart => exact ⟨0, by omega, by omega, rfl, o2, Mod.refl _ hwf2, by simpa [clWs] using he2, Row.nil _ _ _ _ _, Row.nil _ _ _ _ _⟩
  case round =>
    obtain ⟨j, hj, rfl, rfl, o3, m3, he3, hrc, hrw⟩ := hrel
    obtain ⟨ac, cc, rfl, _⟩ := hrc.len
    obtain ⟨aw, cw, rfl, _⟩ := hrw.len
    by_cases hlt : j < n
    · obtain ⟨x, hx⟩ : ∃ x, x = l.getD j 0 := ⟨_, rfl⟩
      obtain ⟨a0, rfl, hcx⟩ : ∃ a0, aa = some a0 ∧ wr.cell? (a0.add j) = some (.int .i64 x) := by
        rcases hv'.out with ⟨_, h1⟩ | ⟨a, c', h1, h2, h3, h4, h5⟩
        · have := hN'.out; rw [h1] at this; simp at this; omega
        · cases h1
          have hjl : j < l.length := by have := hN'.out; omega
          have hbl := h4 (by omega)
          refine ⟨a, rfl, ?_⟩
          rw [hx]
          refine Eq.trans ?_ (h5 j hjl)
          have hb2 : (a.add j).block < w.heap.size := by rw [Addr.add_block]; exact hbl
          have hm := hm12.out
          have e1 := hm.keep _ hb2 (fun h => h)
          have e2 := m3.keep (a.add j).block (Nat.lt_of_lt_of_le hb2 hm.size) (by have := hob _ hb2; omega)
          exact (World.cell?_of_block e2).trans (World.cell?_of_block e1)
      have hE3 := hE2.kept m3 (by omega)
      have hwl : (clWs l j).length = 180 + j * 2 := clWs_length l j
      obtain ⟨K, hK⟩ : ∃ K : Int, K = if j % 2 = 0 then 6 else 9 := ⟨_, rfl⟩
      obtain ⟨Q, hQ⟩ : ∃ Q : Int, Q = 181 + 2 * (j : Int) := ⟨_, rfl⟩
      obtain ⟨Q1, hQ1⟩ : ∃ Q1 : Int, Q1 = 182 + 2 * (j : Int) := ⟨_, rfl⟩
      have hmK : ∀ C : Core, MayW C ⟨K, 0, x⟩ := fun C => .inr (.inr (.inl ⟨by rw [hK]; split <;> simp, rfl⟩))
      have hX1 := (Mod.refl (fun _ => False) m3.wf).alloc (.cells #[.int .i64 6, .int .i64 9] 3)
      have hadd1 : Calls Tryz.prog 9 #[gp h, .agg #[.int .i64 K, .int .i64 0, .int .i64 x]] (wr.alloc (.cells #[.int .i64 6, .int .i64 9] 3)) (fun e w' => e = .returned (.tuple #[.int .i64 Q, .int .i64 0]) ∧ ∃ o', Mod (InE k) (wr.alloc (.cells #[.int .i64 6, .int .i64 9] 3)) o3 w' o' ∧ EngAt w' o' k h (engW (clWs l j ++ [⟨K, 0, x⟩]))) := by
        have h1 := e_Add _ o3 k h _ (he3.same hX1) hX1.wf (hE3.kept hX1 (fun h => h)) ⟨K, 0, x⟩ (hmK _) (by show (clWs l j).length < 600; omega)
        have e1 : ((engW (clWs l j)).c.words.length : Int) + 1 = Q := by show ((clWs l j).length : Int) + 1 = Q; omega
        rw [e1] at h1
        exact h1
      have hadd1' := Lib.hid hadd1
      clear hadd1
      obtain ⟨r, hr1, hr2, hr3⟩ : ∃ r : Nat, (j : Int) % 2 = (r : Int) ∧ r < 2 ∧ [Value.int .i64 6, .int .i64 9][r]? = some (.int .i64 K) := by
        by_cases h2 : j % 2 = 0
        · exact ⟨0, by omega, by omega, by rw [hK, if_pos h2]; rfl⟩
        · exact ⟨1, by omega, by omega, by rw [hK, if_neg h2]; rfl⟩
      obtain ⟨r2, hr4, hr5, hr6⟩ : ∃ r : Nat, (j : Int) / 2 % 2 = (r : Int) ∧ r < 2 ∧ [Value.int .i64 Q, .int .i64 Q1][r]? = some (.int .i64 (clW j)) := by
        by_cases h2 : j / 2 % 2 = 0
        · exact ⟨0, by omega, by omega, by simp only [clW, h2, if_true]; rw [hQ]; rfl⟩
        · exact ⟨1, by omega, by omega, by simp only [clW, h2, if_false]; rw [hQ1]; rfl⟩
      have hcK : (wr.alloc (.cells #[.int .i64 6, .int .i64 9] 3)).cell? ⟨wr.heap.size, r, none⟩ = some (.int .i64 K) := (Blk.new wr [.int .i64 6, .int .i64 9] 3).c r _ hr3
      have hr6' := Lib.hid hr6
      have hH := Lib.hid (And.intro hx (And.intro hK (And.intro hQ hQ1)))
      have hhk := Lib.hid hk
      have hho := Lib.hid hob
      have hm3' := Lib.hid m3
      have hwl' := Lib.hid hwl
      clear hx hQ hQ1 hk hob hwl hmK hK hr3 hr6
      go_wp2_with fail
      refine hadd1'.out.mono ?_
      rintro e w4 ⟨rfl, o4, m4, he4⟩
      have hE4 := (hE3.kept hX1 (fun h => h)).inE m4
      have hrc4 := (hrc.alloc (.cells #[.int .i64 6, .int .i64 9] 3)).kept m4 (by rintro ⟨h1, h2⟩; omega)
      have hrw4 := (hrw.alloc (.cells #[.int .i64 6, .int .i64 9] 3)).kept m4 (by rintro ⟨h1, h2⟩; omega)
      have hadd2 : Calls Tryz.prog 9 #[gp h, .agg #[.int .i64 8, .int .i64 Q, .int .i64 0]] w4 (fun e w' => e = .returned (.tuple #[.int .i64 Q1, .int .i64 0]) ∧ ∃ o', Mod (InE k) w4 o4 w' o' ∧ EngAt w' o' k h (engW (clWs l j ++ [⟨K, 0, x⟩] ++ [⟨8, Q, 0⟩]))) := by
        have hl1 : (clWs l j ++ [(⟨K, 0, x⟩ : Wd)]).length = 181 + j * 2 := by rw [List.length_append, hwl'.out]; simp; omega
        have h1 := e_Add w4 o4 k h _ he4 m4.wf hE4 ⟨8, Q, 0⟩ (.inr (.inr (.inr ⟨rfl, by have := hH.out.2.2.1; show 0 ≤ Q; omega, by have := hH.out.2.2.1; show Q ≤ ((clWs l j ++ [(⟨K, 0, x⟩ : Wd)]).length : Int); omega⟩))) (by show (clWs l j ++ [(⟨K, 0, x⟩ : Wd)]).length < 600; omega)
        have e1 : ((engW (clWs l j ++ [⟨K, 0, x⟩])).c.words.length : Int) + 1 = Q1 := by show ((clWs l j ++ [(⟨K, 0, x⟩ : Wd)]).length : Int) + 1 = Q1; have := hH.out.2.2.2; omega
        rw [e1] at h1
        exact h1
      have hadd2' := Lib.hid hadd2
      clear hadd2 hcK
      go_wp2_with fail
      refine hadd2'.out.mono ?_
      rintro e w5 ⟨rfl, o5, m5, he5⟩
      have hrc5 := hrc4.kept m5 (by rintro ⟨h1, h2⟩; omega)
      have hrw5 := hrw4.kept m5 (by rintro ⟨h1, h2⟩; omega)
      have he6 : EngAt w5 o5 k h (engW (clWs l (j + 1))) := by
        have h1 := engW_add l j
        obtain ⟨h2, h3, h4, _⟩ := hH.out
        rw [← h1, ← h2, ← h3, ← h4]; exact he5
      have hM5 := Lib.hid (m3.trans (((hX1.mono (T' := fun x => k < x) (fun _ h => h.elim)).trans (m4.mono (T' := fun x => k < x) (fun x hx => hx.1))).trans (m5.mono (T' := fun x => k < x) (fun x hx => hx.1))))
      clear hadd1' hadd2' hrc4 hrw4 hrc hrw he3 he4 he5 hX1 m3 m4 hE4 hE3
      go_wp2_with fail
      have hwf5 := hM5.out.wf
      have hwf5' := Lib.hid hwf5
      have hr6a : (#[Value.int .i64 Q, .int .i64 Q1] : Array Value)[r2]? = some (.int .i64 (clW j)) := by have := hr6'.out; simpa using this
      have hA1 : (w5.alloc (.cells #[.int .i64 Q, .int .i64 Q1] 3)).drew.cell? ⟨w5.heap.size, r2, none⟩ = some (.int .i64 (clW j)) := ((Blk.new w5 [.int .i64 Q, .int .i64 Q1] 3).drew).c r2 _ hr6'.out
      have y1 : IntKind.i64.wrap ((j : Int) / 2) = (j : Int) / 2 := IntWalk.i64_in _ (by omega)
      have y2 : ((j : Int) / 2).tmod 2 = (r2 : Int) := by rw [Int.tmod_eq_emod_of_nonneg (by omega)]; exact hr4
      have y3 : (r2 : Int) < 2 := by omega
      have hmA : Mod (fun _ => False) w5 o5 (w5.alloc (.cells #[.int .i64 Q, .int .i64 Q1] 3)).drew o5 := ((Mod.refl (fun _ => False) hwf5).alloc _).drew
      have hmA' := Lib.hid hmA
      clear hr6a hwf5 hmA
      have hbd : (j * 2 + 2 ≤ maxLen ∧ (j * 2 + 2) * 24 ≤ 140737488355328) ∧ 2 + j * 2 ≤ maxLen ∧ (2 + j * 2) * 8 ≤ 140737488355328 := by unfold maxLen; omega
      have hbd' := Lib.hid hbd
      clear hbd
      have hE9 : ∀ (W w7 : World) (o7 : Owner), Mod (fun _ => False) w5 o5 W o5 → Mod (· = k + 8) W o5 w7 o7 → Mod (fun x => k < x) w5 o5 w7 o7 ∧ EngAt w7 o7 k h (engW (clWs l (j + 1))) := fun W w7 o7 q1 q2 =>
        ⟨(q1.mono (fun _ h => h.elim)).trans (q2.mono (fun x hx => by omega)), (he6.same q1).kept q2 (fun x hx h0 => by subst h0; have := hx.2; omega)⟩
      have hE9' := Lib.hid hE9
      have hmD := Lib.hid ((Mod.refl (fun _ => False) hwf5'.out).drew)
      clear hE9 he6
      go_region_law
        ((first
          | (go_simp; go_at_call 10; refine (law_xt _ o5 (by exact hmA'.out.wf) ⟨#[62, 114]⟩ 107 (by decide) (by kernel_rfl)).mono ?_
             rintro e w6 ⟨rfl, m6⟩
             have hM6 : Mod (fun _ => False) w5 o5 w6 o5 := hmA'.out.trans (by exact m6)
             have hrc6 := hrc5.kept hM6 (fun h => h)
             have hrw6 := hrw5.kept hM6 (fun h => h)
             have hA6 : w6.cell? ⟨w5.heap.size, r2, none⟩ = some (.int .i64 (clW j)) := (m6.cells _ _ (by simp)).trans (by exact hA1))
          | (go_simp; go_at_call 10; refine (law_xt _ o5 (by exact hmD.out.wf) ⟨#[62, 114]⟩ 107 (by decide) (by kernel_rfl)).mono ?_
             rintro e w6 ⟨rfl, m6⟩
             have hM6 : Mod (fun _ => False) w5 o5 w6 o5 := hmD.out.trans (by exact m6)
             have hrc6 := hrc5.kept hM6 (fun h => h)
             have hrw6 := hrw5.kept hM6 (fun h => h)
             have hA6 : (w6.alloc (.cells #[.int .i64 Q, .int .i64 Q1] 3)).cell? ⟨w6.heap.size, r2, none⟩ = some (.int .i64 (clW j)) := (Blk.new w6 [.int .i64 Q, .int .i64 Q1] 3).c r2 _ hr6'.out)
          | (refine guard_append rfl ?_
             refine step_append_row elIns (by rfl) (by rfl) ((Mod.refl (fun _ => False) hM6.wf).alloc _).wf (by rfl) (hrc6.alloc _) (by rfl) (rdNew (n := 2) (B := w6.heap.size) rfl rfl (by decide) hM6.wf) (oneAll _ rfl) hbd'.out.1.1 hbd'.out.1.2 ?_
             intro v7 w7 o7 hr7 hm7 hg7 _
             obtain ⟨a7, c7, rfl, _⟩ := hr7.len
             have hrw7 := row_keep hrw6 hrc6 (show (27 : TypeId) ≠ 35 by decide) hg7 hm7.own
             obtain ⟨hm9, he9⟩ := hE9'.out _ w7 o7 (hM6.alloc _) hm7)
          | (refine guard_append rfl ?_
             refine step_append_row elIns (by rfl) (by rfl) (((Mod.refl (fun _ => False) hM6.wf).alloc _).alloc _).wf (by rfl) ((hrc6.alloc _).alloc _) (by rfl) (rdNew (n := 2) (B := w6.heap.size + 1) (by simp) rfl (by decide) ((Mod.refl (fun _ => False) hM6.wf).alloc _).wf) (oneAll _ rfl) hbd'.out.1.1 hbd'.out.1.2 ?_
             intro v7 w7 o7 hr7 hm7 hg7 _
             obtain ⟨a7, c7, rfl, _⟩ := hr7.len
             have hrw7 := row_keep (hrw6.alloc (.cells #[.int .i64 Q, .int .i64 Q1] 3)) (hrc6.alloc (.cells #[.int .i64 Q, .int .i64 Q1] 3)) (show (27 : TypeId) ≠ 35 by decide) hg7 hm7.own
             obtain ⟨hm9, he9⟩ := hE9'.out _ w7 o7 ((hM6.alloc _).alloc _) hm7)))
      all_goals
        go_wp2_with (at_builtin; refine wpList_append_row elCell rfl rfl (((Mod.refl (fun _ => False) hm7.wf).allocTo _ (k + 8)).wf) rfl (rowLitTo (n := 2) (B := w7.heap.size) (k + 8) rfl rfl (by decide)) rfl ((hrw7.alloc _).rd) (one_map _ (fun _ => rfl) _) hbd'.out.2.1 hbd'.out.2.2 ?_
                     intro v8 w8 o8 hr8 hm8 hg8 _
                     obtain ⟨a8, c8, rfl, _⟩ := hr8.len)
        have hq8 : Mod (· = k + 8) w7 o7 w8 o8 := ((Mod.refl (· = k + 8) hm7.wf).allocTo _ (k + 8)).trans hm8
        have hrc8 := row_old hr7 rfl hg8 hq8.own
        have he10 := he9.kept hq8 (fun x hx h0 => by subst h0; have := hx.2; omega)
        have hR : ClRel w2 o2 k h l (j + 1) (.slice a7 (j * 2 + 2) c7) (.slice a8 (2 + j * 2) c8) w8 := by
          have hx0 := hH.out.1
          refine ⟨o8, (hM5.out.trans hm9).trans (hq8.mono (fun x hx => by omega)), he10, ?_, ?_⟩
          · have e1 : (clA (j + 1)).flatMap In1.cells = (clA j).flatMap In1.cells ++ [.int .u8 2, .int .i64 (clW j), .int .i64 0, .int .u8 2, .int .i64 108, .int .i64 0] := by rw [clA_snoc, List.flatMap_append]; rfl
            rw [e1, show (j + 1) * 2 = j * 2 + 2 by omega]; exact hrc8
          · have e1 : (clV l (j + 1)).map cv = [.int .i64 x, .int .i64 x] ++ (clV l j).map cv := by rw [hx0]; rfl
            rw [e1, show (j + 1) * 2 = 2 + j * 2 by omega]; exact hr8
        have hR' := Lib.hid hR
        clear hR hrc8 he10 hq8 hm8 hr8 hg8 hr7 hrw7
        go_roundg (n - (j + 1))
        case measure => omega
        case rel => exact ⟨j + 1, by omega, rfl, by go_num, hR'.out⟩
    · have hjn : j = n := by omega
      subst hjn
      have hhk := Lib.hid hk
      have hho := Lib.hid hob
      have hm3' := Lib.hid m3
      have hwfz := m3.wf
      have hmin' := Lib.hid hmin
      clear hk hob m3 hlt hmin
      go_wp2_with fail
      go_loopg [6, 85] j (fun g vc v wr2 => ∃ (t : Nat) (o4 : Owner), t ≤ j ∧ g = j - t ∧ v = .int .i64 t ∧ Mod (· = k + 8) wr o3 wr2 o4 ∧ EngAt wr2 o4 k h (engW (clWs l j)) ∧ Row wr2 o4 (k + 8) 35 3 vc (j * 2 + t * 2) ((clA j ++ clB t).flatMap In1.cells) ∧ Row wr2 o4 (k + 8) 27 1 (.slice aw (j * 2) cw) (j * 2) ((clV l j).map cv))
      case atStart => exact ⟨0, o3, by omega, by omega, rfl, Mod.refl _ hwfz, he3, by simpa [clB] using hrc, hrw⟩
      case round =>
        obtain ⟨t, o4, ht, rfl, rfl, m4, he4, hrc4, hrw4⟩ := hrel
        obtain ⟨ac4, cc4, rfl, _⟩ := hrc4.len
        clear he3 hrc hrw
        by_cases htl : t < j
        · have hwf4 := Lib.hid m4.wf
          have hbd : j * 2 + t * 2 + 2 ≤ maxLen ∧ (j * 2 + t * 2 + 2) * 24 ≤ 140737488355328 := by unfold maxLen; omega
          have hbd' := Lib.hid hbd
          have hm4' := Lib.hid m4
          clear hbd m4
          go_wp2_with fail
          refine (law_xt _ o4 (by exact hwf4.out) ⟨#[114, 64]⟩ 109 (by decide) (by kernel_rfl)).mono ?_
          rintro e w5 ⟨rfl, m5⟩
          go_wp2_with fail
          refine (law_xt _ o4 (by exact m5.wf) ⟨#[114, 62]⟩ 108 (by decide) (by kernel_rfl)).mono ?_
          rintro e w6 ⟨rfl, m6⟩
          have hM6 := Lib.hid (m5.trans m6)
          have hrc6 := (hrc4.kept m5 (fun h => h)).kept m6 (fun h => h)
          have hrw6 := (hrw4.kept m5 (fun h => h)).kept m6 (fun h => h)
          go_wp2_with (
              (at_builtin; refine wpList_append_row elIns rfl rfl ((Mod.refl (fun _ => False) hM6.out.wf).alloc _).wf rfl (hrc6.alloc _) rfl (rdNew (n := 2) (B := w6.heap.size) rfl rfl (by decide) hM6.out.wf) (oneAll _ rfl) hbd'.out.1 hbd'.out.2 ?_
               intro v7 w7 o7 hr7 hm7 hg7 _
               obtain ⟨a7, c7, rfl, _⟩ := hr7.len
               have hrw7 := row_keep hrw6 hrc6 (show (27 : TypeId) ≠ 35 by decide) hg7 hm7.own))
          have he7 : EngAt w7 o7 k h (engW (clWs l j)) := ((he4.same hM6.out).same ((Mod.refl (fun _ => False) hM6.out.wf).alloc _)).kept hm7 (fun x hx h0 => by subst h0; have := hx.2; omega)
          have hRm := Lib.hid (((hm4'.out.trans (hM6.out.mono (fun _ h => h.elim))).alloc (.cells #[.int .u8 2, .int .i64 110, .int .i64 0, .int .u8 2, .int .i64 109, .int .i64 0] 35)).trans hm7)
          have hR : EngAt w7 o7 k h (engW (clWs l j)) ∧ Row w7 o7 (k + 8) 35 3 (.slice a7 (j * 2 + t * 2 + 2) c7) (j * 2 + (t + 1) * 2) ((clA j ++ clB (t + 1)).flatMap In1.cells) ∧ Row w7 o7 (k + 8) 27 1 (.slice aw (j * 2) cw) (j * 2) ((clV l j).map cv) := by
            refine ⟨he7, ?_, hrw7⟩
            have e1 : (clA j ++ clB (t + 1)).flatMap In1.cells = (clA j ++ clB t).flatMap In1.cells ++ [.int .u8 2, .int .i64 110, .int .i64 0, .int .u8 2, .int .i64 109, .int .i64 0] := by
              rw [clB_snoc, ← List.append_assoc, List.flatMap_append]; rfl
            rw [e1, show j * 2 + (t + 1) * 2 = j * 2 + t * 2 + 2 by omega]; exact hr7
          have hR' := Lib.hid hR
          clear hR he7 hrw7 hr7 hm7
          go_roundg (j - (t + 1))
          case measure => omega
          case rel => exact ⟨t + 1, o7, by omega, rfl, by go_num, hRm.out, hR'.out⟩
        · have htj : t = j := by omega
          subst htj
          have hdl : (clD t).length = t * 2 + t * 2 + 1 := by rw [clD_length]; omega
          have hdf : (clD t).flatMap In1.cells = (clA t ++ clB t).flatMap In1.cells ++ [.int .u8 15, .int .i64 0, .int .i64 0] := by unfold clD; rw [List.flatMap_append]; rfl
          have hpl := clD_plain t (clWs l t).length hn20 (by rw [clWs_length]; omega)
          have hbd : t * 2 + t * 2 + 1 ≤ maxLen ∧ (t * 2 + t * 2 + 1) * 24 ≤ 140737488355328 := by unfold maxLen; omega
          have hvs : clS l t t = clV l t := by have := clS_V l t t (Nat.le_refl _); rw [Nat.sub_self] at this; simpa [clV] using this
          have hH := Lib.hid (And.intro hpl (And.intro hvs (And.intro hbd hdf)))
          have hdl' := Lib.hid hdl
          have hm4' := Lib.hid m4
          have hwfa : ∀ x1 : Obj, Wf (wr.alloc x1) o4 := fun x1 => ((Mod.refl (fun _ => False) m4.wf).alloc x1).wf
          have hwfa' := Lib.hid hwfa
          have hwf4 := Lib.hid m4.wf
          clear hdl hdf hpl hbd htl ht m4 hwfa hvs hj
          go_wp2_with (at_builtin; refine wpList_append_row elIns rfl rfl (hwfa'.out _) rfl (hrc4.alloc _) rfl (rdNew (n := 1) (B := wr.heap.size) rfl rfl (by decide) hwf4.out) (oneAll _ rfl) hH.out.2.2.1.1 hH.out.2.2.1.2 ?_
                       intro v7 w7 o7 hr7 hm7 hg7 _
                       obtain ⟨a7, c7, rfl, _⟩ := hr7.len
                       have hrw7 := row_keep hrw4 hrc4 (show (27 : TypeId) ≠ 35 by decide) hg7 hm7.own)
          clear hcm hac z1 z2 hnN hmin'
          obtain ⟨hpl, hvs, _, hdf⟩ := hH.out
          have hdl := hdl'.out
          rw [← hdl, ← hdf] at hr7
          rw [← hdl]
          obtain ⟨ab, abc, habv, hab, habc⟩ := row_at0 hr7 (by omega)
          obtain ⟨rfl, rfl⟩ : a7 = some ⟨ab, 0, none⟩ ∧ c7 = abc := by cases habv; exact ⟨rfl, rfl⟩
          have hoab : o7 ab = k + 8 := hr7.2 ab rfl
          have hm7a := ((Mod.refl (fun _ => False) hwf4.out).alloc (.cells #[.int .u8 15, .int .i64 0, .int .i64 0] 35))
          have he7 : EngAt w7 o7 k h (engW (clWs l t)) := (he4.same hm7a).kept hm7 (fun x hx h0 => by subst h0; have := hx.2; omega)
          have hmT := (hm3'.out.trans (hm4'.out.mono (T' := fun x => k < x) (fun x hx => by omega))).trans ((hm7a.mono (T' := fun x => k < x) (fun _ h => h.elim)).trans (hm7.mono (T' := fun x => k < x) (fun x hx => by omega)))
          have hE7 := hE2.kept hmT (by omega)
          have hdef := e_Define w7 o7 k h _ he7 hm7.wf ab c7 (clD t) hpl hab (by rw [hoab]; rintro ⟨h1, h2⟩; omega) habc (by show ([] : List Int).length + 1000 ≤ 400000; decide) (by show ([] : List Int).length < 300; decide)
          obtain ⟨DD, hDD⟩ : ∃ DD, DD = clD t := ⟨_, rfl⟩
          rw [← hDD] at hdef ⊢
          have hDD' := Lib.hid hDD
          have hdef' := Lib.hid hdef
          have hvv := Lib.hid hvs
          have hmT' := Lib.hid hmT
          clear hdef hDD habv hab habc hoab hm7a hH hdl' hdl hdf hpl hvs hr7 hmT he7 hm12 hrc4 hrw4 hm7 hg7 hwfa' he4
          go_wp2_with fail
          refine hdef'.out.mono ?_
          rintro e w8 ⟨rfl, o8, m8, he8⟩
          have he8' : EngAt w8 o8 k h ⟨⟨encI DD, [((encI DD).length : Int)], clWs l t, 0, 0, 0⟩, [], st0 1024, inp0⟩ := he8
          have hE8 := hE7.inE m8
          have hrw8 := hrw7.kept m8 (by rintro ⟨h1, h2⟩; omega)
          have hwl := clWs_length l t
          obtain ⟨QW, hQW⟩ : ∃ QW : Int, QW = ((180 + t * 2 : Nat) : Int) + 1 := ⟨_, rfl⟩
          obtain ⟨QN, hQN⟩ : ∃ QN : Int, QN = ((181 + t * 2 : Nat) : Int) + 1 := ⟨_, rfl⟩
          have hadd : Calls Tryz.prog 9 #[gp h, .agg #[.int .i64 5, .int .i64 1, .int .i64 0]] w8 (fun e w' => e = .returned (.tuple #[.int .i64 QW, .int .i64 0]) ∧ ∃ o', Mod (InE k) w8 o8 w' o' ∧ EngAt w' o' k h ⟨⟨encI DD, [((encI DD).length : Int)], clWs l t ++ [⟨5, 1, 0⟩], 0, 0, 0⟩, [], st0 1024, inp0⟩) := by
            have h1 := e_Add w8 o8 k h _ he8' m8.wf hE8 ⟨5, 1, 0⟩ (.inr (.inl ⟨rfl, by decide, by simp⟩)) (by show (clWs l t).length < 600; omega)
            have e1 : ((⟨⟨encI DD, [((encI DD).length : Int)], clWs l t, 0, 0, 0⟩, [], st0 1024, inp0⟩ : Eng).c.words.length) = 180 + t * 2 := hwl
            rw [e1, ← hQW] at h1
            exact h1
          have hadd' := Lib.hid hadd
          clear hadd he8 he8'
          go_wp2_with fail
          refine hadd'.out.mono ?_
          rintro e w9 ⟨rfl, o9, m9, he9⟩
          have hE9 := hE8.inE m9
          have hrw9 := hrw8.kept m9 (by rintro ⟨h1, h2⟩; omega)
          have hadd : Calls Tryz.prog 9 #[gp h, .agg #[.int .i64 8, .int .i64 0, .int .i64 0]] w9 (fun e w' => e = .returned (.tuple #[.int .i64 QN, .int .i64 0]) ∧ ∃ o', Mod (InE k) w9 o9 w' o' ∧ EngAt w' o' k h ⟨⟨encI DD, [((encI DD).length : Int)], clWs l t ++ [⟨5, 1, 0⟩] ++ [⟨8, 0, 0⟩], 0, 0, 0⟩, [], st0 1024, inp0⟩) := by
            have hl1 : (clWs l t ++ [(⟨5, 1, 0⟩ : Wd)]).length = 181 + t * 2 := by rw [List.length_append, hwl]; simp; omega
            have h1 := e_Add w9 o9 k h _ he9 m9.wf hE9 ⟨8, 0, 0⟩ (.inr (.inr (.inr ⟨rfl, by show (0 : Int) ≤ 0; omega, by show (0 : Int) ≤ ((clWs l t ++ [(⟨5, 1, 0⟩ : Wd)]).length : Int); omega⟩))) (by show (clWs l t ++ [(⟨5, 1, 0⟩ : Wd)]).length < 600; omega)
            have e1 : ((⟨⟨encI DD, [((encI DD).length : Int)], clWs l t ++ [⟨5, 1, 0⟩], 0, 0, 0⟩, [], st0 1024, inp0⟩ : Eng).c.words.length) = 181 + t * 2 := hl1
            rw [e1, ← hQN] at h1
            exact h1
          have hadd2' := Lib.hid hadd
          have hQ := Lib.hid (And.intro hQW (And.intro hQN hwl))
          clear hadd he9 hQW hQN hwl
          go_wp2_with fail
          refine hadd2'.out.mono ?_
          rintro e w10 ⟨rfl, o10, m10, he10⟩
          have hE10 := hE9.inE m10
          have hrw10 := hrw9.kept m10 (by rintro ⟨h1, h2⟩; omega)
          have hwl2 : (clWs l t ++ [(⟨5, 1, 0⟩ : Wd)] ++ [(⟨8, 0, 0⟩ : Wd)]).length = 182 + t * 2 := by rw [List.length_append, List.length_append, hQ.out.2.2]; simp; omega
          have hg1 : (clWs l t ++ [(⟨5, 1, 0⟩ : Wd)] ++ [(⟨8, 0, 0⟩ : Wd)])[180 + t * 2]? = some ⟨5, 1, 0⟩ := by
            rw [List.append_assoc, List.getElem?_append_right (by rw [hQ.out.2.2]; exact Nat.le_refl _), hQ.out.2.2, Nat.sub_self]; rfl
          have hg2 : (clWs l t ++ [(⟨5, 1, 0⟩ : Wd)] ++ [(⟨8, 0, 0⟩ : Wd)])[181 + t * 2]? = some ⟨8, 0, 0⟩ := by
            rw [List.append_assoc, List.getElem?_append_right (by rw [hQ.out.2.2]; omega), hQ.out.2.2, show 181 + t * 2 - (180 + t * 2) = 1 by omega]; rfl
          have hx : Calls Tryz.prog 12 #[gp h, .int .i64 QW] w10 fun e w' => e = .returned (.int .i64 0) ∧ Mod (InE k) w10 o10 w' o10 ∧ EngAt w' o10 k h ⟨⟨encI DD, [((encI DD).length : Int)], clWs l t ++ [⟨5, 1, 0⟩] ++ [⟨8, 0, 0⟩], 0, 0, ((180 + t * 2 : Nat) : Int) + 1⟩, [], st0 1024, inp0⟩ := by
            rw [hQ.out.1]
            exact e_Exec_yes w10 o10 k h _ he10 m10.wf (180 + t * 2) (by show 180 + t * 2 < (clWs l t ++ [(⟨5, 1, 0⟩ : Wd)] ++ [(⟨8, 0, 0⟩ : Wd)]).length; omega)
          have hx' := Lib.hid hx
          have hG := Lib.hid (And.intro hg1 (And.intro hg2 hwl2))
          clear hx hg1 hg2 hwl2 he10
          go_wp2_with fail
          refine hx'.out.mono ?_
          rintro e w11 ⟨rfl, m11, he11⟩
          have hE11 := hE10.inE m11
          have hrw11 := hrw10.kept m11 (by rintro ⟨h1, h2⟩; omega)
          rw [hDD'.out] at he11
          obtain ⟨q, hq103, hgo, hst⟩ := cl_run (k := k) (h := h) (E := ⟨⟨encI (clD t), [((encI (clD t)).length : Int)], clWs l t ++ [⟨5, 1, 0⟩] ++ [⟨8, 0, 0⟩], 0, 0, ((180 + t * 2 : Nat) : Int) + 1⟩, [], st0 1024, inp0⟩) l t hn20 (180 + t * 2) 0 rfl rfl rfl hG.out.1 ⟨[⟨5, 1, 0⟩, ⟨8, 0, 0⟩], by simp⟩ rfl rfl rfl rfl
          have hrun : Calls Tryz.prog 13 #[gp h, .int .i64 300] w11 fun e w' => e = .returned (.agg #[.int .i64 5, .int .i64 0, .int .i64 0]) ∧ ∃ o', Mod (InE k) w11 o10 w' o' ∧ EngAt w' o' k h ⟨⟨encI (clD t), [((encI (clD t)).length : Int)], clWs l t ++ [⟨5, 1, 0⟩] ++ [⟨8, 0, 0⟩], 0, 0, 0⟩, [], { st0 1024 with stack := clS l t t }, inp0⟩ :=
            law_run w11 o10 m11.wf hE11 k h _ _ _ he11 q 300 hgo 5 0 0 hst (by decide) (by omega) (by decide)
          have hrun' := Lib.hid hrun
          have hall := Lib.hid ((((hmT'.out.trans (m8.mono (T' := fun x => k < x) (fun x hx => hx.1))).trans (m9.mono (T' := fun x => k < x) (fun x hx => hx.1))).trans (m10.mono (T' := fun x => k < x) (fun x hx => hx.1))).trans (m11.mono (T' := fun x => k < x) (fun x hx => hx.1)))
          clear hgo hst hrun hq103 he11 m8 m9 m10
          go_wp2_with fail
          refine hrun'.out.mono ?_
          rintro e w12 ⟨rfl, o12, m12, he12⟩
          have hrw12 := hrw11.kept m12 (by rintro ⟨h1, h2⟩; omega)
          have hE12 := hE11.inE m12
          go_wp2_with fail
          refine (e_State w12 o12 k h _ he12).mono ?_
          rintro e w' ⟨rfl, rfl⟩
          go_wp2_with fail
          refine (p_Stack w12 o12 k h _ he12).mono ?_
          rintro e w' ⟨rfl, rfl⟩
          go_wp2_with fail
          refine (stack_All_row w12 o12 (k + 1) h.sp _ he12.2.2.1.1 m12.wf 0).mono ?_
          have hlen : (clV l t).length = t * 2 := clV_length l t
          have hlen' := Lib.hid hlen
          clear hlen
          rintro e w13 ⟨v13, o13, rfl, m13, hr13⟩
          have hr13' : Row w13 o13 0 27 1 v13 (clV l t).length ((clV l t).map cv) := by have := hr13; dsimp only at this; rw [hvv.out] at this; exact this
          have hrw13 := hrw12.kept m13 (fun h => h)
          have he13 := he12.same m13
          have hE13 := hE12.kept m13 (fun h => h)
          clear hr13
          go_wp2_with fail
          refine (ref_Same _ o13 m13.wf v13 _ 0 (k + 8) (clV l t) (by rw [hlen'.out]; omega) hr13' (by rw [hlen'.out]; exact hrw13)).mono ?_
          rintro e w14 ⟨rfl, m14⟩
          have he14 := he13.same m14
          have hE14 := hE13.kept m14 (fun h => h)
          go_wp2_with fail
          refine (e_Frames w14 o13 k h _ he14).mono ?_
          rintro e w' ⟨rfl, rfl⟩
          go_wp2_with fail
          refine (frames_Depth w14 o13 _ _ _ he14.2.1).mono ?_
          rintro e w' ⟨rfl, rfl⟩
          have hx : Calls Tryz.prog 12 #[gp h, .int .i64 QN] w14 fun e w' => e = .returned (.int .i64 0) ∧ Mod (InE k) w14 o13 w' o13 ∧ EngAt w' o13 k h ⟨⟨encI (clD t), [((encI (clD t)).length : Int)], clWs l t ++ [⟨5, 1, 0⟩] ++ [⟨8, 0, 0⟩], 0, 0, ((181 + t * 2 : Nat) : Int) + 1⟩, [], { st0 1024 with stack := clS l t t }, inp0⟩ := by
            rw [hQ.out.2.1]
            exact e_Exec_yes w14 o13 k h _ he14 m14.wf (181 + t * 2) (by show 181 + t * 2 < (clWs l t ++ [(⟨5, 1, 0⟩ : Wd)] ++ [(⟨8, 0, 0⟩ : Wd)]).length; rw [hG.out.2.2]; omega)
          have hxx := Lib.hid hx
          clear hx
          go_wp2_with fail
          refine hxx.out.mono ?_
          rintro e w15 ⟨rfl, m15, he15⟩
          have hE15 := hE14.inE m15
          obtain ⟨E16, hst16⟩ := to_none (k := k) (h := h) (E := ⟨⟨encI (clD t), [((encI (clD t)).length : Int)], clWs l t ++ [⟨5, 1, 0⟩] ++ [⟨8, 0, 0⟩], 0, 0, ((181 + t * 2 : Nat) : Int) + 1⟩, [], { st0 1024 with stack := clS l t t }, inp0⟩) (m := 181 + t * 2) (y := 0) rfl hG.out.2.1 rfl
          have hrun : Calls Tryz.prog 13 #[gp h, .int .i64 5] w15 fun e w' => e = .returned (.agg #[.int .i64 4, .int .i64 0, .int .i64 (-32)]) ∧ ∃ o', Mod (InE k) w15 o13 w' o' ∧ EngAt w' o' k h E16 :=
            law_run w15 o13 m15.wf hE15 k h _ _ _ he15 0 5 (.refl _) 4 0 (-32) hst16 (by decide) (by omega) (by decide)
          have hrun' := Lib.hid hrun
          have hall2 := Lib.hid ((((hall.out.trans (m12.mono (T' := fun x => k < x) (fun x hx => hx.1))).trans (m13.mono (T' := fun x => k < x) (fun _ h => h.elim))).trans (m14.mono (T' := fun x => k < x) (fun _ h => h.elim))).trans (m15.mono (T' := fun x => k < x) (fun x hx => hx.1)))
          clear hrun hst16 he15 he14 he13 he12 hr13' hrw13 hrw12 hrw11 hrw10 hrw9 hrw8 hrw7
          go_wp2_with fail
          refine hrun'.out.mono ?_
          rintro e w16 ⟨rfl, o16, m16, he16⟩
          have hm17 := (Mod.refl (fun _ => False) m16.wf).alloc (.cells #[.int .i64 4, .int .i64 0, .int .i64 (-32)] 42)
          have hnil : Calls Tryz.prog 20 #[.pointer none] (w16.alloc (.cells #[.int .i64 4, .int .i64 0, .int .i64 (-32)] 42)) fun e w' => e = .returned (.agg #[.int .i64 5, .int .i64 0, .int .i64 0]) ∧ Mod (fun _ => False) (w16.alloc (.cells #[.int .i64 4, .int .i64 0, .int .i64 (-32)] 42)) o16 w' o16 := nil_Step _ o16 hm17.wf
          have hnil' := Lib.hid hnil
          clear hnil
          go_wp2_with fail
          refine hnil'.out.mono ?_
          rintro e w18 ⟨rfl, m18⟩
          go_wp2_with fail
          refine (nil_Exec w18 1).mono ?_
          rintro e w' ⟨rfl, rfl⟩
          go_wp2_with fail
          refine (nil_State w18).mono ?_
          rintro e w' ⟨rfl, rfl⟩
          go_wp2
          go_ret
          have hfin := (hall2.out.trans (m16.mono (T' := fun x => k < x) (fun x hx => hx.1))).trans ((hm17.trans m18).mono (T' := fun x => k < x) (fun _ h => h.elim))
          exact ⟨rfl, o16, hm1.out.trans (mod_fresh hhk.out ((hm2.out.mono (T' := fun x => k < x) (fun _ h => h.elim)).trans hfin) (fun _ h => h))⟩
end Go.Proofs.YtjcaidbkbdkpeaaGreatDoor
