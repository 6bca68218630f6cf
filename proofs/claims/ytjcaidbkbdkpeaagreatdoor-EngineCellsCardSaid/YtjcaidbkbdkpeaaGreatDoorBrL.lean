/- EngineBranches, walked: it answers true. -/
import Derived.Test.YtjcaidbkbdkpeaaGreatDoorShown
namespace Go.Proofs.YtjcaidbkbdkpeaaGreatDoor
open Go Go.RowKit Go.Rh

theorem elIns : El Tryz.prog 26 35 3 24 := El.mk' (z := .agg #[.int .u8 0, .int .i64 0, .int .i64 0]) Tryz.underlying26 (by kernel_rfl) rfl (by decide)

theorem oneAll (l : List Value) (h : l.all (fun u => u.oneCell') = true) : ∀ u ∈ l, u.oneCell' = true := List.all_eq_true.1 h

theorem row_keep {w w1 : World} {x : Obj} {o o' o1 : Owner} {t t' : Nat} {e e' : TypeId} {size size' n n' : Nat} {v v' : Value} {xs xs' : List Value} (hr : Row w o t e size v n xs) (hr' : Row w o' t' e' size' v' n' xs') (he : e ≠ e') (hg : (w.alloc x).grownBy w1 v'.ownBlock) (ho : ∀ b, b < (w.alloc x).heap.size → o1 b = o b) : Row w1 o1 t e size v n xs :=
  (hr.alloc x).grown hg (hr.apart hr' he) ho

/-- What is laid behind the first j cells. -/
def BrRel (w : World) (o : Owner) (g : Nat) (l : List Int) (j : Nat) (vc vw : Value) (wr : World) : Prop :=
  ∃ o1 : Owner, Mod (· = g) w o wr o1 ∧ Row wr o1 g 35 3 vc (brCode l j).length ((brCode l j).flatMap In1.cells) ∧ Row wr o1 g 27 1 vw j ((brWant l j).map cv)

/-- A slice that came in: its cells. -/
def Came (w : World) (v : Value) (l : List Int) : Prop :=
  (v = .slice none 0 0 ∧ l = []) ∨ ∃ (a : Addr) (c : Nat), v = .slice (some a) l.length c ∧ l.length ≤ c ∧ c ≤ maxLen ∧ (0 < l.length → a.block < w.heap.size) ∧ ∀ i, i < l.length → w.cell? (a.add i) = some (cv (l.getD i 0))

theorem brWant_step (l : List Int) (j : Nat) : (brWant l (j + 1)).map cv = (brWant l j).map cv ++ [cv (if l.getD j 0 = 0 then 9 else 7)] := by simp [brWant]
theorem brCode_step (l : List Int) (j : Nat) : (brCode l (j + 1)).flatMap In1.cells = (brCode l j).flatMap In1.cells ++ (brBlk j (brCode l j).length (l.getD j 0)).flatMap In1.cells := by
  simp only [brCode, List.flatMap_append]

set_option maxHeartbeats 4000000 in
set_option maxRecDepth 100000 in
theorem law_Branches (w : World) (o : Owner) (hwf : Wf w o) (hE : Env w o) (v : Value) (l : List Int) (hv : Came w v l) :
    Calls Tryz.prog 4 #[v] w fun e w' => e = .returned (.bool true) ∧ ∃ o', Mod (fun _ => False) w o w' o' := by
  obtain ⟨n, hn⟩ : ∃ n, n = min l.length 20 := ⟨_, rfl⟩
  have hmin : imin (l.length : Int) 20 = (n : Int) := by rw [imin_eq, hn]; omega
  obtain ⟨aa, c, rfl, hac, hcm⟩ : ∃ aa c, v = .slice aa l.length c ∧ l.length ≤ c ∧ c ≤ maxLen := by
    rcases hv with ⟨rfl, rfl⟩ | ⟨a, c, rfl, h1, h2, _⟩
    · exact ⟨_, _, rfl, Nat.le_refl _, by decide⟩
    · exact ⟨_, _, rfl, h1, h2⟩
  obtain ⟨N, hN⟩ : ∃ N, N = l.length := ⟨_, rfl⟩
  have hn20 : n ≤ 20 := by omega
  have hnN : n ≤ N := by omega
  rw [← hN] at hmin hac ⊢
  have hv' := Lib.hid hv
  have hN' := Lib.hid hN
  unfold maxLen at hcm
  clear hv hn hN
  go_enter Tryz.func4, Tryz.ntmps4
  go_wp2_with fail
  refine (law_shown w o hwf hE).mono ?_
  rintro e w1 ⟨rfl, o1, m1⟩
  obtain ⟨k, hk⟩ := above_owner m1.wf
  have hE1 := hE.kept m1 (fun h => h)
  go_wp2_with fail
  refine (law_built w1 o1 m1.wf hE1 k hk).mono ?_
  rintro e w2 ⟨g, rfl, h, o2, rfl, m2, he2⟩
  have hE2 := hE1.kept m2 (fun h => h)
  have hm12 := Lib.hid (m1.trans m2)
  have hwf2 := m2.wf
  have hm2 := Lib.hid m2
  have hob : ∀ b, b < w.heap.size → o2 b ≤ k := fun b hb => by rw [m2.own b (Nat.lt_of_lt_of_le hb m1.size)]; exact hk b
  have z1 : (0 : Int) ≤ (n : Int) := by omega
  have z2 : (n : Int) ≤ (c : Int) := by omega
  have hsf := statKind
  have hm1 := Lib.hid m1
  clear m1 m2
  go_wp2_with fail
  go_loopg [6, 7, 26] n (fun g vc vw v wr => ∃ j : Nat, j ≤ n ∧ g = n - j ∧ v = .int .i64 j ∧ BrRel w2 o2 (k + 8) l j vc vw wr)
  case atStart => exact ⟨0, by omega, by omega, rfl, o2, Mod.refl _ hwf2, Row.nil _ _ _ _ _, Row.nil _ _ _ _ _⟩
  case round =>
    obtain ⟨j, hj, rfl, rfl, o3, m3, hrc, hrw⟩ := hrel
    obtain ⟨ac, cc, rfl, _⟩ := hrc.len
    obtain ⟨aw, cw, rfl, _⟩ := hrw.len
    by_cases hlt : j < n
    · obtain ⟨x, hx⟩ : ∃ x, x = l.getD j 0 := ⟨_, rfl⟩
      obtain ⟨a0, rfl, hcx⟩ : ∃ a0, aa = some a0 ∧ wr.cell? (a0.add j) = some (.int .i64 x) := by
        rcases hv'.out with ⟨_, h1⟩ | ⟨a, c', h1, h2, h3, h4, h5⟩
        · have := hN'.out; rw [h1] at this; simp at this; omega
        · cases h1
          have hjl : j < l.length := by have := hN'.out; omega
          have hbl := h4 (by omega)
          refine ⟨a, rfl, ?_⟩
          rw [hx]
          refine Eq.trans ?_ (h5 j hjl)
          have hb2 : (a.add j).block < w.heap.size := by rw [Addr.add_block]; exact hbl
          have hm := hm12.out
          have e1 := hm.keep _ hb2 (fun h => h)
          have e2 := m3.keep (a.add j).block (Nat.lt_of_lt_of_le hb2 hm.size) (by have := hob _ hb2; omega)
          exact (World.cell?_of_block e2).trans (World.cell?_of_block e1)
      have hq := brCode_length l j
      have hwl := brWant_length l j
      have hc1 := brCode_step l j
      have hw1 := brWant_step l j
      rw [← hx] at hc1 hw1
      have hcl : (brCode l (j + 1)).length = (brCode l j).length + (brBlk j (brCode l j).length x).length := by rw [hx]; simp only [brCode, List.length_append]
      obtain ⟨q, hqq⟩ : ∃ q, q = (brCode l j).length := ⟨_, rfl⟩
      rw [← hqq] at hq hc1 hrc hcl ⊢
      generalize (brCode l j).flatMap In1.cells = CC at hrc hc1
      generalize (brWant l j).map cv = WW at hrw hw1
      have hq1 : q ≤ 140 := by omega
      have y4 : IntKind.i64.wrap ((q : Int) + 4) = (q : Int) + 4 := IntWalk.i64_in _ (by omega)
      have y5 : IntKind.i64.wrap ((q : Int) + 5) = (q : Int) + 5 := IntWalk.i64_in _ (by omega)
      have y7 : IntKind.i64.wrap ((q : Int) + 7) = (q : Int) + 7 := IntWalk.i64_in _ (by omega)
      have hc1' := Lib.hid hc1
      have hw1' := Lib.hid hw1
      have hcl' := Lib.hid hcl
      have hx' := Lib.hid hx
      have hhk := Lib.hid hk
      have hho := Lib.hid hob
      clear hqq hc1 hw1 hcl hwl hx hk hob hq
      have hwfa : ∀ x1 : Obj, Wf (wr.alloc x1) o3 := fun x1 => ((Mod.refl (fun _ => False) m3.wf).alloc x1).wf
      have hwfa' := Lib.hid hwfa
      clear hwfa
      have hz : (x = 0 ∧ (x == 0) = true) ∨ (¬ x = 0 ∧ (x == 0) = false) := by
        by_cases h0 : x = 0
        · exact .inl ⟨h0, by simp [h0]⟩
        · exact .inr ⟨h0, by simp [h0]⟩
      have hp : (j % 2 = 0 ∧ ((j : Int) % 2 == 0) = true) ∨ (¬ j % 2 = 0 ∧ ((j : Int) % 2 == 0) = false) := by
        by_cases h0 : j % 2 = 0
        · exact .inl ⟨h0, by simp; omega⟩
        · exact .inr ⟨h0, by simp; omega⟩
      have hyA : ∀ (m : Nat) (cs : List Value), cs.length = m * 3 → m ≤ maxLen → Rd (wr.alloc (.cells cs.toArray 35)) o3 0 3 (.slice (some ⟨wr.heap.size, 0, none⟩) m m) m cs := fun m cs hl hm => rdNew rfl hl hm m3.wf
      have hyA' := Lib.hid hyA
      clear hyA
      have hbd : ∀ m : Nat, m ≤ 7 → q + m ≤ maxLen ∧ (q + m) * 24 ≤ 140737488355328 := fun m hm => by unfold maxLen; omega
      have hbd' := Lib.hid hbd
      have hbw : j + 1 ≤ maxLen ∧ (j + 1) * 8 ≤ 140737488355328 := by unfold maxLen; omega
      have hbw' := Lib.hid hbw
      clear hbd hbw
      rcases hp with ⟨hpar, p1⟩ | ⟨hpar, p1⟩ <;> rcases hz with ⟨hz, z3⟩ | ⟨hz, z3⟩ <;> (have hpar' := Lib.hid hpar; have hz' := Lib.hid hz; clear hpar hz)
      · go_wp2_with (first
          | (at_builtin; refine wpList_append_row elIns rfl rfl (hwfa'.out _) rfl (hrc.alloc _) rfl (hyA'.out 5 _ rfl (by decide)) (oneAll _ rfl) (hbd'.out 5 (by decide)).1 (hbd'.out 5 (by decide)).2 ?_
             intro v4 w4 o4 hr4 hm4 hg4 _
             obtain ⟨a4, c4, rfl, _⟩ := hr4.len
             have hrw4 := row_keep hrw hrc (show (27 : TypeId) ≠ 35 by decide) hg4 hm4.own)
          | (at_builtin; refine wpList_append_row elCell rfl rfl ((Mod.refl (fun _ => False) hm4.wf).alloc _).wf rfl (hrw4.alloc _) rfl (rdNew (n := 1) (B := w4.heap.size) rfl rfl (by decide) hm4.wf) (oneAll _ rfl) hbw'.out.1 hbw'.out.2 ?_
             intro v5 w5 o5 hr5 hm5 hg5 _
             obtain ⟨a5, c5, rfl, _⟩ := hr5.len
             have hr45 := row_keep hr4 hrw4 (show (35 : TypeId) ≠ 27 by decide) hg5 hm5.own))
        have hblk : (brBlk j q x).length = 5 := by unfold brBlk; rw [if_pos hpar'.out]; rfl
        have hl5 : (brCode l (j + 1)).length = q + 5 := by rw [hcl'.out, hblk]
        have hf5 : (brCode l (j + 1)).flatMap In1.cells = CC ++ (brBlk j q x).flatMap In1.cells := hc1'.out
        have hff : (brBlk j q x).flatMap In1.cells = [.int .u8 1, .int .i64 0, .int .i64 x, .int .u8 4, .int .i64 ((q : Int) + 4), .int .i64 0, .int .u8 1, .int .i64 0, .int .i64 7, .int .u8 3, .int .i64 ((q : Int) + 5), .int .i64 0, .int .u8 1, .int .i64 0, .int .i64 9] := by unfold brBlk; rw [if_pos hpar'.out]; rfl
        have hww : (brWant l (j + 1)).map cv = WW ++ [cv 9] := by rw [hw1'.out, if_pos hz'.out]
        have hR : BrRel w2 o2 (k + 8) l (j + 1) (.slice a4 (q + 5) c4) (.slice a5 (j + 1) c5) w5 := by
          refine ⟨o5, ((m3.alloc _).trans hm4).trans (((Mod.refl _ hm4.wf).alloc _).trans hm5), ?_, ?_⟩
          · rw [hl5, hf5, hff]; exact hr45
          · rw [hww]; exact hr5
        have hR' := Lib.hid hR
        clear hR hblk hl5 hf5 hff hww
        go_roundg (n - (j + 1))
        case measure => omega
        case rel => exact ⟨j + 1, by omega, rfl, by go_num, hR'.out⟩
      · go_wp2_with (first
          | (at_builtin; refine wpList_append_row elIns rfl rfl (hwfa'.out _) rfl (hrc.alloc _) rfl (hyA'.out 5 _ rfl (by decide)) (oneAll _ rfl) (hbd'.out 5 (by decide)).1 (hbd'.out 5 (by decide)).2 ?_
             intro v4 w4 o4 hr4 hm4 hg4 _
             obtain ⟨a4, c4, rfl, _⟩ := hr4.len
             have hrw4 := row_keep hrw hrc (show (27 : TypeId) ≠ 35 by decide) hg4 hm4.own)
          | (at_builtin; refine wpList_append_row elCell rfl rfl ((Mod.refl (fun _ => False) hm4.wf).alloc _).wf rfl (hrw4.alloc _) rfl (rdNew (n := 1) (B := w4.heap.size) rfl rfl (by decide) hm4.wf) (oneAll _ rfl) hbw'.out.1 hbw'.out.2 ?_
             intro v5 w5 o5 hr5 hm5 hg5 _
             obtain ⟨a5, c5, rfl, _⟩ := hr5.len
             have hr45 := row_keep hr4 hrw4 (show (35 : TypeId) ≠ 27 by decide) hg5 hm5.own))
        have hblk : (brBlk j q x).length = 5 := by unfold brBlk; rw [if_pos hpar'.out]; rfl
        have hl5 : (brCode l (j + 1)).length = q + 5 := by rw [hcl'.out, hblk]
        have hf5 : (brCode l (j + 1)).flatMap In1.cells = CC ++ (brBlk j q x).flatMap In1.cells := hc1'.out
        have hff : (brBlk j q x).flatMap In1.cells = [.int .u8 1, .int .i64 0, .int .i64 x, .int .u8 4, .int .i64 ((q : Int) + 4), .int .i64 0, .int .u8 1, .int .i64 0, .int .i64 7, .int .u8 3, .int .i64 ((q : Int) + 5), .int .i64 0, .int .u8 1, .int .i64 0, .int .i64 9] := by unfold brBlk; rw [if_pos hpar'.out]; rfl
        have hww : (brWant l (j + 1)).map cv = WW ++ [cv 7] := by rw [hw1'.out, if_neg hz'.out]
        have hR : BrRel w2 o2 (k + 8) l (j + 1) (.slice a4 (q + 5) c4) (.slice a5 (j + 1) c5) w5 := by
          refine ⟨o5, ((m3.alloc _).trans hm4).trans (((Mod.refl _ hm4.wf).alloc _).trans hm5), ?_, ?_⟩
          · rw [hl5, hf5, hff]; exact hr45
          · rw [hww]; exact hr5
        have hR' := Lib.hid hR
        clear hR hblk hl5 hf5 hff hww
        go_roundg (n - (j + 1))
        case measure => omega
        case rel => exact ⟨j + 1, by omega, rfl, by go_num, hR'.out⟩
      · go_wp2_with (first
          | (at_builtin; refine wpList_append_row elIns rfl rfl (hwfa'.out _) rfl (hrc.alloc _) rfl (hyA'.out 7 _ rfl (by decide)) (oneAll _ rfl) (hbd'.out 7 (by decide)).1 (hbd'.out 7 (by decide)).2 ?_
             intro v4 w4 o4 hr4 hm4 hg4 _
             obtain ⟨a4, c4, rfl, _⟩ := hr4.len
             have hrw4 := row_keep hrw hrc (show (27 : TypeId) ≠ 35 by decide) hg4 hm4.own)
          | (at_builtin; refine wpList_append_row elCell rfl rfl ((Mod.refl (fun _ => False) hm4.wf).alloc _).wf rfl (hrw4.alloc _) rfl (rdNew (n := 1) (B := w4.heap.size) rfl rfl (by decide) hm4.wf) (oneAll _ rfl) hbw'.out.1 hbw'.out.2 ?_
             intro v5 w5 o5 hr5 hm5 hg5 _
             obtain ⟨a5, c5, rfl, _⟩ := hr5.len
             have hr45 := row_keep hr4 hrw4 (show (35 : TypeId) ≠ 27 by decide) hg5 hm5.own))
        have hblk : (brBlk j q x).length = 7 := by unfold brBlk; rw [if_neg hpar'.out]; rfl
        have hl5 : (brCode l (j + 1)).length = q + 7 := by rw [hcl'.out, hblk]
        have hf5 : (brCode l (j + 1)).flatMap In1.cells = CC ++ (brBlk j q x).flatMap In1.cells := hc1'.out
        have hff : (brBlk j q x).flatMap In1.cells = [.int .u8 1, .int .i64 0, .int .i64 x, .int .u8 1, .int .i64 0, .int .i64 0, .int .u8 10, .int .i64 ((q : Int) + 5), .int .i64 0, .int .u8 1, .int .i64 0, .int .i64 9, .int .u8 3, .int .i64 ((q : Int) + 7), .int .i64 0, .int .u8 11, .int .i64 0, .int .i64 0, .int .u8 1, .int .i64 0, .int .i64 7] := by unfold brBlk; rw [if_neg hpar'.out]; rfl
        have hww : (brWant l (j + 1)).map cv = WW ++ [cv 9] := by rw [hw1'.out, if_pos hz'.out]
        have hR : BrRel w2 o2 (k + 8) l (j + 1) (.slice a4 (q + 7) c4) (.slice a5 (j + 1) c5) w5 := by
          refine ⟨o5, ((m3.alloc _).trans hm4).trans (((Mod.refl _ hm4.wf).alloc _).trans hm5), ?_, ?_⟩
          · rw [hl5, hf5, hff]; exact hr45
          · rw [hww]; exact hr5
        have hR' := Lib.hid hR
        clear hR hblk hl5 hf5 hff hww
        go_roundg (n - (j + 1))
        case measure => omega
        case rel => exact ⟨j + 1, by omega, rfl, by go_num, hR'.out⟩
      · go_wp2_with (first
          | (at_builtin; refine wpList_append_row elIns rfl rfl (hwfa'.out _) rfl (hrc.alloc _) rfl (hyA'.out 7 _ rfl (by decide)) (oneAll _ rfl) (hbd'.out 7 (by decide)).1 (hbd'.out 7 (by decide)).2 ?_
             intro v4 w4 o4 hr4 hm4 hg4 _
             obtain ⟨a4, c4, rfl, _⟩ := hr4.len
             have hrw4 := row_keep hrw hrc (show (27 : TypeId) ≠ 35 by decide) hg4 hm4.own)
          | (at_builtin; refine wpList_append_row elCell rfl rfl ((Mod.refl (fun _ => False) hm4.wf).alloc _).wf rfl (hrw4.alloc _) rfl (rdNew (n := 1) (B := w4.heap.size) rfl rfl (by decide) hm4.wf) (oneAll _ rfl) hbw'.out.1 hbw'.out.2 ?_
             intro v5 w5 o5 hr5 hm5 hg5 _
             obtain ⟨a5, c5, rfl, _⟩ := hr5.len
             have hr45 := row_keep hr4 hrw4 (show (35 : TypeId) ≠ 27 by decide) hg5 hm5.own))
        have hblk : (brBlk j q x).length = 7 := by unfold brBlk; rw [if_neg hpar'.out]; rfl
        have hl5 : (brCode l (j + 1)).length = q + 7 := by rw [hcl'.out, hblk]
        have hf5 : (brCode l (j + 1)).flatMap In1.cells = CC ++ (brBlk j q x).flatMap In1.cells := hc1'.out
        have hff : (brBlk j q x).flatMap In1.cells = [.int .u8 1, .int .i64 0, .int .i64 x, .int .u8 1, .int .i64 0, .int .i64 0, .int .u8 10, .int .i64 ((q : Int) + 5), .int .i64 0, .int .u8 1, .int .i64 0, .int .i64 9, .int .u8 3, .int .i64 ((q : Int) + 7), .int .i64 0, .int .u8 11, .int .i64 0, .int .i64 0, .int .u8 1, .int .i64 0, .int .i64 7] := by unfold brBlk; rw [if_neg hpar'.out]; rfl
        have hww : (brWant l (j + 1)).map cv = WW ++ [cv 7] := by rw [hw1'.out, if_neg hz'.out]
        have hR : BrRel w2 o2 (k + 8) l (j + 1) (.slice a4 (q + 7) c4) (.slice a5 (j + 1) c5) w5 := by
          refine ⟨o5, ((m3.alloc _).trans hm4).trans (((Mod.refl _ hm4.wf).alloc _).trans hm5), ?_, ?_⟩
          · rw [hl5, hf5, hff]; exact hr45
          · rw [hww]; exact hr5
        have hR' := Lib.hid hR
        clear hR hblk hl5 hf5 hff hww
        go_roundg (n - (j + 1))
        case measure => omega
        case rel => exact ⟨j + 1, by omega, rfl, by go_num, hR'.out⟩
    · have hjn : j = n := by omega
      subst hjn
      have hdl : (brDef l j).length = (brCode l j).length + 1 := by simp [brDef]
      have hdf : (brDef l j).flatMap In1.cells = (brCode l j).flatMap In1.cells ++ [.int .u8 15, .int .i64 0, .int .i64 0] := by unfold brDef; rw [List.flatMap_append]; rfl
      have hq := brCode_length l j
      have hpl := brDef_plain l j builtW.length hn20
      have hwl : (brWant l j).length = j := brWant_length l j
      have hbd : (brCode l j).length + 1 ≤ maxLen ∧ ((brCode l j).length + 1) * 24 ≤ 140737488355328 := by unfold maxLen; omega
      have hH := Lib.hid (And.intro hpl (And.intro hwl (And.intro hbd hdf)))
      have hdl' := Lib.hid hdl
      have hhk := Lib.hid hk
      have hho := Lib.hid hob
      clear hdl hdf hpl hwl hbd hlt hj hk hob
      have hwfa : ∀ x1 : Obj, Wf (wr.alloc x1) o3 := fun x1 => ((Mod.refl (fun _ => False) m3.wf).alloc x1).wf
      have hwfa' := Lib.hid hwfa
      clear hwfa
      go_wp2_with (at_builtin; refine wpList_append_row elIns rfl rfl (hwfa'.out _) rfl (hrc.alloc _) rfl (rdNew (n := 1) (B := wr.heap.size) rfl rfl (by decide) m3.wf) (oneAll _ rfl) hH.out.2.2.1.1 hH.out.2.2.1.2 ?_
                   intro v4 w4 o4 hr4 hm4 hg4 _
                   obtain ⟨a4, c4, rfl, _⟩ := hr4.len
                   have hrw4 := row_keep hrw hrc (show (27 : TypeId) ≠ 35 by decide) hg4 hm4.own)
      clear hmin hcm hac z1 z2 hnN
      obtain ⟨hpl, hwl, _, hdf⟩ := hH.out
      have hdl := hdl'.out
      rw [← hdl, ← hdf] at hr4
      rw [← hdl]
      obtain ⟨ab, abc, habv, hab, habc⟩ := row_at0 hr4 (by omega)
      obtain ⟨rfl, rfl⟩ : a4 = some ⟨ab, 0, none⟩ ∧ c4 = abc := by cases habv; exact ⟨rfl, rfl⟩
      have hoab : o4 ab = k + 8 := hr4.2 ab rfl
      have hm4a := ((m3.alloc _).trans hm4)
      have he4 := he2.kept hm4a (fun x hx h0 => by subst h0; have := hx.2; omega)
      have hE4 := hE2.kept hm4a (by omega)
      have hdef := e_Define w4 o4 k h _ he4 hm4.wf ab c4 (brDef l j) hpl hab (by rw [hoab]; rintro ⟨h1, h2⟩; omega) habc (by decide) (by decide)
      have hmT := (hm2.out.mono (T' := fun x => k < x) (fun _ h => h.elim)).trans (hm4a.mono (T' := fun x => k < x) (fun x hx => by omega))
      obtain ⟨DD, hDD⟩ : ∃ DD, DD = brDef l j := ⟨_, rfl⟩
      rw [← hDD] at hdef ⊢
      have hDD' := Lib.hid hDD
      have hdef' := Lib.hid hdef
      have hww := Lib.hid hwl
      have hmT' := Lib.hid hmT
      clear hdef hDD habv hab habc hoab hm4a hH hdl' hdl hdf hpl hwl hr4 hmT he4 hm12 m3 hrc hrw hm4 hg4 hwfa'
      go_wp2_with fail
      refine hdef'.out.mono ?_
      rintro e w5 ⟨rfl, o5, m5, he5⟩
      have he5' : EngAt w5 o5 k h ⟨⟨encI DD, [((encI DD).length : Int)], builtW, 0, 0, 0⟩, [], st0 1024, inp0⟩ := he5
      have hE5 := hE4.inE m5
      have hrw5 := hrw4.kept m5 (by rintro ⟨h1, h2⟩; omega)
      have hadd := e_Add w5 o5 k h _ he5' m5.wf hE5 ⟨5, 1, 0⟩ (.inr (.inl ⟨rfl, by decide, by simp⟩)) (by show builtW.length < 600; rw [builtW_length]; decide)
      have hadd2 : Calls Tryz.prog 9 #[gp h, .agg #[.int .i64 5, .int .i64 1, .int .i64 0]] w5 (fun e w' => e = .returned (.tuple #[.int .i64 181, .int .i64 0]) ∧ ∃ o', Mod (InE k) w5 o5 w' o' ∧ EngAt w' o' k h ⟨⟨encI DD, [((encI DD).length : Int)], builtW ++ [⟨5, 1, 0⟩], 0, 0, 0⟩, [], st0 1024, inp0⟩) := by
        refine hadd.mono ?_
        have e1 : (⟨⟨encI DD, [((encI DD).length : Int)], builtW, 0, 0, 0⟩, [], st0 1024, inp0⟩ : Eng).c.words.length = 180 := builtW_length
        rw [e1]
        exact fun _ _ h => h
      have hadd' := Lib.hid hadd2
      clear hadd hadd2 he5 he5'
      go_wp2_with fail
      refine hadd'.out.mono ?_
      rintro e w6 ⟨rfl, o6, m6, he6⟩
      have hE6 := hE5.inE m6
      have hrw6 := hrw5.kept m6 (by rintro ⟨h1, h2⟩; omega)
      have hwl1 : (builtW ++ [(⟨5, 1, 0⟩ : Wd)]).length = 181 := by rw [List.length_append, builtW_length]; rfl
      have hwg : (builtW ++ [(⟨5, 1, 0⟩ : Wd)])[180]? = some ⟨5, 1, 0⟩ := by rw [List.getElem?_append_right (by rw [builtW_length]; omega), builtW_length]; rfl
      have hx : Calls Tryz.prog 12 #[gp h, .int .i64 181] w6 fun e w' => e = .returned (.int .i64 0) ∧ Mod (InE k) w6 o6 w' o6 ∧ EngAt w' o6 k h ⟨⟨encI DD, [((encI DD).length : Int)], builtW ++ [⟨5, 1, 0⟩], 0, 0, ((180 : Nat) : Int) + 1⟩, [], st0 1024, inp0⟩ :=
        e_Exec_yes w6 o6 k h _ he6 m6.wf 180 (by show 180 < (builtW ++ [(⟨5, 1, 0⟩ : Wd)]).length; rw [hwl1]; decide)
      have hx' := Lib.hid hx
      have hwg' := Lib.hid hwg
      clear hx hwg hwl1 he6
      go_wp2_with fail
      refine hx'.out.mono ?_
      rintro e w7 ⟨rfl, m7, he7⟩
      have hE7 := hE6.inE m7
      have hrw7 := hrw6.kept m7 (by rintro ⟨h1, h2⟩; omega)
      rw [hDD'.out] at he7
      obtain ⟨q, hq103, E2, hgo, hst, hstk, _⟩ := br_run (k := k) (h := h) (E := ⟨⟨encI (brDef l j), [((encI (brDef l j)).length : Int)], builtW ++ [⟨5, 1, 0⟩], 0, 0, ((180 : Nat) : Int) + 1⟩, [], st0 1024, inp0⟩) l j hn20 180 0 rfl rfl rfl hwg'.out rfl rfl rfl rfl
      have hrun : Calls Tryz.prog 13 #[gp h, .int .i64 300] w7 fun e w' => e = .returned (.agg #[.int .i64 5, .int .i64 0, .int .i64 0]) ∧ ∃ o', Mod (InE k) w7 o6 w' o' ∧ EngAt w' o' k h E2 :=
        law_run w7 o6 m7.wf hE7 k h _ E2 E2 he7 q 300 hgo 5 0 0 hst (by decide) (by omega) (by decide)
      have hrun' := Lib.hid hrun
      have hstk' := Lib.hid hstk
      have hall := Lib.hid (((hmT'.out.trans (m5.mono (T' := fun x => k < x) (fun x hx => hx.1))).trans (m6.mono (T' := fun x => k < x) (fun x hx => hx.1))).trans (m7.mono (T' := fun x => k < x) (fun x hx => hx.1)))
      clear hgo hst hstk hrun hq103 he7 m5 m6
      go_wp2_with fail
      refine hrun'.out.mono ?_
      rintro e w8 ⟨rfl, o8, m8, he8⟩
      have hrw8 := hrw7.kept m8 (by rintro ⟨h1, h2⟩; omega)
      go_wp2_with (first
        | (go_at_call 15; refine (e_State w8 o8 k h _ he8).mono ?_; rintro e w' ⟨rfl, rfl⟩)
        | (go_at_call 16; refine (p_Stack w8 o8 k h _ he8).mono ?_; rintro e w' ⟨rfl, rfl⟩)
        | (go_at_call 17; refine (stack_All_row w8 o8 (k + 1) h.sp _ he8.2.2.1.1 m8.wf 0).mono ?_
           rw [hstk'.out]
           rintro e w9 ⟨v9, o9, rfl, m9, hr9⟩
           have hrw9 := hrw8.kept m9 (fun h => h))
        | (go_at_call 14; refine (ref_Same _ o9 m9.wf v9 _ 0 (k + 8) (brWant l j) (by rw [hww.out]; omega) (by exact hr9) (by rw [hww.out]; exact hrw9)).mono ?_
           rintro e w10 ⟨rfl, m10⟩))
      go_ret
      have hfin := ((hall.out.trans (m8.mono (T' := fun x => k < x) (fun x hx => hx.1))).trans (m9.mono (T' := fun x => k < x) (fun _ h => h.elim))).trans (m10.mono (T' := fun x => k < x) (fun _ h => h.elim))
      exact ⟨rfl, o9, hm1.out.trans (mod_fresh hhk.out hfin (fun _ h => h))⟩
end Go.Proofs.YtjcaidbkbdkpeaaGreatDoor
