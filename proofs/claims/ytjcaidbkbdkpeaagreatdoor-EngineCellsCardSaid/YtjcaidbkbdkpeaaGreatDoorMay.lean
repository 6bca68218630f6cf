/- What an instruction may be: a definition that has no loops and no locals. -/
import Derived.Test.YtjcaidbkbdkpeaaGreatDoorInsA
import Derived.Test.YtjcaidbkbdkpeaaGreatDoorIns
namespace Go.Proofs.YtjcaidbkbdkpeaaGreatDoor
open Go Go.RowKit Go.Rh

/-- A definition of such instructions: it goes on within itself. -/
structure PlainDef (d : List In1) (words : Nat) : Prop where
  pos : 0 < d.length
  le : d.length ≤ 400
  op : ∀ i ∈ d, Plain i.op
  next : ∀ (k : Nat) (i : In1), d[k]? = some i → ∀ t ∈ nexts i.op i.a k, 0 ≤ t ∧ t < d.length
  word : ∀ i ∈ d, i.op = 2 → 1 ≤ i.a ∧ i.a ≤ words
  place : ∀ i ∈ d, (i.op = 3 ∨ i.op = 4 ∨ i.op = 10) → 0 ≤ i.a ∧ i.a < d.length
  zero : ∀ i ∈ d, (i.op = 1 ∨ i.op = 11 ∨ i.op = 15) → i.a = 0
  cell : ∀ i ∈ d, i.op ≠ 1 → i.x = 0
  last : (d[d.length - 1]?.map In1.op) = some 15

theorem elStep : El Tryz.prog 148 147 2 16 := El.mk' (z := .agg #[.int .i64 0, .int .i64 0]) Tryz.underlying148 (by kernel_rfl) rfl (by decide)

theorem filter_set : ∀ (l : List Int) (i : Nat), l.getD i 0 = -1 → ((l.set i 0).filter (· = -1)).length + 1 = (l.filter (· = -1)).length
  | [], i, h => by simp at h
  | x :: l, 0, h => by
    have : x = -1 := by simpa using h
    subst this; simp
  | x :: l, i + 1, h => by
    have ih := filter_set l i (by simpa using h)
    by_cases hx : x = -1
    · simp only [List.set_cons_succ, List.filter_cons, hx, decide_true, if_true, List.length_cons]; omega
    · simp only [List.set_cons_succ, List.filter_cons, hx, decide_false]; simpa using ih

/-- An owner whom nobody has yet. -/
theorem fresh_owner {w : World} {o : Owner} (hwf : Wf w o) : ∃ g, g ≠ 0 ∧ ∀ b, o b ≠ g := by
  have h : ∀ n : Nat, ∃ m, ∀ b, b < n → o b ≤ m := by
    intro n
    induction n with
    | zero => exact ⟨0, by omega⟩
    | succ n ih =>
      obtain ⟨m, hm⟩ := ih
      refine ⟨m + o n, fun b hb => ?_⟩
      by_cases h : b = n
      · subst h; omega
      · have := hm b (by omega); omega
  obtain ⟨m, hm⟩ := h w.heap.size
  refine ⟨m + 1, by omega, fun b hb => ?_⟩
  by_cases h : b < w.heap.size
  · have := hm b h; omega
  · have := hwf b (by omega); omega

/-- New blocks are nobody's, if nobody else's were written. -/
theorem disown {w w1 : World} {o o1 : Owner} {g : Nat} (hwf : Wf w o) (m : Mod (· = g) w o w1 o1) (hg : ∀ b, o b ≠ g) : Mod (fun _ => False) w o w1 o :=
  ⟨m.os, m.tape, m.output, m.size, fun b hb => hwf b (Nat.le_trans m.size hb), fun _ _ => rfl, fun b hb _ => m.keep b hb (hg b)⟩

/-- Where there is to be gone on: each within the definition; which were gone to: -1 or 0. -/
def LoopsRel (w : World) (o : Owner) (g n B : Nat) (v5 : Value) (k : Nat) (wr : World) : Prop :=
  ∃ (ls : List Int) (todo : List Int) (o' : Owner), ls.length = n ∧ (∀ x ∈ ls, x = -1 ∨ x = 0) ∧ (∀ t ∈ todo, 0 ≤ t ∧ t < (n : Int)) ∧ todo.length ≤ 3 * n + 3 - 2 * (ls.filter (· = -1)).length ∧
    k = 3 * (ls.filter (· = -1)).length + todo.length ∧ Mod (· = g) w o wr o' ∧ Blk wr B (ls.map cv) 3 ∧ Row wr o' g 147 2 v5 todo.length (todo.flatMap stepC)

set_option maxHeartbeats 4000000 in
set_option maxRecDepth 100000 in
theorem ins_Loops (w : World) (o : Owner) (hwf : Wf w o) (ab c : Nat) (d : List In1) (words : Nat) (hd : PlainDef d words) (hab : ab < w.heap.size) (hv : ∀ j u, (d.flatMap In1.cells)[j]? = some u → w.cell? ⟨ab, j, none⟩ = some u) :
    Calls Tryz.prog 58 #[.agg #[.slice (some ⟨ab, 0, none⟩) d.length c]] w fun e w' => ∃ B, e = .returned (.tuple #[.slice (some ⟨B, 0, none⟩) d.length d.length, .bool true]) ∧ w.heap.size ≤ B ∧ Mod (fun _ => False) w o w' o ∧ ∃ ls : List Int, ls.length = d.length ∧ (∀ x ∈ ls, x = -1 ∨ x = 0) ∧ Blk w' B (ls.map cv) 3 := by
  obtain ⟨g, hg0, hg⟩ := fresh_owner hwf
  have hpos := hd.pos
  have hle := hd.le
  have hd' := Lib.hid hd
  clear hd
  obtain ⟨n, hnd⟩ : ∃ n, n = d.length := ⟨_, rfl⟩
  rw [← hnd] at hpos hle ⊢
  have hnd' := Lib.hid hnd
  clear hnd
  have hv' := Lib.hid hv
  clear hv
  have e0 : ((n : Int) = 0) = False := by simp; omega
  have hR := fun (W : World) (o1 : Owner) (hwf1 : Wf W o1) (a1 : Addr) (h1 : W.cell? a1 = some (cv (-1))) (h2 : a1.block < W.heap.size) => ones_Repeat W o1 hwf1 a1 1 n hpos (by omega) h1 h2
  have hR' := Lib.hid hR
  clear hR
  go_enter Tryz.func58, Tryz.ntmps58
  go_wp2
  go_step3
  go_wp2_with fail
  have hm1 := ((Mod.refl (fun _ => False) hwf).alloc (.cells #[.slice (some ⟨ab, 0, none⟩) n c] 39)).alloc (.cells #[.int .i64 (-1)] 3)
  refine (hR'.out _ o hm1.wf _ ?c1 ?c2).mono ?_
  case c1 =>
    have h5 := (Blk.new (w.alloc (.cells #[.slice (some ⟨ab, 0, none⟩) n c] 39)) [cv (-1)] 3).c 0 _ rfl
    rwa [World.size_alloc] at h5
  case c2 => show w.heap.size + 1 < _; simp
  rintro e w1 ⟨B, rfl, hB, hBB, hm2⟩
  have hm12 := hm1.trans hm2
  have hDef : Blk w1 w.heap.size [.slice (some ⟨ab, 0, none⟩) n c] 39 := ((Blk.new w [.slice (some ⟨ab, 0, none⟩) n c] 39).alloc _).kept hm2 (fun h => h)
  have hBlt : w.heap.size + 2 ≤ B := by simpa using hB
  go_wp2_with fail
  go_step3
  go_wp2_with fail
  have hRow0 : Row (w1.alloc (.cells #[.int .i64 0, .int .i64 0] 147)) (o.put w1.heap.size g) g 147 2 (.slice (some ⟨w1.heap.size, 0, none⟩) 1 1) 1 (stepC 0) :=
    ⟨⟨rfl, .inr ⟨w1.heap.size, 1, #[cv 0, cv 0], rfl, Nat.zero_le _, heap_alloc_new w1 _, Nat.le_refl _, by decide, rfl, rfl⟩⟩, fun k hk => by simp [Value.ownBlock] at hk; subst hk; exact Owner.put_same _ _ _⟩
  have hls0 : ((List.replicate n (-1 : Int)).filter (· = -1)).length = n := by rw [List.filter_eq_self.2 (by intro a ha; simp [List.eq_of_mem_replicate ha])]; simp
  go_loopg [5] (3 * n + 1) (fun k v wr => LoopsRel w o g n B v k wr ∧ Blk wr w.heap.size [.slice (some ⟨ab, 0, none⟩) n c] 39 ∧ w.heap.size + 2 ≤ wr.heap.size)
  case atStart =>
    refine ⟨⟨List.replicate n (-1), [0], o.put w1.heap.size g, by simp, ?_, ?_, ?_, ?_, ?_, ?_, ?_⟩, hDef.alloc _, ?_⟩
    · intro x hx; exact .inl (List.eq_of_mem_replicate hx)
    · intro t ht; simp at ht; subst ht; omega
    · rw [hls0]; simp; omega
    · rw [hls0]; simp
    · exact (hm12.mono (fun _ h => h.elim)).allocTo _ g
    · have := hBB.alloc (.cells #[.int .i64 0, .int .i64 0] 147)
      simpa using this
    · simpa using hRow0
    · have := hm2.size; simp at this ⊢; omega
  case round =>
    obtain ⟨⟨ls, todo, o1, hl1, hl2, hl3, hl4, rfl, hm, hL, hT⟩, hD, hsz⟩ := hrel
    rcases List.eq_nil_or_concat todo with rfl | ⟨ts, t0, rfl⟩
    · obtain ⟨a5, c5, rfl, _⟩ := hT.len
      clear hT hl4
      have hfin := Lib.hid (disown hwf hm hg)
      have hL' := Lib.hid hL
      clear hm hL
      go_wp2
      try rw [Exit.noGoto_ret]
      go_ret2
      exact ⟨B, rfl, by omega, hfin.out, ls, hl1, hl2, hL'.out⟩
    · simp only [List.concat_eq_append, List.length_append, List.length_cons, List.length_nil, Nat.zero_add, List.flatMap_append, List.flatMap_cons, List.flatMap_nil, List.append_nil] at hT hl3 hl4 ⊢
      obtain ⟨htl, hth⟩ := hl3 t0 (by simp)
      obtain ⟨τ, rfl⟩ := Int.eq_ofNat_of_zero_le htl
      have hτn : τ < n := by omega
      obtain ⟨a5, c5, rfl, hc5⟩ := hT.len
      obtain ⟨g5, rfl, hg5⟩ : ∃ g5, a5 = some ⟨g5, 0, none⟩ ∧ g5 < wr.heap.size := by
        rcases hT.1.2 with ⟨h1, h2⟩ | ⟨g', cap, cur, h1, _, hgg, _⟩
        · omega
        · cases h1; exact ⟨_, rfl, (Array.getElem?_eq_some_iff.1 hgg).1⟩
      have hadd : ∀ b j : Nat, (⟨b, 0, none⟩ : Addr).add j = ⟨b, j, none⟩ := by
        intro b j
        unfold Addr.add; split
        · next h0 => rw [h0]
        · simp
      have hfl : (ts.flatMap stepC).length = ts.length * 2 := flat_length stepC 2 (fun _ => rfl) ts
      have k0 := hT.cells rfl (ts.length * 2) (cv τ) (by rw [List.getElem?_append_right (by omega), hfl]; simp [stepC])
      have k1 := hT.cells rfl (ts.length * 2 + 1) (cv 0) (by rw [List.getElem?_append_right (by omega), hfl]; simp [stepC])
      rw [hadd] at k0 k1
      have kl : wr.cell? ⟨B, τ, none⟩ = some (cv (ls.getD τ 0)) := hL.c τ _ (by rw [List.getElem?_map, List.getD_eq_getElem?_getD, List.getElem?_eq_getElem (by omega)]; rfl)
      have kd := hD.c 0 _ rfl
      have kd' := (hD.alloc (.cells #[cv τ, cv 0] 147)).c 0 _ rfl
      have hLa := Lib.hid (hL.alloc (.cells #[cv τ, cv 0] 147))
      have kf : ∀ i, wr.frozen? ⟨B, i, none⟩ = false := hL.frozen
      have kl' : (wr.alloc (.cells #[cv τ, cv 0] 147)).cell? ⟨B, τ, none⟩ = some (cv (ls.getD τ 0)) := hLa.out.c τ _ (by rw [List.getElem?_map, List.getD_eq_getElem?_getD, List.getElem?_eq_getElem (by omega)]; rfl)
      have lB := hL.lt
      have n1 : wr.heap.size ≠ g5 := by omega
      have n2 : wr.heap.size ≠ B := by omega
      have n3 : wr.heap.size ≠ w.heap.size := by omega
      have hLm : ls.getD τ 0 = -1 ∨ ls.getD τ 0 = 0 := hl2 _ (by rw [List.getD_eq_getElem?_getD, List.getElem?_eq_getElem (by omega)]; exact List.getElem_mem _)
      have hcut2 : Hid (Row wr o1 g 147 2 (.slice (some ⟨g5, 0, none⟩) ts.length c5) ts.length (ts.flatMap stepC)) := by
        have h5 := hT.cut rfl ts.length (by omega)
        rwa [← hfl, List.take_left' rfl] at h5
      have hts : ∀ x ∈ ts, 0 ≤ x ∧ x < (n : Int) := fun x hx => hl3 x (by simp [hx])
      have hT' := Lib.hid hT
      have hL' := Lib.hid hL
      have hm' := Lib.hid hm
      have hl4' := Lib.hid hl4
      have hl3' := Lib.hid hts
      have y1 : IntKind.i64.wrap ((ts.length : Int) + 1 - 1) = (ts.length : Int) := by rw [Int.add_sub_cancel]; exact IntWalk.i64_in _ (by have := hl4; omega)
      have y2 : IntKind.i64.wrap (ts.length : Int) = (ts.length : Int) := IntWalk.i64_in _ (by have := hl4; omega)
      have y3 : (τ : Int) < (n : Int) := by omega
      have y4 : decide ((τ : Int) < 0) = false := decide_eq_false (by omega)
      have y5 : decide ((n : Int) ≤ (τ : Int)) = false := decide_eq_false (by omega)
      have y6 : (ts.length : Int) ≤ (c5 : Int) := by omega
      have y7 : (0 : Int) < (ts.length : Int) + 1 := by omega
      clear hT hL hm hl3 hl4 hts hadd hfl
      have y8 : (n ≤ τ) = False := by simp; omega
      rcases hLm with hz | hz
      · rw [hz] at kl kl'
        have hz' := Lib.hid hz
        clear hz
        obtain ⟨i1, hi1⟩ : ∃ i1, d[τ]? = some i1 := ⟨_, List.getElem?_eq_getElem (by have := hnd'.out; omega)⟩
        have hvv : ∀ j, j < 3 → wr.cell? ⟨ab, τ * 3 + j, none⟩ = (In1.cells i1)[j]? := by
          intro j hj
          have h1 := flat_get In1.cells 3 In1.cells_length d τ j i1 hi1 hj
          have h2 : (In1.cells i1)[j]? = some ((In1.cells i1)[j]'(by rw [In1.cells_length]; exact hj)) := List.getElem?_eq_getElem _
          rw [h2, hm'.out.cellsOf ab hab (hg ab)]
          exact hv'.out _ _ (h1.trans h2)
        have v0 : wr.cell? ⟨ab, τ * 3, none⟩ = some (.int .u8 i1.op) := hvv 0 (by omega)
        have v1 : wr.cell? ⟨ab, τ * 3 + 1, none⟩ = some (.int .i64 i1.a) := hvv 1 (by omega)
        have v2 : wr.cell? ⟨ab, τ * 3 + 2, none⟩ = some (.int .i64 i1.x) := hvv 2 (by omega)
        have n4 : wr.heap.size ≠ ab := by have := hm'.out.size; omega
        have n5 : B ≠ ab := by omega
        have n6 : ab ≠ B := by omega
        have n7 : w.heap.size ≠ B := by omega
        have n8 : B ≠ w.heap.size := by omega
        have n9 : B ≠ wr.heap.size := by omega
        have hop := hd'.out.op i1 (List.mem_of_getElem? hi1)
        have hnext := Lib.hid (hd'.out.next τ i1 hi1)
        have hi1' := Lib.hid hi1
        clear hi1 hvv
        have hop' := Lib.hid hop
        clear hop
        go_wp2_with fail
        go_quiet (fail)
        go_wp2_with fail
        obtain ⟨W, hW⟩ : ∃ W, W = (((wr.alloc (.cells #[.int .i64 τ, .int .i64 0] 147)).drewN nq).setCell ⟨B, τ, none⟩ (.int .i64 0)) := ⟨_, rfl⟩
        have hWm : Mod (· = g) w o W o1 := by rw [hW]; exact ((hm'.out.alloc _).drewN _).setNew _ _ (by show w.heap.size ≤ B; omega)
        have hWL : Blk W B ((ls.set τ 0).map cv) 3 := by rw [hW, List.map_set]; exact ((hL'.out.alloc _).set τ _)
        have hWD : Blk W w.heap.size [.slice (some ⟨ab, 0, none⟩) n c] 39 := by rw [hW]; exact (hD.alloc _).other _ _ n7
        have hneB := (hcut2.out).ne hL'.out (by decide)
        have hWR : Row W o1 g 147 2 (.slice (some ⟨g5, 0, none⟩) ts.length c5) ts.length (ts.flatMap stepC) := by rw [hW]; exact ((hcut2.out.alloc _).other _ _ hneB)
        have hWs : wr.heap.size < W.heap.size := by rw [hW]; simp
        have hWX : Blk W wr.heap.size [.int .i64 τ, .int .i64 0] 147 := by rw [hW]; exact (Blk.new wr [.int .i64 τ, .int .i64 0] 147).other _ _ (by show wr.heap.size ≠ B; omega)
        have hWv : W.cell? ⟨ab, τ * 3, none⟩ = some (.int .u8 i1.op) ∧ W.cell? ⟨ab, τ * 3 + 1, none⟩ = some (.int .i64 i1.a) ∧ W.cell? ⟨ab, τ * 3 + 2, none⟩ = some (.int .i64 i1.x) := by
          rw [hWm.cellsOf ab hab (hg ab), hWm.cellsOf ab hab (hg ab), hWm.cellsOf ab hab (hg ab), ← hm'.out.cellsOf ab hab (hg ab), ← hm'.out.cellsOf ab hab (hg ab), ← hm'.out.cellsOf ab hab (hg ab)]
          exact ⟨v0, v1, v2⟩
        rw [← hW]
        clear hW v0 v1 v2 kl kl' kd kd' k0 k1
        obtain ⟨v0, v1, v2⟩ := hWv
        obtain ⟨s0, s1, _⟩ := hWX.two
        have d0 := hWD.c 0 _ rfl
        have hst := fun W' (hwf' : Wf W' o1) => ins_steps W' o1 hwf' i1.op i1.a i1.x τ (by omega) hop'.out
        have hst' := Lib.hid hst
        clear hst
        have hnl : (nexts i1.op i1.a τ).length ≤ 2 := by unfold nexts; split <;> (try split) <;> (try split) <;> simp
        have hq1 : ts.length + (nexts i1.op i1.a τ).length ≤ 3000 := by have := hl4'.out; omega
        have hone : ∀ u ∈ (nexts i1.op i1.a τ).flatMap stepC, u.oneCell' = true := by
          intro u hu
          obtain ⟨y, _, hy⟩ := List.mem_flatMap.1 hu
          simp [stepC] at hy
          rcases hy with rfl | rfl <;> rfl
        have hid := Lib.hid (And.intro hWL (And.intro hWD hone))
        clear e0 hm1 hm2 hm12 hDef hBB hRow0 hls0 hL' hm' hcut2 hneB y1 y2 y4 y5 y6 y7 y8 n1 n2 n3 n4 n5 n6 n7 n8 n9 lB hLa kf hR' hD
        go_region_law
          ((first
            | (go_simp; go_at_call 92; refine (hst'.out _ (by exact hWm.wf)).mono ?_
               rintro e w5 ⟨v5, rfl, m5, hr5⟩
               obtain ⟨a6, c6, rfl, _⟩ := hr5.len
               have hr6 := (hWR.drew).kept m5 (fun h => h))
            | (refine guard_append rfl ?_
               refine step_append_row elStep (by rfl) (by rfl) m5.wf (by rfl) hr6 (by rfl) hr5 hone (by unfold maxLen; omega) (by omega) ?_
               intro v' w2 o2 hr4 hm4 hg4 _
               obtain ⟨a7, c7, rfl, _⟩ := hr4.len)))
        all_goals
          go_wp2
          have hF := filter_set ls τ hz'.out
          have hWm5 := (hWm.drew.trans (m5.mono (fun _ h => h.elim)))
          have hWL5 := hid.out.1.drew.kept m5 (fun h => h)
          have hWD5 := hid.out.2.1.drew.kept m5 (fun h => h)
          have hszz := m5.size
          go_roundg (3 * ((ls.set τ 0).filter (· = -1)).length + (ts ++ nexts i1.op i1.a τ).length)
          case measure => rw [List.length_concat, List.length_append]; omega
          case rel =>
            refine ⟨⟨ls.set τ 0, ts ++ nexts i1.op i1.a τ, o2, by simp [hl1], ?_, ?_, ?_, rfl, hWm5.trans hm4, ?_, ?_⟩, ?_, ?_⟩
            · intro x hx
              rcases List.mem_or_eq_of_mem_set hx with h | h
              · exact hl2 x h
              · exact .inr h
            · intro t' ht'
              rcases List.mem_append.1 ht' with h | h
              · exact hl3'.out t' h
              · have := hnext.out t' h; have := hnd'.out; omega
            · rw [List.length_append]; have := hl4'.out; omega
            · exact hWL5.grown hg4 (hr6.ne hWL5 (by decide))
            · have h8 : (ts ++ nexts i1.op i1.a τ).flatMap stepC = ts.flatMap stepC ++ (nexts i1.op i1.a τ).flatMap stepC := List.flatMap_append
              rw [h8, List.length_append]; exact hr4
            · exact hWD5.grown hg4 (hr6.ne hWD5 (by decide))
            · have := hm4.size; simp at hszz; omega
      · rw [hz] at kl kl'
        have hz' := Lib.hid hz
        clear hz
        go_wp2_with fail
        go_quiet (fail)
        go_wp2
        go_roundg (3 * (ls.filter (· = -1)).length + ts.length)
        case measure =>
          rw [List.length_concat]; omega
        case rel =>
          refine ⟨⟨ls, ts, o1, hl1, hl2, hl3'.out, by have := hl4'.out; omega, rfl, (hm'.out.drewN _).alloc _, hL'.out.alloc _, ?_⟩, hD.alloc _, ?_⟩
          · exact hcut2.out.alloc _
          · simp; omega
end Go.Proofs.YtjcaidbkbdkpeaaGreatDoor
