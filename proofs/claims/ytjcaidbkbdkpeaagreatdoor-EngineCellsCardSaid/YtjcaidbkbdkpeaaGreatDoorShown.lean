/- The document's example. -/
import Derived.Test.YtjcaidbkbdkpeaaGreatDoorBuilt
import Derived.Test.YtjcaidbkbdkpeaaGreatDoorDef
import Derived.Test.YtjcaidbkbdkpeaaGreatDoorBr
namespace Go.Proofs.YtjcaidbkbdkpeaaGreatDoor
open Go Go.RowKit Go.Rh

/-- A block that is new, as a row that nobody owns. -/
theorem rowLit {W : World} {o : Owner} {cs : List Value} {e : TypeId} {n B size : Nat} (hs : W.heap.size = B) (hl : cs.length = n * size) (hm : n ≤ maxLen) (hwf : Wf W o) :
    Row (W.alloc (.cells cs.toArray e)) o 0 e size (.slice (some ⟨B, 0, none⟩) n n) n cs := by
  subst hs
  refine ⟨⟨hl, .inr ⟨W.heap.size, n, cs.toArray, rfl, Nat.zero_le _, heap_alloc_new W _, Nat.le_refl _, hm, by simp [hl], ?_⟩⟩, fun k hk => ?_⟩
  · rw [← hl]; simp
  · simp [Value.ownBlock] at hk; subst hk; exact hwf _ (Nat.le_refl _)

theorem statKind (w : World) (a b c : Int) : (Instr.field 42 (.agg #[.int .i64 a, .int .i64 b, .int .i64 c]) 0).run Tryz.prog w = .ok (.int .i64 a) w := by kernel_rfl
theorem statN (w : World) (a b c : Int) : (Instr.field 42 (.agg #[.int .i64 a, .int .i64 b, .int .i64 c]) 2).run Tryz.prog w = .ok (.int .i64 c) w := by kernel_rfl

def shD : List In1 := [⟨1, 0, 5⟩, ⟨15, 0, 0⟩]
theorem shD_plain (words : Nat) : PlainDef shD words := by
  refine ⟨by decide, by decide, ?_, ?_, ?_, ?_, ?_, ?_, rfl⟩
  · intro i hi; simp [shD] at hi; rcases hi with rfl | rfl <;> simp [Plain]
  · intro k i hi t ht
    match k, hi with
    | 0, hi => simp [shD] at hi; subst hi; simp [nexts] at ht; subst ht; simp [shD]
    | 1, hi => simp [shD] at hi; subst hi; simp [nexts] at ht
    | k + 2, hi => simp [shD] at hi
  · intro i hi; simp [shD] at hi; rcases hi with rfl | rfl <;> simp
  · intro i hi; simp [shD] at hi; rcases hi with rfl | rfl <;> simp
  · intro i hi; simp [shD] at hi; rcases hi with rfl | rfl <;> simp
  · intro i hi; simp [shD] at hi; rcases hi with rfl | rfl <;> simp

def shE : Eng := ⟨⟨encI shD, [((encI shD).length : Int)], [⟨5, 1, 0⟩], 0, 0, 1⟩, [], st0 1024, inp0⟩
theorem sh_run (k : Nat) (h : Hd) : ∃ E2, Goes k h 4 shE E2 ∧ StepTo k h E2 E2 5 0 0 ∧ E2.s.stack = [5] := by
  have s0 := to_colon (k := k) (h := h) (E := shE) (m := 0) (d := 0) (y := 0) rfl rfl (by decide) (by decide)
  have hB : BrAt ⟨⟨encI shD, [((encI shD).length : Int)], [⟨5, 1, 0⟩], 1, 0, 0⟩, [⟨1, 0, 0, 0, 0, []⟩], st0 1024, inp0⟩ shD := ⟨rfl, rfl, rfl, rfl, rfl⟩
  have a0 : AtI _ 0 0 1 0 5 := hB.at rfl (by omega) (by omega) (by omega) (by omega)
  have a1 : AtI _ 0 1 15 0 0 := hB.at rfl (by omega) (by omega) (by omega) (by omega)
  have s1 := to_lit (k := k) (h := h) (st := []) a0 (by decide)
  have s2 := to_exit (k := k) (h := h) (st := [5]) a1
  have s3 := to_back (k := k) (h := h) (E := ⟨⟨encI shD, [((encI shD).length : Int)], [⟨5, 1, 0⟩], 1, 0, 0⟩, [⟨1, 0, 0, 0, 0, []⟩], st0 1024, inp0⟩) (st := [5]) (Fs := []) rfl rfl
  exact ⟨_, .step s0 (.step s1 (.step s2 (.one s3))), to_halt rfl rfl rfl, rfl⟩

/-- So many steps are still to come. -/
def ShRel (w : World) (o : Owner) (k : Nat) (h : Hd) (E1 : Eng) (n : Nat) (b v : Value) (wr : World) : Prop :=
  ∃ (j : Nat) (E : Eng) (o1 : Owner), n = 4 - j ∧ j ≤ 4 ∧ b = .bool true ∧ v = .int .i64 j ∧ Goes k h (4 - j) E E1 ∧ Mod (fun x => k < x) w o wr o1 ∧ Env wr o1 ∧ EngAt wr o1 k h E

set_option maxHeartbeats 4000000 in
set_option maxRecDepth 100000 in
theorem law_shown (w : World) (o : Owner) (hwf : Wf w o) (hE : Env w o) :
    Calls Tryz.prog 7 #[] w fun e w' => e = .returned (.bool true) ∧ ∃ o', Mod (fun _ => False) w o w' o' := by
  obtain ⟨k, hk⟩ := above_owner hwf
  go_enter Tryz.func7, Tryz.ntmps7
  go_wp2_with fail
  refine (law_made w o hwf k).mono ?_
  rintro e w1 ⟨g, rfl, h, o1, rfl, m1, he1⟩
  have hm1 := m1.mono (T' := fun x => k < x) (fun x hx => hx.1)
  have hE1 := hE.kept hm1 (by omega)
  have hA := (Mod.refl (fun _ => False) m1.wf).alloc (.cells (shD.flatMap In1.cells).toArray 35)
  have hdef := e_Define (w1.alloc (.cells (shD.flatMap In1.cells).toArray 35)) o1 k h _ (he1.same hA) hA.wf w1.heap.size 2 shD (shD_plain _) (by simp) (by rw [m1.wf _ (Nat.le_refl _)]; rintro ⟨h1, h2⟩; omega)
    (fun j u hu => (Blk.new w1 (shD.flatMap In1.cells) 35).c j u hu) (by decide) (by decide)
  have hdef' := Lib.hid hdef
  clear hdef m1
  go_wp2_with fail
  refine hdef'.out.mono ?_
  rintro e w2 ⟨rfl, o2, m2, he2⟩
  have hE2 := (hE1.kept hA (fun h => h)).inE m2
  have hm2 := (hm1.trans (hA.mono (fun _ h => h.elim))).trans (m2.mono (T' := fun x => k < x) (fun x hx => hx.1))
  have hadd := e_Add w2 o2 k h _ he2 m2.wf hE2 ⟨5, 1, 0⟩ (.inr (.inl ⟨rfl, by decide, by decide⟩)) (by decide)
  have hadd' := Lib.hid hadd
  clear hadd
  go_wp2_with fail
  refine hadd'.out.mono ?_
  rintro e w3 ⟨rfl, o3, m3, he3⟩
  have hE3 := hE2.inE m3
  have hm3 := hm2.trans (m3.mono (T' := fun x => k < x) (fun x hx => hx.1))
  have hx := e_Exec_yes w3 o3 k h _ he3 m3.wf 0 (by decide)
  have hx' := Lib.hid hx
  clear hx
  go_wp2_with fail
  refine hx'.out.mono ?_
  rintro e w4 ⟨rfl, m4, he4⟩
  have hE4 := hE3.inE m4
  have hm4 := hm3.trans (m4.mono (T' := fun x => k < x) (fun x hx => hx.1))
  have he4' : EngAt w4 o3 k h shE := he4
  have hrun := sh_run k h
  obtain ⟨E2, hg, hs, hst⟩ := hrun
  have hst' := Lib.hid hst
  have hg' := Lib.hid hg
  have hs' := Lib.hid hs
  have hm4' := Lib.hid hm4
  clear hst hg hs hm4 hm3 hm2 hm1 m2 m3 m4 he4 he3 he2 he1 hE1 hE2 hE3
  have hsf := statKind
  go_wp2_with fail
  go_loopg [6, 38] 4 (fun n b v wr => ShRel w o k h E2 n b v wr)
  case atStart => exact ⟨0, shE, o3, rfl, by omega, rfl, rfl, hg'.out, hm4'.out, hE4, he4'⟩
  case round =>
    obtain ⟨j, E, o5, rfl, hj, rfl, rfl, hg, hm, hE5, he5⟩ := hrel
    rcases hg.cases0 with ⟨hn0, rfl⟩ | ⟨m, E3, hm3, hstep, hg3⟩
    · have hj4 : j = 4 := by omega
      subst hj4
      clear hg hn0
      have hsx : Calls Tryz.prog 20 #[gp h] wr fun e w' => e = .returned (.agg #[.int .i64 5, .int .i64 0, .int .i64 0]) ∧ ∃ o', Mod (InE k) wr o5 w' o' ∧ EngAt w' o' k h E := hs'.out wr o5 hm.wf hE5 he5
      have hsx' := Lib.hid hsx
      clear hsx
      go_wp2_with fail
      refine hsx'.out.mono ?_
      rintro e w6 ⟨rfl, o6, m6, he6⟩
      go_wp2_with (first
        | (go_at_call 15; refine (e_State w6 o6 k h _ he6).mono ?_; rintro e w' ⟨rfl, rfl⟩)
        | (go_at_call 16; refine (p_Stack w6 o6 k h _ he6).mono ?_; rintro e w' ⟨rfl, rfl⟩)
        | (go_at_call 17; refine (stack_All_row w6 o6 (k + 1) h.sp _ he6.2.2.1.1 m6.wf 0).mono ?_
           rw [hst'.out]
           rintro e w7 ⟨v7, o7, rfl, m7, hr7⟩)
        | (go_at_call 14; refine (ref_Same _ o7 (by exact ((Mod.refl (fun _ => False) m7.wf).alloc _).wf) v7 _ 0 0 [5] (by decide) (by exact hr7.alloc _) (by exact rowLit (n := 1) (B := w7.heap.size) rfl rfl (by decide) m7.wf)).mono ?_
           rintro e w8 ⟨rfl, m8⟩))
      go_ret
      have hfin := (hm.trans (m6.mono (T' := fun x => k < x) (fun x hx => hx.1))).trans (((m7.trans ((Mod.refl (fun _ => False) m7.wf).alloc _)).trans m8).mono (T' := fun x => k < x) (fun _ h => h.elim))
      exact ⟨rfl, o7, mod_fresh hk hfin (fun _ h => h)⟩
    · have hstep' : Calls Tryz.prog 20 #[gp h] wr fun e w' => e = .returned (.agg #[.int .i64 1, .int .i64 0, .int .i64 0]) ∧ ∃ o', Mod (InE k) wr o5 w' o' ∧ EngAt w' o' k h E3 := hstep wr o5 hm.wf hE5 he5
      have hx1 := Lib.hid hstep'
      have hx2 := Lib.hid hg3
      have hx3 := Lib.hid hm3
      have hjl : j < 4 := by omega
      clear hstep' hg3 hm3 hg
      go_wp2_with fail
      refine hx1.out.mono ?_
      rintro e w6 ⟨rfl, o6, m6, he6⟩
      go_wp2
      go_roundg (4 - (j + 1))
      case measure => omega
      case rel =>
        have h3 := hx3.out
        exact ⟨j + 1, E3, o6, rfl, by omega, rfl, by go_num, by rw [show 4 - (j + 1) = m by omega]; exact hx2.out, hm.trans (m6.mono (T' := fun x => k < x) (fun x hx => hx.1)), hE5.inE m6, he6⟩
end Go.Proofs.YtjcaidbkbdkpeaaGreatDoor
