/- The stack of cells: what each of its calls does. -/
import Derived.Test.YtjcaidbkbdkpeaaGreatDoorProg
import Derived.Test.YtjcaidbkbdkpeaaGreatDoorBase
namespace Go.Proofs.YtjcaidbkbdkpeaaGreatDoor
open Go Go.RowKit Go.Rh

abbrev cv (x : Int) : Value := .int .i64 x

theorem elCell : El Tryz.prog 22 27 1 8 := El.mk' (z := .int .i64 0) Tryz.underlying22 (by kernel_rfl) rfl (by decide)

theorem eqNilCells (w : World) (a : Option Addr) (n c : Nat) : (binOp .eql 22 (.slice a n c) (.slice none 0 0)).run Tryz.prog w = .ok (.bool a.isNone) w :=
  Lib.run_eql_slice_nil w _ _ a n c 0 0 Tryz.underlying22
attribute [go_sem] eqNilCells

/-- The stack object at block p, of owner t, has the cells L. -/
def StackAt (w : World) (o : Owner) (t : Nat) (p : Nat) (L : List Int) : Prop :=
  t ≠ 0 ∧ o p = t ∧ L.length ≤ 128 ∧ ∃ v, Blk w p [v] 91 ∧ Row w o t 27 1 v L.length (L.map cv)

theorem StackAt.to {w w1 : World} {o o1 : Owner} {t p : Nat} {L : List Int} (h : StackAt w o t p L) (m : KeptAt t w o w1 o1) : StackAt w1 o1 t p L := by
  obtain ⟨h0, h1, h2, v, hb, hr⟩ := h
  exact ⟨h0, (m p hb.lt h1).2.trans h1, h2, v, hb.to (m p hb.lt h1).1, hr.to (fun k hk hlt => m k hlt (hr.2 k hk))⟩

theorem StackAt.kept {T : Nat → Prop} {w w1 : World} {o o1 : Owner} {t p : Nat} {L : List Int} (h : StackAt w o t p L) (m : Mod T w o w1 o1) (hT : ¬ T t) : StackAt w1 o1 t p L := h.to (m.keptAt hT)

set_option maxHeartbeats 400000 in
set_option maxRecDepth 100000 in
theorem stack_Depth (w : World) (o : Owner) (t p : Nat) (L : List Int) (hs : StackAt w o t p L) :
    Calls Tryz.prog 31 #[.pointer (some ⟨p, 0, none⟩)] w fun e w' => e = .returned (.int .i64 L.length) ∧ w = w' := by
  obtain ⟨_, _, _, v, hb, hr⟩ := hs
  obtain ⟨a, c, rfl, hcap⟩ := hr.len
  have c0 := hb.c 0 _ rfl
  clear hb hr
  go_enter Tryz.func31, Tryz.ntmps31
  go_wp2
  go_ret
  exact ⟨rfl, rfl⟩

def putS (L ys : List Int) : List Int × Int := if L.length + ys.length ≤ 128 then (L ++ ys, 0) else (L, -3)

set_option maxHeartbeats 400000 in
set_option maxRecDepth 100000 in
theorem stack_Put (w : World) (o : Owner) (t p : Nat) (L : List Int) (hs : StackAt w o t p L) (hwf : Wf w o) (y : Value) (ys : List Int) (t2 : Nat) (hy : Rd w o t2 1 y ys.length (ys.map cv)) :
    Calls Tryz.prog 23 #[.pointer (some ⟨p, 0, none⟩), y] w fun e w' => e = .returned (.int .i64 (putS L ys).2) ∧ ∃ o', Mod (· = t) w o w' o' ∧ StackAt w' o' t p (putS L ys).1 := by
  have hs0 := hs
  obtain ⟨h0, h1, h2, v, hb, hr⟩ := hs
  obtain ⟨a, c, rfl, hcap⟩ := hr.len
  obtain ⟨a2, c2, rfl, hm⟩ := hy.len
  have c0 := hb.c 0 _ rfl
  have f0 := hb.frozen
  unfold maxLen at hm
  by_cases hfit : L.length + ys.length ≤ 128
  · have hfit' : ¬ (128 - (L.length : Int) < (ys.length : Int)) := by omega
    go_enter Tryz.func23, Tryz.ntmps23
    go_wp2_with (at_builtin; refine wpList_append_row elCell rfl rfl hwf rfl hr rfl hy ?c1 ?c2 ?c3 ?_)
    case c1 => first | exact one_map _ (fun _ => rfl) _ | (intros; rfl)
    case c2 => unfold maxLen; omega
    case c3 => omega
    intro v' w1 o1 hr1 hm1 hg1 hloc
    obtain ⟨a', c', rfl, hcap'⟩ := hr1.len
    have hb1 := hb.grown hg1 (hr.ne hb (by decide))
    have hne := hr1.ne hb1 (by decide)
    have c0 := hb1.c 0 _ rfl
    have f0 := hb1.frozen
    go_wp2
    go_ret
    refine ⟨by simp [putS, hfit], o1, hm1.setCell _ _ (fun _ => h1), h0, (hm1.own p hb.lt).trans h1, by simp [putS, hfit], _, hb1.set 0 _, ?_⟩
    simp only [putS, if_pos hfit, List.length_append, List.map_append]
    exact hr1.other _ _ hne
  · have hfit' : 128 - (L.length : Int) < (ys.length : Int) := by omega
    go_enter Tryz.func23, Tryz.ntmps23
    go_wp2
    go_ret
    exact ⟨by simp [putS, hfit], o, Mod.refl _ hwf, by simpa [putS, hfit] using hs0⟩

set_option maxHeartbeats 400000 in
set_option maxRecDepth 100000 in
theorem clone_cells (w : World) (o : Owner) (hwf : Wf w o) (v : Value) (n : Nat) (xs : List Int) (t : Nat) (hv : Rd w o t 1 v n (xs.map cv)) (hn : n ≤ 100000) (t' : Nat) :
    Calls Tryz.prog 39 #[v] w fun e w' => ∃ v' o', e = .returned v' ∧ Row w' o' t' 27 1 v' n (xs.map cv) ∧ Mod (fun _ => False) w o w' o' ∧ ∀ k, v'.ownBlock = some k → w.heap.size ≤ k := by
  have hv0 := hv
  rcases hv.2 with ⟨rfl, rfl⟩ | ⟨a, c, rfl, hr⟩
  · have : xs = [] := by have := hv.1; simpa using this
    subst this
    go_enter Tryz.func39, Tryz.ntmps39
    go_wp2
    go_ret
    exact ⟨_, o, rfl, Row.nil _ _ _ _ _, Mod.refl _ hwf, by simp [Value.ownBlock]⟩
  · clear hr
    have hm := (Mod.refl (fun _ => False) hwf).allocTo (.cells #[] 27) t'
    have hrow := Row.empty w o t' 27 1
    have hv1 := hv.alloc (.cells #[] 27)
    go_enter Tryz.func39, Tryz.ntmps39
    go_wp2_with (at_builtin; refine wpList_append_row elCell rfl rfl hm.wf rfl hrow rfl hv1 ?c1 ?c2 ?c3 ?_)
    case c1 => first | exact one_map _ (fun _ => rfl) _ | (intros; rfl)
    case c2 => unfold maxLen; omega
    case c3 => omega
    intro v' w1 o1 hr1 hm1 hg1 hloc
    obtain ⟨a', c', rfl, hcap'⟩ := hr1.len
    go_wp2
    go_ret
    refine ⟨_, o1, rfl, by simpa using hr1, hm.grown hg1 (fun k hk hlt => ?_) hm1.wf hm1.own, fun k hk => ?_⟩
    · simp [Value.ownBlock] at hk
      omega
    · replace hk : (Value.slice a' n c').ownBlock = some k := hk
      rw [hk] at hloc
      simp [Value.ownBlock] at hloc
      omega

def takeS (L : List Int) (n : Int) : List Int × List Int × Int :=
  if n < 0 then ([], L, 1) else if (L.length : Int) < n then ([], L, -4) else (L.drop (L.length - n.toNat), L.take (L.length - n.toNat), 0)

set_option maxHeartbeats 400000 in
theorem stack_Take (w : World) (o : Owner) (t p : Nat) (L : List Int) (hs : StackAt w o t p L) (hwf : Wf w o) (n : Int) (hn : n ≤ 100000) (hn0 : -100000 ≤ n) :
    Calls Tryz.prog 95 #[.pointer (some ⟨p, 0, none⟩), .int .i64 n] w fun e w' => ∃ v o', e = .returned (.tuple #[v, .int .i64 (takeS L n).2.2]) ∧ Mod (· = t) w o w' o' ∧ StackAt w' o' t p (takeS L n).2.1 ∧
      Rd w' o' 0 1 v (takeS L n).1.length ((takeS L n).1.map cv) := by
  have hs0 := hs
  obtain ⟨h0, h1, h2, v, hb, hr⟩ := hs
  obtain ⟨a, c, rfl, hcap⟩ := hr.len
  have c0 := hb.c 0 _ rfl
  have f0 := hb.frozen
  by_cases hneg : n < 0
  · go_enter Tryz.func95, Tryz.ntmps95
    go_wp2_with (go_at_call 31; refine (stack_Depth _ o t p L hs0).mono ?_; rintro e w' ⟨rfl, rfl⟩)
    go_ret2
    simp only [takeS, if_pos hneg]
    exact ⟨_, o, rfl, Mod.refl _ hwf, hs0, Rd.nil _ _ _ _⟩
  · by_cases hund : (L.length : Int) < n
    · go_enter Tryz.func95, Tryz.ntmps95
      go_wp2_with (go_at_call 31; refine (stack_Depth _ o t p L hs0).mono ?_; rintro e w' ⟨rfl, rfl⟩)
      go_ret2
      simp only [takeS, if_neg (Int.not_lt.2 hneg), if_pos hund]
      exact ⟨_, o, rfl, Mod.refl _ hwf, hs0, Rd.nil _ _ _ _⟩
    · obtain ⟨k, rfl⟩ := Int.eq_ofNat_of_zero_le (show 0 ≤ n by omega)
      go_enter Tryz.func95, Tryz.ntmps95
      have hsub := hr.rd.sub rfl (L.length - k) L.length (by omega) (Nat.le_refl _)
      rw [Nat.mul_one, Nat.mul_one, List.take_of_length_le (by simp), ← List.map_drop] at hsub
      go_wp2_with (go_at_call 31; refine (stack_Depth _ o t p L hs0).mono ?_; rintro e w' ⟨rfl, rfl⟩)
      refine (clone_cells w o hwf _ _ _ t hsub (by omega) 0).mono ?_
      rintro e w1 ⟨v', o1, rfl, hr1, hm1, hfr⟩
      have hb1 := hb.kept hm1 (by simp)
      have hr2 := hr.kept hm1 (by simp)
      obtain ⟨a', c', rfl, hcap'⟩ := hr1.len
      have c0 := hb1.c 0 _ rfl
      have f0 := hb1.frozen
      go_wp2
      go_ret2
      have hb2 := hb1.set 0 (.slice a (L.length - k) c)
      have hne := hr2.ne hb1 (by decide)
      have hk' : ¬ ((L.length : Int) < k) := by omega
      simp only [takeS, if_neg (Int.not_lt.2 hneg), if_neg hk', Int.toNat_natCast]
      refine ⟨_, o1, rfl, (hm1.mono (fun _ h => h.elim)).setCell _ _ (fun _ => h1), ⟨h0, (hm1.own p hb.lt).trans h1, by simp; omega, _, hb2, ?_⟩, ?_⟩
      · have := (hr2.cut rfl (L.length - k) (by omega)).other ⟨p, 0, none⟩ (.slice a (L.length - k) c) (fun b hb' => hne b (by cases a <;> exact hb'))
        simpa [List.map_take, Nat.min_eq_left (Nat.sub_le _ _)] using this
      · have := (hr1.other ⟨p, 0, none⟩ (.slice a (L.length - k) c) (hr1.ne hb1 (by decide))).rd
        simpa using this

set_option maxHeartbeats 400000 in
theorem stack_New (w : World) (o : Owner) (hwf : Wf w o) (t : Nat) (ht : t ≠ 0) :
    Calls Tryz.prog 49 #[] w fun e w' => ∃ p o', e = .returned (.pointer (some ⟨p, 0, none⟩)) ∧ Mod (fun _ => False) w o w' o' ∧ StackAt w' o' t p [] := by
  go_enter Tryz.func49, Tryz.ntmps49
  go_wp2
  go_ret
  exact ⟨_, _, rfl, (Mod.refl _ hwf).allocTo _ t, ht, Owner.put_same _ _ _, by simp, _, Blk.new w [.slice none 0 0] _, Row.nil _ _ _ _ _⟩

set_option maxHeartbeats 400000 in
theorem stack_Push (w : World) (o : Owner) (t p : Nat) (L : List Int) (hs : StackAt w o t p L) (hwf : Wf w o) (x : Int) :
    Calls Tryz.prog 28 #[.pointer (some ⟨p, 0, none⟩), .int .i64 x] w fun e w' => e = .returned (.int .i64 (putS L [x]).2) ∧ ∃ o', Mod (· = t) w o w' o' ∧ StackAt w' o' t p (putS L [x]).1 := by
  have hm := (Mod.refl (· = t) hwf).alloc (.cells #[cv x] 27)
  have hs1 := hs.kept ((Mod.refl (fun _ => False) hwf).alloc (.cells #[cv x] 27)) (fun h => h)
  have hy := Rd.new (size := 1) w o [cv x] 27 1 rfl (by decide) hwf
  go_enter Tryz.func28, Tryz.ntmps28
  go_wp2_with fail
  refine (stack_Put _ o t p L hs1 hm.wf _ [x] 0 hy).mono ?_
  rintro e w1 ⟨rfl, o1, hm1, hs2⟩
  go_wp2
  go_ret
  exact ⟨rfl, o1, hm.trans hm1, hs2⟩

set_option maxHeartbeats 400000 in
theorem stack_All (w : World) (o : Owner) (t p : Nat) (L : List Int) (hs : StackAt w o t p L) (hwf : Wf w o) :
    Calls Tryz.prog 17 #[.pointer (some ⟨p, 0, none⟩)] w fun e w' => ∃ v o', e = .returned v ∧ Mod (fun _ => False) w o w' o' ∧ Rd w' o' 0 1 v L.length (L.map cv) := by
  obtain ⟨h0, h1, h2, v, hb, hr⟩ := hs
  obtain ⟨a, c, rfl, hcap⟩ := hr.len
  have c0 := hb.c 0 _ rfl
  go_enter Tryz.func17, Tryz.ntmps17
  go_wp2_with fail
  refine (clone_cells w o hwf _ _ L t hr.rd (by omega) 0).mono ?_
  rintro e w1 ⟨v', o1, rfl, hr1, hm1, hfr⟩
  go_wp2
  go_ret
  exact ⟨_, o1, rfl, hm1, hr1.rd⟩

set_option maxHeartbeats 400000 in
theorem takeS_snoc (L : List Int) (x : Int) : takeS (L ++ [x]) 1 = ([x], L, 0) := by
  have h1 : ¬ (((L ++ [x]).length : Int) < 1) := by simp; omega
  unfold takeS
  rw [if_neg (by decide), if_neg h1]
  simp

/-- A slice of one element, known. -/
theorem Rd.one {w : World} {o : Owner} {t : Nat} {v x : Value} (h : Rd w o t 1 v 1 [x]) : ∃ a c, v = .slice (some a) 1 c ∧ w.cell? a = some x := by
  rcases h.2 with ⟨h1, h2⟩ | ⟨a', c', h1, h2, h3, h4, h5⟩
  · simp at h2
  · exact ⟨a', c', h1, by simpa [Addr.add] using h5 0 x rfl⟩

set_option maxHeartbeats 400000 in
theorem stack_Pop (w : World) (o : Owner) (t p : Nat) (L : List Int) (hs : StackAt w o t p L) (hwf : Wf w o) :
    Calls Tryz.prog 66 #[.pointer (some ⟨p, 0, none⟩)] w fun e w' => e = .returned (.tuple #[.int .i64 (L.getLast?.getD 0), .int .i64 (takeS L 1).2.2]) ∧ ∃ o', Mod (· = t) w o w' o' ∧ StackAt w' o' t p (takeS L 1).2.1 := by
  rcases List.eq_nil_or_concat L with rfl | ⟨L', x, rfl⟩
  · go_enter Tryz.func66, Tryz.ntmps66
    go_wp2_with fail
    refine (stack_Take w o t p [] hs hwf 1 (by omega) (by omega)).mono ?_
    rintro e w1 ⟨v', o1, rfl, hm1, hs1, hr1⟩
    obtain ⟨a', c', rfl, _⟩ := hr1.len
    go_wp2
    go_ret2
    exact ⟨rfl, o1, hm1, hs1⟩
  · simp only [List.concat_eq_append] at hs ⊢
    rw [takeS_snoc, show (L' ++ [x]).getLast?.getD 0 = x by simp]
    go_enter Tryz.func66, Tryz.ntmps66
    go_wp2_with fail
    refine (stack_Take w o t p _ hs hwf 1 (by omega) (by omega)).mono ?_
    rw [takeS_snoc]
    rintro e w1 ⟨v', o1, rfl, hm1, hs1, hr1⟩
    obtain ⟨a, c, rfl, hc⟩ := Rd.one (x := cv x) hr1
    clear hr1
    go_wp2
    go_ret2
    exact ⟨rfl, o1, hm1, hs1⟩

def cutS (L : List Int) (n : Int) : List Int := (L ++ List.replicate ((min (max n 0) 128).toNat - L.length) 0).take (min (max n 0) 128).toNat

def CutLoop (w : World) (o : Owner) (t p : Nat) (L : List Int) (m k : Nat) (wr : World) : Prop :=
  ∃ j o', L.length + j ≤ max L.length m ∧ k = m - (L.length + j) ∧ Mod (· = t) w o wr o' ∧ StackAt wr o' t p (L ++ List.replicate j 0)

set_option maxHeartbeats 400000 in
theorem stack_Cut (w : World) (o : Owner) (t p : Nat) (L : List Int) (hs : StackAt w o t p L) (hwf : Wf w o) (n : Int) :
    Calls Tryz.prog 73 #[.pointer (some ⟨p, 0, none⟩), .int .i64 n] w fun e w' => e = .returned (.tuple #[]) ∧ ∃ o', Mod (· = t) w o w' o' ∧ StackAt w' o' t p (cutS L n) := by
  obtain ⟨m, hm, hm2⟩ : ∃ m : Nat, imin (imax n 0) 128 = (m : Int) ∧ m ≤ 128 := ⟨(min (max n 0) 128).toNat, by rw [imin_eq, imax_eq]; omega, by omega⟩
  have hcut : Hid (cutS L n = (L ++ List.replicate (m - L.length) 0).take m) := by
    have : (min (max n 0) 128).toNat = m := by rw [imin_eq, imax_eq] at hm; omega
    unfold Hid cutS; rw [this]
  go_enter Tryz.func73, Tryz.ntmps73
  go_wp2
  clear hm
  go_loopg [] (m - L.length) (fun k wr => CutLoop w o t p L m k wr)
  case atStart => exact ⟨0, o, by omega, by omega, Mod.refl _ hwf, by simpa using hs⟩
  case round =>
    obtain ⟨j, o1, hj, rfl, hm1, hs1⟩ := hrel
    have hs10 := hs1
    obtain ⟨h0, h1, h2, v, hb, hr⟩ := hs1
    obtain ⟨a, c, rfl, hcap⟩ := hr.len
    rw [List.length_append, List.length_replicate] at *
    have c0 := hb.c 0 _ rfl
    have f0 := hb.frozen
    by_cases hlt : L.length + j < m
    · have hb' := hb.alloc (.cells #[cv 0] 27)
      have hr' := hr.alloc (.cells #[cv 0] 27)
      have hma := hm1.alloc (.cells #[cv 0] 27)
      have hy := Rd.new (size := 1) wr o1 [cv 0] 27 1 rfl (by decide) hm1.wf
      go_wp2_with (at_builtin; refine wpList_append_row elCell rfl rfl hma.wf rfl hr' rfl hy ?c1 ?c2 ?c3 ?_)
      case c1 => first | exact one_map _ (fun _ => rfl) [0] | (intros; rfl) | (simp; done)
      case c2 => unfold maxLen; omega
      case c3 => omega
      intro v' w1 o2 hr1 hm2' hg1 _
      obtain ⟨a', c', rfl, hcap'⟩ := hr1.len
      have hb1 := hb'.grown hg1 (hr'.ne hb' (by decide))
      have hne := hr1.ne hb1 (by decide)
      have c0 := hb1.c 0 _ rfl
      have f0 := hb1.frozen
      go_wp2
      go_roundg (m - (L.length + (j + 1)))
      case measure => omega
      case rel =>
        refine ⟨j + 1, o2, by omega, rfl, (hma.trans (hm2'.mono fun _ h => h)).setCell _ _ (fun _ => ?_), h0, ?_, ?_, _, hb1.set 0 _, ?_⟩
        · exact (hm1.own p ‹_›).symm.trans h1
        · exact (hm2'.own p hb'.lt).trans h1
        · simp; omega
        · have hx := hr1.other ⟨p, 0, none⟩ (.slice a' (L.length + j + 1) c') hne
          have hl : (L ++ List.replicate (j + 1) (0 : Int)).length = L.length + j + 1 := by simp; omega
          have e : List.map cv (L ++ List.replicate (j + 1) 0) = List.map cv L ++ (List.replicate j (cv 0) ++ [cv 0]) := by simp [List.replicate_succ']
          rw [hl, e]
          simpa using hx
    · have hm3 : (m : Int) ≤ c := by omega
      go_wp2
      go_end0
      have hne := hr.ne hb (by decide)
      refine ⟨rfl, o1, hm1.setCell _ _ (fun hl => (hm1.own p hl).symm.trans h1), h0, h1, ?_, _, hb.set 0 _, ?_⟩
      · rw [hcut.out]; simp; omega
      · have hj' : j = m - L.length := by omega
        have hx := (hr.cut rfl m (by omega)).other ⟨p, 0, none⟩ (.slice a m c) (fun b hb' => hne b (by cases a <;> exact hb'))
        have hl : (cutS L n).length = m := by rw [hcut.out]; simp; omega
        rw [hl, hcut.out, ← hj', List.map_take]
        simpa using hx

end Go.Proofs.YtjcaidbkbdkpeaaGreatDoor
