/- The memory: what its calls do. -/
import Derived.Test.YtjcaidbkbdkpeaaGreatDoorProg
import Derived.Test.YtjcaidbkbdkpeaaGreatDoorBase
import Derived.BigGuardPart
namespace Go.Proofs.YtjcaidbkbdkpeaaGreatDoor
open Go Go.RowKit Go.Rh

abbrev bv (x : Int) : Value := .int .u8 x

/-- The memory at block p, of owner t: these bytes, so many given out. -/
def MemAt (w : World) (o : Owner) (t p : Nat) (B : List Int) (here : Nat) : Prop :=
  t ≠ 0 ∧ o p = t ∧ 1024 ≤ B.length ∧ B.length ≤ 65536 ∧ here + 512 ≤ B.length ∧
    ∃ g, o g = t ∧ Blk w p [.slice (some ⟨g, 0, none⟩) B.length B.length, .int .i64 here] 140 ∧ Blk w g (B.map bv) 5

theorem MemAt.to {w w1 : World} {o o1 : Owner} {t p : Nat} {B : List Int} {here : Nat} (h : MemAt w o t p B here) (m : KeptAt t w o w1 o1) : MemAt w1 o1 t p B here := by
  obtain ⟨h0, h1, h2, h3, h4, g, h5, hb, hg⟩ := h
  exact ⟨h0, (m p hb.lt h1).2.trans h1, h2, h3, h4, g, (m g hg.lt h5).2.trans h5, hb.to (m p hb.lt h1).1, hg.to (m g hg.lt h5).1⟩
theorem MemAt.kept {T : Nat → Prop} {w w1 : World} {o o1 : Owner} {t p : Nat} {B : List Int} {here : Nat} (h : MemAt w o t p B here) (m : Mod T w o w1 o1) (hT : ¬ T t) : MemAt w1 o1 t p B here := h.to (m.keptAt hT)

theorem mem_ne {w : World} {p g : Nat} {cs cs' : List Value} {e e' : TypeId} (h : Blk w p cs e) (h' : Blk w g cs' e') (he : e ≠ e') : p ≠ g := by
  intro h2; subst h2; exact he (h.inj h').2

theorem made_bytes (n : Nat) : madeCells #[.int .u8 0] n = ((List.replicate n (0 : Int)).map bv).toArray := by
  apply Array.ext
  · simp [madeCells]
  · intro i h1 h2
    simp [madeCells, Nat.mod_one]

/-- So many bytes 0. -/
def zeroA (n : Nat) : Array Value := ((List.replicate n (0 : Int)).map bv).toArray

theorem infoByte : (Tryz.prog.info? 5).map (fun i => (i.zero, i.size, i.bytes)) = some (some (.int .u8 0), 1, 1) := by kernel_rfl

theorem run_makeBytes (n : Nat) (hn : n ≤ 65536) (w : World) : (Instr.makeSlice 86 (.int .i64 n) (.int .i64 n)).run Tryz.prog w = .ok (.slice (some ⟨w.heap.size, 0, none⟩) n n) (w.alloc (.cells (zeroA n) 5)) := by
  obtain ⟨i0, hi, hz0, hz1, hz2⟩ := info_parts infoByte
  have h := run_make (P := Tryz.prog) w 86 5 i0 (.int .u8 0) Tryz.underlying86 hi hz0 .i64 .i64 n n (by omega) (by omega) (by rw [hz2]; omega) (by omega)
  rw [hz1, Nat.mul_one] at h
  have e : ((n : Int)).toNat = n := by omega
  rw [e, show (Value.int IntKind.u8 0).cells = #[.int .u8 0] from rfl, made_bytes] at h
  exact h

set_option maxHeartbeats 400000 in
theorem mem_New (w : World) (o : Owner) (hwf : Wf w o) (t : Nat) (ht : t ≠ 0) (n : Nat) (h1 : 1024 ≤ n) (h2 : n ≤ 65536) (h3 : n % 8 = 0) :
    Calls Tryz.prog 47 #[.int .i64 n] w fun e w' => ∃ p, e = .returned (.tuple #[.pointer (some ⟨p, 0, none⟩), .int .i64 0]) ∧ ∃ o', Mod (fun _ => False) w o w' o' ∧ MemAt w' o' t p (List.replicate n 0) 0 := by
  have hmk := run_makeBytes n h2
  have b1 : ((n : Int) < 1024) = False := by simp; omega
  have b2 : ((65536 : Int) < (n : Int)) = False := by simp; omega
  go_enter Tryz.func47, Tryz.ntmps47
  go_wp2
  go_ret2
  have hB : Blk (w.alloc (.cells (zeroA n) 5)) w.heap.size ((List.replicate n (0 : Int)).map bv) 5 := Blk.new w ((List.replicate n (0 : Int)).map bv) 5
  have hm := ((Mod.refl (fun _ => False) hwf).allocTo (.cells (zeroA n) 5) t).allocTo (.cells #[.slice (some ⟨w.heap.size, 0, none⟩) n n, .int .i64 0] 140) t
  have hl : (List.replicate n (0 : Int)).length = n := by simp
  refine ⟨_, rfl, _, hm, ht, by simp [Owner.put], by omega, by omega, by omega, w.heap.size, ?_, ?_, hB.alloc _⟩
  · rw [Owner.put_other _ (by simp)]; exact Owner.put_same _ _ _
  · have h6 := Blk.new (w.alloc (.cells (zeroA n) 5)) [.slice (some ⟨w.heap.size, 0, none⟩) n n, .int .i64 0] 140
    rw [World.size_alloc] at h6
    rw [hl]; exact h6

set_option maxHeartbeats 400000 in
theorem mem_Size (w : World) (o : Owner) (t p : Nat) (B : List Int) (here : Nat) (hs : MemAt w o t p B here) :
    Calls Tryz.prog 242 #[.pointer (some ⟨p, 0, none⟩)] w fun e w' => e = .returned (.int .i64 B.length) ∧ w = w' := by
  obtain ⟨h0, h1, h2, h3, h4, g, h5, hb, hg⟩ := hs
  have c0 := hb.c 0 _ rfl
  clear hb hg
  go_enter Tryz.func242, Tryz.ntmps242
  go_wp2
  go_ret
  exact ⟨rfl, rfl⟩

set_option maxHeartbeats 400000 in
theorem mem_Here (w : World) (o : Owner) (t p : Nat) (B : List Int) (here : Nat) (hs : MemAt w o t p B here) :
    Calls Tryz.prog 85 #[.pointer (some ⟨p, 0, none⟩)] w fun e w' => e = .returned (.int .i64 here) ∧ w = w' := by
  obtain ⟨h0, h1, h2, h3, h4, g, h5, hb, hg⟩ := hs
  have c1 := hb.c 1 _ rfl
  clear hb hg
  go_enter Tryz.func85, Tryz.ntmps85
  go_wp2
  go_ret
  exact ⟨rfl, rfl⟩

/-- May so many bytes lie there? -/
def fitsB (B : List Int) (at_ n : Int) : Bool := decide (0 ≤ at_ ∧ at_ ≤ B.length ∧ 0 ≤ n ∧ n ≤ B.length - at_)

set_option maxHeartbeats 400000 in
theorem mem_piece_no (w : World) (o : Owner) (t p : Nat) (B : List Int) (here : Nat) (hs : MemAt w o t p B here) (at_ n : Int) (hi : -9223372036854775808 ≤ at_ ∧ at_ ≤ 9223372036854775807) (hno : fitsB B at_ n = false) :
    Calls Tryz.prog 141 #[.pointer (some ⟨p, 0, none⟩), .int .i64 at_, .int .i64 n] w fun e w' => e = .returned (.tuple #[.slice none 0 0, .int .i64 (-9)]) ∧ w = w' := by
  have hs0 := hs
  obtain ⟨h0, h1, h2, h3, h4, g, h5, hb, hg⟩ := hs
  have c0 := hb.c 0 _ rfl
  clear hb hg
  have hno' := hno
  unfold fitsB at hno'
  simp only [decide_eq_false_iff_not] at hno'
  by_cases b1 : at_ < 0
  · clear hi hno hno'
    go_enter Tryz.func141, Tryz.ntmps141
    go_wp2_with (go_at_call 242; refine (mem_Size _ o t p B here hs0).mono ?_; rintro e w' ⟨rfl, rfl⟩)
    go_ret2
    exact ⟨rfl, rfl⟩
  · by_cases b2 : (B.length : Int) < at_
    · clear hno hno'
      go_enter Tryz.func141, Tryz.ntmps141
      go_wp2_with (go_at_call 242; refine (mem_Size _ o t p B here hs0).mono ?_; rintro e w' ⟨rfl, rfl⟩)
      go_ret2
      exact ⟨rfl, rfl⟩
    · by_cases b3 : n < 0
      · clear hno hno'
        go_enter Tryz.func141, Tryz.ntmps141
        go_wp2_with (go_at_call 242; refine (mem_Size _ o t p B here hs0).mono ?_; rintro e w' ⟨rfl, rfl⟩)
        go_ret2
        exact ⟨rfl, rfl⟩
      · have b4 : (B.length : Int) - at_ < n := by omega
        clear hno hno'
        go_enter Tryz.func141, Tryz.ntmps141
        go_wp2_with (go_at_call 242; refine (mem_Size _ o t p B here hs0).mono ?_; rintro e w' ⟨rfl, rfl⟩)
        all_goals
          go_ret2
          exact ⟨rfl, rfl⟩

theorem subA_pos (g at_ n : Nat) (hn : 0 < n) : subA (some ⟨g, 0, none⟩) at_ (at_ + n) 1 = some ⟨g, at_, none⟩ := by
  unfold subA
  rw [if_neg (by omega)]
  simp [Addr.add]
  intro h; exact h.symm

set_option maxHeartbeats 400000 in
theorem mem_piece (w : World) (o : Owner) (t p : Nat) (B : List Int) (here : Nat) (hs : MemAt w o t p B here) (g : Nat) (c0 : w.cell? ⟨p, 0, none⟩ = some (.slice (some ⟨g, 0, none⟩) B.length B.length)) (at_ n : Nat) (hf : at_ + n ≤ B.length) :
    Calls Tryz.prog 141 #[.pointer (some ⟨p, 0, none⟩), .int .i64 at_, .int .i64 n] w fun e w' => e = .returned (.tuple #[.slice (subA (some ⟨g, 0, none⟩) at_ (at_ + n) 1) n n, .int .i64 0]) ∧ w = w' := by
  have h3 := hs.2.2.2.1
  have b1 : ¬ ((at_ : Int) < 0) := by omega
  have b2 : ¬ ((B.length : Int) < at_) := by omega
  have b3 : ¬ ((n : Int) < 0) := by omega
  have b4 : ¬ ((B.length : Int) - at_ < n) := by omega
  go_enter Tryz.func141, Tryz.ntmps141
  go_wp2_with (go_at_call 242; refine (mem_Size _ o t p B here hs).mono ?_; rintro e w' ⟨rfl, rfl⟩)
  go_ret2
  exact ⟨rfl, rfl⟩

/-- What a place of a cell answers: 0, or why not. -/
def cellE (B : List Int) (at_ : Int) : Int := if fitsB B at_ 8 then (if at_.tmod 8 = 0 then 0 else -23) else -9

set_option maxHeartbeats 400000 in
theorem mem_cell (w : World) (o : Owner) (t p : Nat) (B : List Int) (here : Nat) (hs : MemAt w o t p B here) (g : Nat) (c0 : w.cell? ⟨p, 0, none⟩ = some (.slice (some ⟨g, 0, none⟩) B.length B.length)) (at_ : Nat) (hf : at_ + 8 ≤ B.length) (h8 : at_ % 8 = 0) :
    Calls Tryz.prog 115 #[.pointer (some ⟨p, 0, none⟩), .int .i64 at_] w fun e w' => e = .returned (.tuple #[.slice (some ⟨g, at_, none⟩) 8 8, .int .i64 0]) ∧ w = w' := by
  have h3 := hs.2.2.2.1
  have b1 : ((at_ : Int) % 8 != 0) = false := by simp; omega
  go_enter Tryz.func115, Tryz.ntmps115
  go_wp2_with (go_at_call 141; refine (mem_piece _ o t p B here hs g c0 at_ 8 hf).mono ?_; rw [subA_pos g at_ 8 (by omega)]; rintro e w' ⟨rfl, rfl⟩)
  go_ret2
  exact ⟨rfl, rfl⟩

/-- The bytes of a cell, the low one first. -/
def byteN (x : Int) (i : Nat) : Int := (x / 2 ^ (8 * i)) % 256
def bytes8 (x : Int) : List Int := (List.range 8).map (byteN x)
/-- The memory with a cell put there. -/
def putB (B : List Int) (at_ : Nat) (x : Int) : List Int := B.take at_ ++ bytes8 x ++ B.drop (at_ + 8)

theorem bytes8_length (x : Int) : (bytes8 x).length = 8 := rfl

/-- One byte more is written. -/
theorem put_step {α : Type} (B l : List α) (a k : Nat) (y : α) (h1 : a + k < B.length) (h2 : l[k]? = some y) :
    (B.take a ++ l.take k ++ B.drop (a + k)).set (a + k) y = B.take a ++ l.take (k + 1) ++ B.drop (a + (k + 1)) := by
  have hk : k < l.length := (List.getElem?_eq_some_iff.1 h2).1
  have e1 : (B.take a ++ l.take k).length = a + k := by simp; omega
  rw [List.set_append_right _ _ (by omega), e1, Nat.sub_self, List.drop_eq_getElem_cons h1, List.set_cons_zero]
  have e2 : l.take (k + 1) = l.take k ++ [y] := by
    rw [List.take_add_one, h2]; rfl
  rw [e2, ← Nat.add_assoc]
  simp

theorem put_get {α : Type} (B l : List α) (a k : Nat) (h1 : a + k < B.length) (hk : k ≤ l.length) : (B.take a ++ l.take k ++ B.drop (a + k))[a + k]? = B[a + k]? := by
  have e1 : (B.take a ++ l.take k).length = a + k := by simp; omega
  rw [List.getElem?_append_right (by omega), e1, Nat.sub_self, List.getElem?_drop, Nat.add_zero]

def PutLoop (w : World) (o : Owner) (t p g : Nat) (B : List Int) (here : Nat) (at_ : Nat) (x : Int) (k : Nat) (wr : World) : Prop :=
  Mod (· = t) w o wr o ∧ Blk wr p [.slice (some ⟨g, 0, none⟩) B.length B.length, .int .i64 here] 140 ∧ Blk wr g ((B.take at_ ++ (bytes8 x).take k ++ B.drop (at_ + k)).map bv) 5

set_option maxHeartbeats 400000 in
theorem mem_Put (w : World) (o : Owner) (t p : Nat) (B : List Int) (here : Nat) (hs : MemAt w o t p B here) (hwf : Wf w o) (at_ : Nat) (hf : at_ + 8 ≤ B.length) (h8 : at_ % 8 = 0) (x : Int) :
    Calls Tryz.prog 87 #[.pointer (some ⟨p, 0, none⟩), .int .i64 at_, .int .i64 x] w fun e w' => e = .returned (.int .i64 0) ∧ Mod (· = t) w o w' o ∧ MemAt w' o t p (putB B at_ x) here := by
  have hs0 := hs
  obtain ⟨h0, h1, h2, h3, h4, g, h5, hb, hg⟩ := hs
  have c0 := hb.c 0 _ rfl
  have hglt := hg.lt
  have hG := Lib.hid hg; clear hg
  have hb' := Lib.hid hb; clear hb
  go_enter Tryz.func87, Tryz.ntmps87
  go_wp2_with (go_at_call 115; refine (mem_cell _ o t p B here hs0 g c0 at_ hf h8).mono ?_; rintro e w' ⟨rfl, rfl⟩)
  go_loopw [18] (fun i wr => ∃ k : Nat, k ≤ 8 ∧ i = .int .i64 k ∧ PutLoop w o t p g B here at_ x k wr) (fun i _ => 8 - (intOf i).toNat)
  case atStart => exact ⟨0, by omega, rfl, Mod.refl _ hwf, hb'.out, by simpa using hG.out⟩
  case round =>
    obtain ⟨k, hk, rfl, hm, hbp, hbl⟩ := hrel
    have hpg := mem_ne hbp hbl (by decide)
    have hbP := Lib.hid hbp; clear hbp
    by_cases hlt : k < 8
    · have hcell : wr.cell? ⟨g, at_ + k, none⟩ = some (bv (B[at_ + k]?.getD 0)) := by
        rw [hbl.cell, List.getElem?_map, put_get B (bytes8 x) at_ k (by omega) (by rw [bytes8_length]; omega), List.getElem?_eq_getElem (by omega)]
        rfl
      have hfr := hbl.frozen
      have hbH := Lib.hid hbl; clear hbl
      go_wp2
      refine ⟨⟨k + 1, by omega, by simp, hm.setCell _ _ (fun _ => h5), hbP.out.other _ _ hpg, ?_⟩, by simp [intOf]; omega⟩
      have h6 := hbH.out.set (at_ + k) (bv (byteN x k))
      rw [← List.map_set, put_step B (bytes8 x) at_ k (byteN x k) (by omega) (by simp [bytes8, hlt])] at h6
      exact h6
    · have : k = 8 := by omega
      subst this
      have hbH := Lib.hid hbl; clear hbl
      go_wp2
      go_ret
      have h6 := hbH.out
      rw [List.take_of_length_le (l := bytes8 x) (by rw [bytes8_length]; exact Nat.le_refl _)] at h6
      have hl : (putB B at_ x).length = B.length := by simp [putB, bytes8_length]; omega
      refine ⟨rfl, hm, h0, (hm.own p hb'.out.lt).trans h1, by omega, by omega, by omega, g, h5, ?_, h6⟩
      rw [hl]
      exact hbP.out

/-- Given out, or taken back: how many then, or why not. -/
def allotB (B : List Int) (here : Nat) (n : Int) : Nat × Int := if (B.length : Int) - 512 - here < n ∨ n < -(here : Int) then (here, -8) else ((here + n).toNat, 0)

set_option maxHeartbeats 400000 in
theorem mem_Allot (w : World) (o : Owner) (t p : Nat) (B : List Int) (here : Nat) (hs : MemAt w o t p B here) (hwf : Wf w o) (n : Int) (hn : -9223372036854775808 ≤ n ∧ n ≤ 9223372036854775807) :
    Calls Tryz.prog 86 #[.pointer (some ⟨p, 0, none⟩), .int .i64 n] w fun e w' => e = .returned (.int .i64 (allotB B here n).2) ∧ Mod (· = t) w o w' o ∧ MemAt w' o t p B (allotB B here n).1 := by
  have hs0 := hs
  obtain ⟨h0, h1, h2, h3, h4, g, h5, hb, hg⟩ := hs
  have c0 := hb.c 0 _ rfl
  have c1 := hb.c 1 _ rfl
  have f0 := hb.frozen
  have hpg := mem_ne hb hg (by decide)
  have hG := Lib.hid hg; clear hg
  have hb' := Lib.hid hb; clear hb
  have hN := Lib.hid hn; clear hn
  by_cases b1 : (B.length : Int) - 512 - here < n
  · go_enter Tryz.func86, Tryz.ntmps86
    go_wp2
    go_quiet (fail)
    go_wp2
    go_ret
    refine ⟨by simp [allotB, b1], (Mod.refl _ hwf).drewN _, ?_⟩
    have : allotB B here n = (here, -8) := if_pos (.inl b1)
    rw [this]
    exact hs0
  · by_cases b2 : n < -(here : Int)
    · go_enter Tryz.func86, Tryz.ntmps86
      go_wp2
      go_quiet (fail)
      go_wp2
      all_goals
        go_ret
        refine ⟨by simp [allotB, b2], (Mod.refl _ hwf).drewN _, ?_⟩
        have : allotB B here n = (here, -8) := if_pos (.inr b2)
        rw [this]
        exact hs0
    · have e : allotB B here n = ((here + n).toNat, 0) := if_neg (by omega)
      rw [e]
      have hx : Hid (((here : Int) + n) = (((here : Int) + n).toNat : Int)) := by unfold Hid; omega
      have b3 : 0 ≤ (here : Int) + n := by omega
      have b4 : (here : Int) + n ≤ 65536 := by omega
      have b5 : ((here : Int) + n).toNat + 512 ≤ B.length := by omega
      have b6 := Lib.hid b5; clear b5 e
      go_enter Tryz.func86, Tryz.ntmps86
      go_wp2
      go_quiet (fail)
      go_wp2
      all_goals try (exfalso; omega)
      all_goals
        go_ret
        refine ⟨rfl, ((Mod.refl _ hwf).setCell ⟨p, 1, none⟩ _ (fun _ => h1)).drewN _, h0, h1, h2, h3, b6.out, g, h5, ?_, hG.out.other ⟨p, 1, none⟩ _ hpg.symm⟩
        have hz := hb'.out.set 1 (.int .i64 ((here : Int) + n))
        rw [← hx.out]
        exact hz

set_option maxHeartbeats 400000 in
theorem mem_Comma (w : World) (o : Owner) (t p : Nat) (B : List Int) (here : Nat) (hs : MemAt w o t p B here) (hwf : Wf w o) (h8 : here % 8 = 0) (hfit : here + 8 + 512 ≤ B.length) (x : Int) :
    Calls Tryz.prog 48 #[.pointer (some ⟨p, 0, none⟩), .int .i64 x] w fun e w' => e = .returned (.int .i64 0) ∧ Mod (· = t) w o w' o ∧ MemAt w' o t p (putB B here x) (here + 8) := by
  have ha : allotB B here 8 = (here + 8, 0) := by
    have : ¬ ((B.length : Int) - 512 - here < 8 ∨ (8 : Int) < -(here : Int)) := by omega
    unfold allotB
    rw [if_neg this]
    congr 1
  have h3 := hs.2.2.2.1
  have b1 : ((here : Int) % 8 != 0) = false := by simp; omega
  go_enter Tryz.func48, Tryz.ntmps48
  go_wp2_with (go_at_call 85; refine (mem_Here _ o t p B here hs).mono ?_; rintro e w' ⟨rfl, rfl⟩)
  refine (mem_Allot _ o t p B here hs hwf 8 (by omega)).mono ?_
  rw [ha]
  rintro e w1 ⟨rfl, hm1, hs1⟩
  go_wp2_with fail
  refine (mem_Put _ o t p B (here + 8) hs1 hm1.wf here (by omega) h8 x).mono ?_
  rintro e w2 ⟨rfl, hm2, hs2⟩
  go_wp2
  go_ret
  exact ⟨rfl, hm1.trans hm2, hs2⟩

end Go.Proofs.YtjcaidbkbdkpeaaGreatDoor
