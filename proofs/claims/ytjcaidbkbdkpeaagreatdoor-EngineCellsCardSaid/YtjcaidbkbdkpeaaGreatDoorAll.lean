/- All words that are there from the beginning, as the document has them. -/
import Derived.Test.YtjcaidbkbdkpeaaGreatDoorRef
import Derived.Test.YtjcaidbkbdkpeaaGreatDoorIns
import Derived.Deep.RegionLaw
namespace Go.Proofs.YtjcaidbkbdkpeaaGreatDoor
open Go Go.RowKit Go.Rh

def SomeBool (w : World) (e : Ending) (w' : World) : Prop := ∃ b, e = .returned (.bool b) ∧ w = w'

set_option maxHeartbeats 2000000 in
theorem ref_now (w : World) (n : Int) : Calls Tryz.prog 55 #[.int .i64 n] w (SomeBool w) := by
  go_enter Tryz.func55, Tryz.ntmps55
  go_wp2
  all_goals
    go_ret
    exact ⟨_, rfl, rfl⟩
set_option maxHeartbeats 2000000 in
theorem ref_only (w : World) (n : Int) : Calls Tryz.prog 56 #[.int .i64 n] w (SomeBool w) := by
  go_enter Tryz.func56, Tryz.ntmps56
  go_wp2
  all_goals
    go_ret
    exact ⟨_, rfl, rfl⟩

/-- A word of the table: its name, its kind and number, two marks. -/
structure Bi where
  name : ByteArray
  kind : Int
  n : Int
  now : Bool
  only : Bool
abbrev biL (b : Bi) : List Value := [.string b.name, .int .i64 b.kind, .int .i64 b.n, .bool b.now, .bool b.only]
def Bi.cells (b : Bi) : List Value := biL b
theorem Bi.cells_length (b : Bi) : b.cells.length = 5 := rfl
def Bi.key (b : Bi) : ByteArray × Int × Int := (b.name, b.kind, b.n)
/-- Those of a kind. -/
def kindKeys (kind : Int) : List (ByteArray × Int × Int) := (refNames kind).zipIdx.map fun x => (x.1, kind, (x.2 : Int) + 1)
/-- Those of the first kinds. -/
def allKeys : Nat → List (ByteArray × Int × Int)
  | 0 => []
  | j + 1 => allKeys j ++ kindKeys ((j : Int) + 1)
theorem kindKeys_length (kind : Int) : (kindKeys kind).length = refLen kind := by unfold kindKeys; simp [refNames_length]
theorem refLen_le (kind : Int) : refLen kind ≤ 107 := by unfold refLen; split <;> (try split) <;> (try split) <;> omega
theorem allKeys_length (j : Nat) : (allKeys j).length ≤ 107 * j := by
  induction j with
  | zero => simp [allKeys]
  | succ j ih => have := refLen_le ((j : Int) + 1); simp only [allKeys, List.length_append, kindKeys_length]; omega
theorem kindKeys_get (kind : Int) (i : Nat) (s : ByteArray) (hs : (refNames kind)[i]? = some s) : (kindKeys kind)[i]? = some (s, kind, (i : Int) + 1) := by
  unfold kindKeys
  rw [List.getElem?_map, List.getElem?_zipIdx, hs]
  simp
theorem kindKeys_take (kind : Int) (i : Nat) (s : ByteArray) (hs : (refNames kind)[i]? = some s) : (kindKeys kind).take (i + 1) = (kindKeys kind).take i ++ [(s, kind, (i : Int) + 1)] := by
  rw [List.take_add_one, kindKeys_get kind i s hs]; rfl

theorem elBuilt : El Tryz.prog 70 73 5 40 := El.mk' (z := .agg #[.string ByteArray.empty, .int .i64 0, .int .i64 0, .bool false, .bool false]) Tryz.underlying70 (by kernel_rfl) rfl (by decide)

theorem rdNew {W : World} {o : Owner} {size : Nat} {cs : List Value} {e : TypeId} {n B : Nat} (hs : W.heap.size = B) (hl : cs.length = n * size) (hm : n ≤ maxLen) (hwf : Wf W o) :
    Rd (W.alloc (.cells cs.toArray e)) o 0 size (.slice (some ⟨B, 0, none⟩) n n) n cs := by
  subst hs; exact Rd.new W o cs e n hl hm hwf

/-- What was laid, so far. -/
def AllRel (w : World) (o : Owner) (g : Nat) (keys : List (ByteArray × Int × Int)) (v : Value) (wr : World) : Prop :=
  ∃ (L : List Bi) (o1 : Owner), Mod (· = g) w o wr o1 ∧ Row wr o1 g 73 5 v L.length (L.flatMap Bi.cells) ∧ L.map Bi.key = keys

/-- What was laid so far, while the names of a kind lie at B. -/
def AllRel2 (w : World) (o : Owner) (g : Nat) (keys : List (ByteArray × Int × Int)) (B : Nat) (names : List ByteArray) (v : Value) (wr : World) : Prop :=
  ∃ (L : List Bi) (o1 : Owner), Mod (· = g) w o wr o1 ∧ Row wr o1 g 73 5 v L.length (L.flatMap Bi.cells) ∧ L.map Bi.key = keys ∧ Blk wr B (names.map Value.string) 9 ∧ o1 B = 0

theorem AllRel2.more {w wr w2 : World} {o o1 o2 : Owner} {g B : Nat} {L : List Bi} {keys : List (ByteArray × Int × Int)} {names : List ByteArray} {v : Value} (hg0 : g ≠ 0) (x1 x2 : Obj) (b : Bi) (hm : Mod (· = g) w o wr o1) (hk : L.map Bi.key = keys) (hb : Blk wr B (names.map Value.string) 9) (hB : o1 B = 0)
    (hr4 : Row w2 o2 g 73 5 v (L.length + 1) (L.flatMap Bi.cells ++ biL b)) (hm4 : Mod (· = g) ((wr.alloc x1).alloc x2) o1 w2 o2) : AllRel2 w o g (keys ++ [b.key]) B names v w2 := by
  have hb2 := (hb.alloc x1).alloc x2
  refine ⟨L ++ [b], o2, ((hm.alloc x1).alloc x2).trans hm4, ?_, by simp [hk], hb2.kept hm4 (by rw [hB]; exact fun h => hg0 h.symm), (hm4.own _ hb2.lt).trans hB⟩
  have e1 : (L ++ [b]).flatMap Bi.cells = L.flatMap Bi.cells ++ biL b := by rw [List.flatMap_append]; simp [Bi.cells]
  rw [e1, List.length_append]; exact hr4

set_option maxHeartbeats 4000000 in
set_option maxRecDepth 100000 in
theorem ref_All (w : World) (o : Owner) (hwf : Wf w o) (g : Nat) (hg0 : g ≠ 0) :
    Calls Tryz.prog 34 #[] w fun e w' => ∃ (v : Value) (L : List Bi) (o' : Owner), e = .returned v ∧ Mod (· = g) w o w' o' ∧ Row w' o' g 73 5 v L.length (L.flatMap Bi.cells) ∧ L.map Bi.key = allKeys 4 := by
  go_enter Tryz.func34, Tryz.ntmps34
  go_wp2
  go_loopg [1, 2] 4 (fun n v u wr => ∃ j : Nat, j ≤ 4 ∧ n = 4 - j ∧ u = .int .i64 ((j : Int) + 1) ∧ AllRel w o g (allKeys j) v wr)
  case atStart => exact ⟨0, by omega, by omega, rfl, [], o, Mod.refl _ hwf, Row.nil _ _ _ _ _, rfl⟩
  case round =>
    obtain ⟨j, hj, rfl, rfl, L, o1, hm, hr, hk⟩ := hrel
    by_cases hlt : j < 4
    · have hcall := fun W => ref_names W ((j : Int) + 1) (by omega) (by omega)
      have hcall' := Lib.hid hcall
      clear hcall
      obtain ⟨N, hN⟩ : ∃ N, N = refLen ((j : Int) + 1) := ⟨_, rfl⟩
      have hN107 : N ≤ 107 := by rw [hN]; exact refLen_le _
      rw [← hN] at hcall'
      have hN' := Lib.hid hN
      clear hN
      have hk' := Lib.hid hk
      clear hk
      obtain ⟨ra, rc, rfl, _⟩ := hr.len
      have z1 : decide ((j : Int) + 1 ≤ 4) = true := decide_eq_true (by omega)
      go_wp2_with fail
      refine (hcall'.out _).mono ?_
      rintro e w1 ⟨rfl, rfl⟩
      have hnb := Blk.new wr ((refNames ((j : Int) + 1)).map Value.string) 9
      have hmA := hm.alloc (.cells ((refNames ((j : Int) + 1)).map Value.string).toArray 9)
      have hrA := hr.alloc (.cells ((refNames ((j : Int) + 1)).map Value.string).toArray 9)
      have hoB : o1 wr.heap.size = 0 := hm.wf _ (Nat.le_refl _)
      generalize wr.alloc (.cells ((refNames ((j : Int) + 1)).map Value.string).toArray 9) = W1 at *
      generalize wr.heap.size = B at *
      clear hm hr
      go_wp2_with fail
      go_loopg [1, 4] N (fun n v u wr2 => ∃ i : Nat, i ≤ N ∧ n = N - i ∧ u = .int .i64 (i : Int) ∧ AllRel2 w o g (allKeys j ++ (kindKeys ((j : Int) + 1)).take i) B (refNames ((j : Int) + 1)) v wr2)
      case atStart => exact ⟨0, by omega, by omega, rfl, L, o1, hmA, hrA, by rw [hk'.out]; simp, hnb, hoB⟩
      case round =>
        obtain ⟨i, hi, rfl, rfl, L2, o2, hm2, hr2, hk2, hb2, hB2⟩ := hrel
        clear hmA hrA hnb hoB hk'
        obtain ⟨ra2, rc2, rfl, _⟩ := hr2.len
        have hl2 : L2.length ≤ 2000 := by
          have h1 : L2.length = (allKeys j ++ (kindKeys ((j : Int) + 1)).take i).length := by rw [← hk2]; simp
          rw [h1, List.length_append, List.length_take]
          have := allKeys_length j
          omega
        by_cases hlt2 : i < N
        · obtain ⟨s, hs⟩ : ∃ s, (refNames ((j : Int) + 1))[i]? = some s := ⟨_, List.getElem?_eq_getElem (by rw [refNames_length, ← hN'.out]; exact hlt2)⟩
          have cs := hb2.c i (.string s) (by rw [List.getElem?_map, hs]; rfl)
          have hkt := Lib.hid (kindKeys_take ((j : Int) + 1) i s hs)
          have hk2' := Lib.hid hk2
          have hwf2 : ∀ (x1 x2 : Obj), Wf ((wr.alloc x1).alloc x2) o2 := fun (x1 x2 : Obj) => (((Mod.refl (fun _ => False) hm2.wf).alloc x1).alloc x2).wf
          have hwf2' := Lib.hid hwf2
          clear hs hk2 hwf2
          have hj4 : j = 0 ∨ j = 1 ∨ j = 2 ∨ j = 3 := by omega
          rcases hj4 with rfl | rfl | rfl | rfl
          all_goals
            go_wp2_with (first
              | (go_at_call 55; refine (ref_now _ _).mono ?_; rintro e w' ⟨b1, rfl, rfl⟩)
              | (go_at_call 56; refine (ref_only _ _).mono ?_; rintro e w' ⟨b2, rfl, rfl⟩)
              | (at_builtin; refine wpList_append_row elBuilt rfl rfl (hwf2'.out _ _) rfl ((hr2.alloc _).alloc _) rfl (rdNew (n := 1) (B := wr.heap.size + 1) (by simp) rfl (by decide) ((Mod.refl (fun _ => False) hm2.wf).alloc _).wf) (by simp [Value.oneCell']) (by unfold maxLen; omega) (by omega) ?_
                 intro v' w3 o3 hr4 hm4 hg4 _
                 obtain ⟨a7, c7, rfl, _⟩ := hr4.len))
          all_goals
            go_roundg (N - (i + 1))
            case measure => omega
            case rel =>
              refine ⟨i + 1, by omega, rfl, by go_num, ?_⟩
              have h9 := AllRel2.more hg0 _ _ ⟨s, _, _, _, _⟩ hm2 hk2'.out hb2 hB2 hr4 hm4
              rw [hkt.out, ← List.append_assoc]
              exact h9
        · have hi' : i = N := by omega
          have htk : (kindKeys ((j : Int) + 1)).take i = kindKeys ((j : Int) + 1) := List.take_of_length_le (by rw [kindKeys_length, ← hN'.out]; omega)
          rw [htk] at hk2
          have hk2' := Lib.hid hk2
          have hi2 := Lib.hid hi'
          clear hk2 htk hi'
          go_wp2
          go_roundg (4 - (j + 1))
          case measure => omega
          case rel => exact ⟨j + 1, by omega, rfl, by go_num, L2, o2, hm2, hr2, hk2'.out⟩
    · have hj4 : j = 4 := by omega
      subst hj4
      obtain ⟨ra, rc, rfl, _⟩ := hr.len
      have hk' := Lib.hid hk
      clear hk
      go_wp2
      go_ret
      exact ⟨_, L, o1, rfl, hm, hr, hk'.out⟩
end Go.Proofs.YtjcaidbkbdkpeaaGreatDoor
