/- The definition that puts cells aside, and takes them back: what it is, and where it goes. -/
import Derived.Test.YtjcaidbkbdkpeaaGreatDoorCtlB
import Derived.Test.YtjcaidbkbdkpeaaGreatDoorThrow
import Derived.Test.YtjcaidbkbdkpeaaGreatDoorBuilt
import Derived.Test.YtjcaidbkbdkpeaaGreatDoorGoes
import Derived.Test.YtjcaidbkbdkpeaaGreatDoorMay
namespace Go.Proofs.YtjcaidbkbdkpeaaGreatDoor
open Go Go.RowKit Go.Rh

/-- An engine at a place, with a word that is next, a stack, frames. -/
def Eng.go (E : Eng) (on next : Int) (st : List Int) (fs : List Fr) : Eng := ⟨{ E.c with on := on, next := next }, fs, { E.s with stack := st }, E.i⟩

def fcell (c : Int) : Fr := ⟨2, 0, 0, c, 0, []⟩
def fcall : Fr := ⟨1, 0, 0, 0, 0, []⟩

section
variable {k : Nat} {h : Hd} {E : Eng} {n i : Nat} {a x : Int} {st : List Int} {Fs : List Fr}

theorem go_step {op : Int} {E2 : Eng} {f : Fr} {s1 s2 s3 : Int} (hdef : E.c.def_ = (n : Int) + 1) (hI : InsAt E.c n i op a x) (hfl : f.l.length ≤ 1000) (hk6 : f.kind ≠ 6) (hk7 : f.kind ≠ 7)
    (hd : ∀ w1 o1, Wf w1 o1 → EngAt w1 o1 k h (E.go ((i : Int) + 1) 0 st (Fs ++ [f])) → Calls Tryz.prog 45 #[gp h, insV op a x] w1 fun e w' => e = .returned (stat s1 s2 s3) ∧ ∃ o', Mod (InE k) w1 o1 w' o' ∧ EngAt w' o' k h E2) :
    StepTo k h (E.go i 0 st (Fs ++ [f])) E2 s1 s2 s3 := by
  intro w o hwf hE he
  exact step_ins w o k h (E.go i 0 st (Fs ++ [f])) E2 he hwf rfl Fs f rfl hfl hk6 hk7 n i hdef rfl op a x ⟨hI.nl, hI.op0, hI.op1, hI.a0, hI.a1, hI.lay⟩ s1 s2 s3 hd

/-- A frame that lets a definition go on. -/
def FOk (f : Fr) : Prop := f.l.length ≤ 1000 ∧ f.kind ≠ 6 ∧ f.kind ≠ 7
theorem FOk.cell (c : Int) : FOk (fcell c) := ⟨by simp [fcell], by simp [fcell], by simp [fcell]⟩
theorem FOk.call : FOk fcall := ⟨by simp [fcall], by simp [fcall], by simp [fcall]⟩

theorem go_callw {m : Nat} {E2 : Eng} {f : Fr} {s1 s2 s3 : Int} (hdef : E.c.def_ = (n : Int) + 1) (hI : InsAt E.c n i 2 ((m : Int) + 1) x) (hf : FOk f)
    (hd : ∀ w1 o1, Wf w1 o1 → EngAt w1 o1 k h (E.go ((i : Int) + 1) 0 st (Fs ++ [f])) → Calls Tryz.prog 40 #[gp h, .int .i64 ((m : Int) + 1)] w1 fun e w' => e = .returned (stat s1 s2 s3) ∧ ∃ o', Mod (InE k) w1 o1 w' o' ∧ EngAt w' o' k h E2) :
    StepTo k h (E.go i 0 st (Fs ++ [f])) E2 s1 s2 s3 :=
  go_step hdef hI hf.1 hf.2.1 hf.2.2 fun w1 o1 hwf he => does_call w1 o1 k h _ E2 he hwf _ x s1 s2 s3 hd

/-- A word that pushes its cell is called. -/
theorem go_push {m : Nat} {c y : Int} {f : Fr} (hdef : E.c.def_ = (n : Int) + 1) (hI : InsAt E.c n i 2 ((m : Int) + 1) x) (hw : E.c.words[m]? = some ⟨6, y, c⟩ ∨ E.c.words[m]? = some ⟨9, y, c⟩) (hf : FOk f) (hfit : st.length < 128) :
    StepTo k h (E.go i 0 st (Fs ++ [f])) (E.go ((i : Int) + 1) 0 (st ++ [c]) (Fs ++ [f])) 1 0 0 :=
  go_callw hdef hI hf fun w1 o1 hwf he => by
    rcases hw with hw | hw
    · exact exec_cell w1 o1 k h _ he hwf m y c hw hfit
    · exact exec_value w1 o1 k h _ he hwf m y c hw hfit

/-- A word that is next pushes its cell. -/
theorem go_next {m : Nat} {c y : Int} {on : Int} {fs : List Fr} (hw : E.c.words[m]? = some ⟨6, y, c⟩ ∨ E.c.words[m]? = some ⟨9, y, c⟩) (hfit : st.length < 128) :
    StepTo k h (E.go on ((m : Int) + 1) st fs) (E.go on 0 (st ++ [c]) fs) 1 0 0 := by
  intro w o hwf hE he
  refine step_exec w o k h _ _ he hwf m rfl 1 0 0 fun w1 o1 hwf1 he1 => ?_
  rcases hw with hw | hw
  · exact exec_cell w1 o1 k h _ he1 hwf1 m y c hw hfit
  · exact exec_value w1 o1 k h _ he1 hwf1 m y c hw hfit

/-- A word that stands for another one is called. -/
theorem go_defer {m m2 : Nat} {y : Int} {f : Fr} (hdef : E.c.def_ = (n : Int) + 1) (hI : InsAt E.c n i 2 ((m : Int) + 1) x) (hw : E.c.words[m]? = some ⟨8, (m2 : Int) + 1, y⟩) (hm2 : m2 < E.c.words.length) (hf : FOk f) :
    StepTo k h (E.go i 0 st (Fs ++ [f])) (E.go ((i : Int) + 1) ((m2 : Int) + 1) st (Fs ++ [f])) 1 0 0 :=
  go_callw hdef hI hf fun w1 o1 hwf he => exec_defer w1 o1 k h _ _ he hwf m _ y hw 1 0 0 fun w2 o2 hwf2 he2 => e_deferred w2 o2 k h _ he2 hwf2 m2 hm2

/-- A cell is put aside. -/
theorem go_toR {m : Nat} {y z : Int} {f : Fr} (hdef : E.c.def_ = (n : Int) + 1) (hI : InsAt E.c n i 2 ((m : Int) + 1) x) (hw : E.c.words[m]? = some ⟨2, 1, y⟩) (hf : FOk f) (hfit : Fs.length + 1 < 128) :
    StepTo k h (E.go i 0 (st ++ [z]) (Fs ++ [f])) (E.go ((i : Int) + 1) 0 st ((Fs ++ [f]) ++ [fcell z])) 1 0 0 :=
  go_callw hdef hI hf fun w1 o1 hwf he => exec_ctl w1 o1 k h _ _ he hwf m 1 y hw 96 rfl (enters_of Tryz.func96 (by kernel_rfl) rfl) 1 0 0 fun w2 o2 hwf2 he2 => e_toR w2 o2 k h _ he2 hwf2 st z rfl (by show (Fs ++ [f]).length < 128; simp; omega)

/-- It is taken back. -/
theorem go_fromR {m : Nat} {y z : Int} (hdef : E.c.def_ = (n : Int) + 1) (hI : InsAt E.c n i 2 ((m : Int) + 1) x) (hw : E.c.words[m]? = some ⟨2, 2, y⟩) (hfit : st.length < 128) :
    StepTo k h (E.go i 0 st (Fs ++ [fcell z])) (E.go ((i : Int) + 1) 0 (st ++ [z]) Fs) 1 0 0 :=
  go_callw hdef hI (FOk.cell z) fun w1 o1 hwf he => exec_ctl w1 o1 k h _ _ he hwf m 2 y hw 97 rfl (enters_of Tryz.func97 (by kernel_rfl) rfl) 1 0 0 fun w2 o2 hwf2 he2 => e_fromR w2 o2 k h _ he2 hwf2 Fs 0 0 z 0 rfl hfit

/-- It is asked for. -/
theorem go_copyR {m : Nat} {y z : Int} (hdef : E.c.def_ = (n : Int) + 1) (hI : InsAt E.c n i 2 ((m : Int) + 1) x) (hw : E.c.words[m]? = some ⟨2, 3, y⟩) (hfit : st.length < 128) :
    StepTo k h (E.go i 0 st (Fs ++ [fcell z])) (E.go ((i : Int) + 1) 0 (st ++ [z]) (Fs ++ [fcell z])) 1 0 0 :=
  go_callw hdef hI (FOk.cell z) fun w1 o1 hwf he => exec_ctl w1 o1 k h _ _ he hwf m 3 y hw 98 rfl (enters_of Tryz.func98 (by kernel_rfl) rfl) 1 0 0 fun w2 o2 hwf2 he2 => e_copyR w2 o2 k h _ he2 hwf2 Fs 0 0 z 0 rfl hfit

/-- The end of the definition. -/
theorem go_exit {f : Fr} (hdef : E.c.def_ = (n : Int) + 1) (hI : InsAt E.c n i 15 a x) (hf : FOk f) (hk4 : f.kind ≠ 4) :
    StepTo k h (E.go i 0 st (Fs ++ [f])) ⟨{ E.c with def_ := 0, on := 0, next := 0 }, Fs ++ [f], { E.s with stack := st }, E.i⟩ 1 0 0 :=
  go_step hdef hI hf.1 hf.2.1 hf.2.2 fun w1 o1 hwf he => does_exit w1 o1 k h _ he hwf a x Fs f rfl hf.1 hk4
end

/-- A word that stands for none is wrong. -/
theorem to_none {k : Nat} {h : Hd} {E : Eng} {m : Nat} {y : Int} (hn : E.c.next = (m : Int) + 1) (hw : E.c.words[m]? = some ⟨8, 0, y⟩) (hf : E.fs = []) :
    ∃ E2, StepTo k h E E2 4 0 (-32) := by
  refine ⟨{ E with fs := [], c := { E.c with def_ := 0, on := 0, next := 0 }, s := { E.s with stack := cutS E.s.stack 0 } }, fun w o hwf hE he => ?_⟩
  refine step_exec w o k h _ _ he hwf m hn 4 0 (-32) fun w1 o1 hwf1 he1 => exec_defer w1 o1 k h _ _ he1 hwf1 m 0 y hw 4 0 (-32) fun w2 o2 hwf2 he2 => ?_
  obtain ⟨hm, hs⟩ := step_door w2 o2 hwf2
  have he0 := he2.same hm
  have hth := Lib.hid (e_Throw_dead _ o2 k h _ he0 hm.wf hf (-32))
  clear hf hn hw
  go_enter Tryz.func67, Tryz.ntmps67
  go_wp2_with fail
  refine hth.out.mono ?_
  rintro e w3 ⟨rfl, o3, m3, he3⟩
  have q1 := Box.kept (k := k) hs m3
  obtain ⟨b0, b1, b2, bf⟩ := q1.1.three
  go_wp2
  refine bodyPost_ret (v := stat 4 0 (-32)) (by simp [results, Tryz.results67, go_sem, b0, b1, b2]) rfl ?_
  exact ⟨rfl, fin3 ((hm.mono (fun _ h => h.elim)).trans m3) he3 _ (Nat.le_refl _) q1.2 _ _ _⟩
end Go.Proofs.YtjcaidbkbdkpeaaGreatDoor
