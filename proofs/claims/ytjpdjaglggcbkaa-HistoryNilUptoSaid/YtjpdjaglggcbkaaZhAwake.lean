/-
  The example of the statements on histories, on the abstract machine. No condition.
-/
import Derived.Test.YtjpdjaglggcbkaaZhSmall
namespace Go.Proofs.Zh
open Go Go.Zam Go.Proofs
set_option maxRecDepth 100000
set_option linter.all false
set_option maxHeartbeats 1000000

theorem modSt {H0 H : Hp} {h : Nat} {now : List Mod} {past next : List Step} (st : St H0 h H now past next) (hb : now.length ≤ 1048576) :
    ∃ z, ACall Try.prog 9 [.ptr h 0] H (fun r H' => r = .d (.sl z 2 (now.map encM)) ∧ H' = H) := by
  obtain ⟨X, zn, vp, vn, hX, hcl0, hh0, hh, vP, vN, hap⟩ := st
  exact ⟨_, modulesOk hh hb⟩

theorem St.app {H0 H : Hp} {h : Nat} {now : List Mod} {past next : List Step} (st : St H0 h H now past next) : ∃ X, H = H0 ++ X := ⟨_, st.choose_spec.choose_spec.choose_spec.choose_spec.1⟩

def mA : Mod := ⟨[109, 97, 105, 110], [97, 98]⟩
def mB : Mod := ⟨[109, 97, 105, 110], [97, 120]⟩
def cA : Chg := ⟨[109, 97, 105, 110], false, [⟨1, 2, [120]⟩]⟩

theorem awakeC : applyC [mA] [] [cA] = (0, [mB]) := by rfl
theorem awakeU : applyC [mB] [] (undoC [mA] [cA]) = (0, [mA]) := applyC_undo (fun _ h => h) awakeC

theorem awakeOk (H : Hp) : ACall Try.prog 7 [] H (fun r H' => r = .d (.bool true) ∧ H' = H) := by
  refine acall_fin Try.func7 cf7 (by simp [ir7]) fun hcl _ => ?_
  simp [ir7]
  have h8 : ACall Try.prog 8 [.d (.sl false 2 [[.str [109, 97, 105, 110], .str [97, 98]]])] H _ := newOk H false [mA] (by simp)
  refine CallK_of h8 ?_
  rintro x H1 hx
  have e1 : ssort cM [mA] = [mA] := by rfl
  have hx2 : x = .tup [.ptr H.length 0, .d (.int .i64 0)] ∧ St H H.length H1 [mA] [] [] := by
    have := hx
    simp only [e1] at this
    rw [if_pos (show apartM [mA] = true from rfl)] at this
    exact this
  clear hx
  obtain ⟨rfl, st1⟩ := hx2
  simp
  have h11 : ACall Try.prog 11 [.ptr H.length 0, .d (.str [120]), .d (.sl false 2 [[.str [109, 97, 105, 110], .sl false 3 [[.int .i64 1, .int .i64 2, .str [120]]]]])] H1 _ :=
    doOk st1 [120] false [cA] (by simp) (by simp) (fun m hm => by simp at hm; subst hm; decide) (fun c hc => by simp at hc; subst hc; decide) (by simp) awakeC
  refine CallK_of h11 ?_
  rintro x H2 ⟨rfl, st2, -⟩
  simp
  obtain ⟨z2, h9⟩ := modSt st2 (by simp)
  refine CallK_of' h9 ?_
  simp
  have h12 := undoOk (past := []) (s := stepOf [mA] [120] false [cA]) st2 (by simp) (by decide) (fun m hm => by simp at hm; subst hm; decide) (by simp) (by simp) awakeU
  refine CallK_of h12 ?_
  rintro x H3 ⟨rfl, st3, -⟩
  simp
  obtain ⟨z3, h9'⟩ := modSt st3 (by simp)
  refine CallK_of' h9' ?_
  obtain ⟨X, hX⟩ := st3.app
  simp [encM, mA, mB, stepOf, Zam.rowAt]
  rw [hX]
  simp [RetK, cut_app hcl]

end Go.Proofs.Zh
