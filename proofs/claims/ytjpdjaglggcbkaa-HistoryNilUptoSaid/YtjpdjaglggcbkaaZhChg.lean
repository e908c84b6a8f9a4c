/-
  Sorting modules, finding one, and changing them, on the abstract machine: what they compute. The lengths are bounded.
-/
import Derived.Test.YtjpdjaglggcbkaaZhGen
import Derived.Test.YtjpdjaglggcbkaaZam33
namespace Go.Proofs.Zh
open Go Go.Zam Go.Proofs
set_option maxRecDepth 100000
set_option linter.all false
set_option maxHeartbeats 1000000

structure Mod where
  n : List UInt8
  t : List UInt8

def encM (m : Mod) : List D := [.str m.n, .str m.t]

structure Chg where
  n : List UInt8
  z : Bool
  l : List Ed

def encC (c : Chg) : List D := [.str c.n, .sl c.z 3 (c.l.map encE)]

def cM (a b : Mod) : Int := cmpStr a.n b.n

theorem cM_cmp : Cmp cM := cmpStr_cmp.on Mod.n
theorem encM_len : ∀ x, (encM x).length = 2 := fun _ => rfl

theorem cmpM_acall (H : Hp) (x y : Mod) : ACall Try.prog 37 [.agg (rowE encM x), .agg (rowE encM y)] H (fun r H' => r = .d (.int .i64 (cM x y)) ∧ H' = H) := by
  refine acall_fin Try.func37 cf37 (by simp [ir37]) fun hcl _ => ?_
  simp [ir37, rowE, encM]
  refine CallK_of' (compareStr_acall Try.func38 cf38 Try.func53 cf53 _ _) ?_
  simp [RetK, cut_app hcl, cM]

theorem callOk37 : callOk Try.prog 37 = true := by kernel_rfl
theorem callOk42 : callOk Try.prog 42 = true := by kernel_rfl

theorem cmpA_M : CmpA Try.prog encM cM (.d (.fn 37)) := fun H x y Q t hq => by
  simp only [ValD_d]
  exact ⟨callOk37, CallD_of (cmpM_acall H x y) hq⟩

theorem sortMOk (H : Hp) (z : Bool) (l : List Mod) (hl : l.length ≤ 1048576) :
    ACall Try.prog 24 [.d (.sl z 2 (l.map encM))] H (fun r H' => r = .d (.sl (z && l.isEmpty) 2 ((ssort cM l).map encM)) ∧ H' = H) := by
  have hss : ∀ (H : Hp) (i : Nat), H[i]? = some (arrE encM 2 l) → ACall Try.prog 36 [.msl i 0 l.length, .d (.fn 37)] H (fun r' H' => r' = .tup [] ∧ H' = H.set i (arrE encM 2 (ssort cM l))) := fun H i hi =>
    sortStable_acall encM_len cM_cmp Try.func36 cf36 Try.func52 cf52 Try.func60 cf60 Try.func61 cf61 Try.func63 cf63 Try.func65 cf65 cmpA_M (fun m _ => by simp) hi (by omega)
  have hlen := ssort_length cM_cmp l
  by_cases h0 : l = []
  · subst h0
    cases z with
    | true =>
      refine acall_fin Try.func24 cf24 (by simp [ir24]) fun hcl _ => ?_
      simp [ir24]
      refine CallK_of' (clone0_acall Try.func25 cf25) ?_
      simp
      refine CallK_of' (sortStable0_acall (sz := 2) Try.func36 cf36 Try.func52 cf52 Try.func60 cf60 (fun m _ => by simp)) ?_
      simp [RetK, cut_self hcl, ssort]
    | false =>
      refine ACall.freeze (k := 0) (X := [.arr 2 []]) (by simp [ssort]) ?_
      refine acall_fink 1 Try.func24 cf24 (by simp [ir24]) fun hcl _ => ?_
      simp [ir24]
      refine CallK_of' (cloneM0_acall Try.func25 cf25) ?_
      simp
      have := hss (H ++ [.arr 2 []]) H.length (by simp [arrE])
      simp only [List.length_nil] at this
      refine CallK_of' this ?_
      simp [RetK, cut_appk hcl, arrE, ssort]
  · have hrows : l.map encM ≠ [] := by simpa using h0
    have he : l.isEmpty = false := by cases l <;> simp_all
    rw [he, Bool.and_false]
    refine ACall.freeze (k := 1) (X := [.arr 2 [], arrE encM 2 (ssort cM l)]) (by simp [arrE, rowE]) ?_
    refine acall_fink 2 Try.func24 cf24 (by simp [ir24]) fun hcl _ => ?_
    simp [ir24]
    refine CallK_of' (cloneM_acall Try.func25 cf25 hrows (by simp; omega)) ?_
    have := hss (H ++ [.arr 2 [], .arr 2 ((l.map encM).map (List.map .d))]) (H.length + 1) (by simp [arrE, rowE])
    simp at this
    simp
    refine CallK_of' this ?_
    simp [RetK, cut_appk hcl, arrE_clr, hlen, -Ob.clr]
    simp

def findM (l : List Mod) (s : List UInt8) : Int := indexI (fun m => decide (m.n = s)) l

theorem find1_acall (H : Hp) (i : Nat) (s : List UInt8) (m : Mod) (hi : H[i]? = some (.box 9 [.d (.str s)])) :
    ACall Try.prog 42 [.agg (rowE encM m), .ptr i 0] H (fun r H' => r = .d (.bool (decide (m.n = s))) ∧ H' = H) := by
  have hil : i < H.length := (List.getElem?_eq_some_iff.1 hi).1
  refine acall_fin Try.func42 cf42 (by simp [ir42]) fun hcl _ => ?_
  have h1 : (H ++ [Ob.box 58 [A.d (.str m.n), A.d (.str m.t)]])[i]? = some (.box 9 [.d (.str s)]) := by rw [List.getElem?_append_left hil]; exact hi
  simp [ir42, rowE, encM, h1]
  simp [RetK, cut_app hcl]

/-- Find, over whatever holds modules -/
theorem findOk (H : Hp) (x : A) (l : List Mod) (s : List UInt8) (hlen : lenA x = some l.length) (hx : ∀ m, H.length + 1 ≤ m → x.clr m = x)
    (hld : ∀ (k : Nat) (e : Mod), l[k]? = some e → ∃ q, ∀ X : Ob, iaddrA (H ++ [X]) 2 x (.d (.int .i64 (k : Int))) = some q ∧ ldA (H ++ [X]) 2 q = some (rowE encM e)) (hb : l.length ≤ 1099511627776) :
    ACall Try.prog 28 [x, .d (.str s)] H (fun r H' => r = .d (.int .i64 (findM l s)) ∧ H' = H) := by
  refine acall_fin Try.func28 cf28 (by simp [ir28]) fun hcl _ => ?_
  simp [ir28]
  refine CallK_of' (indexFunc_acall (enc := encM) (l := l) (p := fun m => decide (m.n = s)) Try.func41 cf41 hlen (fun m hm => hx m (by simpa using hm)) (fun m hm => by
    have : H.length < m := by simp at hm; omega
    simp [A.lo, this]) (fun k e hk => by
    obtain ⟨q, hq⟩ := hld k e hk
    exact ⟨q, hq _⟩) (fun e Q t hq => by
    simp only [ValK_fn]
    exact ⟨callOk42, CallK_of' (find1_acall _ H.length s e (by simp)) hq⟩) hb) ?_
  simp [RetK, cut_app hcl, findM]

theorem findDOk (H : Hp) (z : Bool) (l : List Mod) (s : List UInt8) (hb : l.length ≤ 1099511627776) :
    ACall Try.prog 28 [.d (.sl z 2 (l.map encM)), .d (.str s)] H (fun r H' => r = .d (.int .i64 (findM l s)) ∧ H' = H) :=
  findOk H _ l s (by simp) (fun m _ => by simp) (fun k e hk => ⟨.eptr (encM e), fun X => by simp [Zam.rowAt, hk, rowE, encM]⟩) hb

theorem findAOk (H : Hp) (i : Nat) (l : List Mod) (s : List UInt8) (hi : H[i]? = some (arrE encM 2 l)) (hb : l.length ≤ 1099511627776) :
    ACall Try.prog 28 [.msl i 0 l.length, .d (.str s)] H (fun r H' => r = .d (.int .i64 (findM l s)) ∧ H' = H) := by
  have hil : i < H.length := (List.getElem?_eq_some_iff.1 hi).1
  have hi' : ∀ X : Ob, (H ++ [X])[i]? = some (arrE encM 2 l) := fun X => by rw [List.getElem?_append_left hil]; exact hi
  exact findOk H _ l s (by simp) (fun m hm => clr_msl (by omega) _ _) (fun k e hk => ⟨.aptr i k 0, fun X => ⟨arr_iaddr (hi' X) rfl (List.getElem?_eq_some_iff.1 hk).1, arr_ld encM_len (hi' X) hk⟩⟩) hb

theorem findM_some {l : List Mod} {s : List UInt8} (h : 0 ≤ findM l s) : ∃ (k : Nat) (m : Mod), findM l s = k ∧ l[k]? = some m ∧ m.n = s := by
  unfold findM indexI at h ⊢
  split at h
  · rename_i k hk
    refine ⟨k, ?_⟩
    clear h
    induction l generalizing k with
    | nil => simp [indexP] at hk
    | cons x l ih =>
      simp only [indexP] at hk
      split at hk
      · rename_i hx
        cases hk
        exact ⟨x, rfl, rfl, by simpa using hx⟩
      · simp only [Option.map_eq_some_iff] at hk
        obtain ⟨k', hk', rfl⟩ := hk
        obtain ⟨m, -, h1, h2⟩ := ih k' hk'
        exact ⟨m, rfl, by simpa using h1, h2⟩
  · omega

/-- what changes make of modules, or why not -/
def applyC (l : List Mod) (done : List (List UInt8)) : List Chg → Int × List Mod
  | [] => (0, l)
  | c :: r => if findM l c.n < 0 then (32, []) else if c.n ∈ done then (4, []) else
    match l[(findM l c.n).toNat]? with
    | none => (32, [])
    | some m => if sound c.l m.t.length = 0 then applyC (l.set (findM l c.n).toNat ⟨m.n, applyS m.t c.l⟩) (done ++ [c.n]) r else (sound c.l m.t.length, [])

def totC : List Chg → Nat
  | [] => 0
  | c :: r => total c.l + totC r
def totM : List Mod → Nat
  | [] => 0
  | m :: r => m.t.length + totM r

end Go.Proofs.Zh
