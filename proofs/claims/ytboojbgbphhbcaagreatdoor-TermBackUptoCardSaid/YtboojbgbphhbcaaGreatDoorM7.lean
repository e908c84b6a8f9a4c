/-
  Texts of one proof, one behind the other: An abstract machine over the model, hundred and forty-eighth part: the ninth chapter's law on a type's text, over any program that asks. The lengths are bounded. An abstract machine over the model, hundred and thirty-first part: how deep a type is, a record's label, whether a type is without any: the document's answers and the program's, over any program that asks. The lengths are bounded. An abstract machine over the model, hundred and thirty-second part: whether a type is without any, the program's answer, over any program that asks. The lengths are bounded. An abstract machine over the model, hundred and thirty-fifth part: the ninth chapter's law on what is asked of a type, over any program that asks. The lengths are bounded. An abstract machine over the model, hundred and thirtieth part: the ninth chapter's law on a record's parts, over any program that asks. The lengths are bounded. An abstract machine over the model, hundred and twenty-eighth part: the ninth chapter's sentinel, over any program that asks. The lengths are bounded. strconv.ParseUint(s, 10, 63), over any program that has it: turned from the kit's worked proofs at 32 and 64 bits. No condition but on lengths. The functions of the layers of runes and tokens at this program. (Printed by mktok.py.) strings.Builder's copyCheck and String on the abstract machine, at this program. No condition. The layers of runes and tokens at this program: the library's functions, one by one, and what token.Lex answers. (Printed by mktok.py.) The lengths are bounded. An abstract machine over the model, hundred and tenth part: slices.AppendSeq at nil and an iterator that leaves alone what lay before, where what is done with each element does so, too. No program in sight. The lengths are bounded. Contracts of the library's functions at this program, out of the kit's shelf. No condition. slices.AppendSeq over slices.Values at texts, slices.Sort and Compact of texts, at this program. The lengths are bounded. The layer of types, and that of relations, at this program. (Printed by mkty.py.) The lengths are bounded. The tenth chapter's laws at this program. The lengths are bounded. What the arguments of these laws are: types as the program holds them, texts, lists of both. DERIVED: THE SHELF's CONTRACTS AT THIS DUMP, IN PLAIN WORDS (tools/lay-plain.mjs out of 'TryzJoin.lean', which tools/lay-shelf.mjs wrote): THE SAME DECLARATIONS UNDER THE SAME NAMES: 'import', 'namespace', 'open', 'def', 'theorem' AND NOTHING ELSE: no command of the shelf's: FOR A HAND-IN. Each laying: the table of numbers ('.._ren') and one theorem, a field a fact of the dump's own or the kernel's comparison; each contract: ONE APPLICATION. The ninth chapter's law on a record's parts, at this program. The lengths are bounded. The ninth chapter's law on what is asked of a type, at this program. The lengths are bounded. The ninth chapter's law on a type's text, at this program. The lengths are bounded.
-/
import Derived.Test.YtboojbgbphhbcaaGreatDoorM6
import Derived.Test.YtboojbgbphhbcaaGreatDoorM5
import Derived.KernelRfl
import Derived.BigCall
import Derived.BigGuard
import Derived.Laws.Closers25
import Derived.Laws.Closers25b
import Derived.Laws.Strings3
import Derived.Lib.AtoiErrMem
import Derived.Lib.ConvBytes
import Derived.Lib.Hide
import Derived.Lib.ParseIntBMem
import Derived.Lib.Strings
import Derived.Lib.Walk
import Derived.Shelf.Pu.Lays
import Derived.Shelf.Pu.Lower
import Derived.Shelf.Pu.ParseUint10
import Derived.Shelf.Pu.ParseUint10At
import Derived.Shelf.Pu.ParseUint10b16
import Derived.Shelf.Pu.ParseUint10b32
import Derived.Shelf.Pu.ParseUint10b64
import Derived.Shelf.Pu.ParseUint10b8
import Derived.Shelf.Pu.ParseUintEmpty
import Derived.Shelf.Pu.ToError
import Derived.Shelf.Pu.ToErrorRange
import Derived.WalkKit
import Derived.Test.YtboojbgbphhbcaaGreatDoorM4
import Derived.Test.YtboojbgbphhbcaaGreatDoorProg
import Derived.Test.YtboojbgbphhbcaaGreatDoorM3
import Derived.Shelf.SlIter.Collect
import Derived.Shelf.Strings.Builder1
import Derived.Shelf.Small.Strs
import Derived.Shelf.Strconv.Itoa0
import Derived.Shelf.Strconv.Itoa1
import Derived.Shelf.LaysM
import Derived.Shelf.Strconv.Itoa2
import Derived.Shelf.Strconv.Itoa3
import Derived.Ground.MpProg
import Derived.Shelf.Pu.ParseUintPublic10
import Derived.Shelf.Pu.ErrVarParseUint
import Derived.Shelf.Strings.Search1
import Derived.Shelf.Strings.Prefix
import Derived.Shelf.Unicode.Decode
import Derived.Shelf.Unicode.DecodeSlow
import Derived.Shelf.Unicode.DecodeAny
import Derived.Ground.SlgnProg
import Derived.Shelf.SlicesG.CompactS
import Derived.Ground.SlgmProg
import Derived.Shelf.SortM.Plain
import Derived.Shelf.SortM.SortNone
import Derived.RangeFuncBox
import Derived.RangeFuncLeaves
import Derived.Shelf.Abstract
import Derived.OwnWalkIn
import Derived.TacticsInMore
import Derived.LoopNIn
import Derived.LoopIn
import Derived.Shelf.Lays
import Derived.Shelf.Strings.OnBuilder
namespace Go.Zam
set_option linter.all false
set_option maxRecDepth 100000
set_option maxHeartbeats 4000000
open Classical

def irLBack (fa fl tr td tx tp ts t : Nat) : IFn :=
 { nt := 71, res := [.t 4], body := (
  .seq (.ops [
    ⟨(some 2), none, .box t 3 (.t 0)⟩,
    ⟨(some 4), none, .mv (.c (.bool false))⟩] false)
  (.seq (.seq (.ops [
     ⟨(some 11), none, .load 3 true (.t 2)⟩,
     ⟨(some 12), none, .call fl [(.t 11)]⟩,
     ⟨(some 13), none, .un .not (.t 12)⟩] false)
   (.cond (.t 13) (.seq (.ops [
      ⟨(some 14), none, .call fa []⟩,
      ⟨(some 4), none, .mv (.t 14)⟩] false)
    (.ret))
   (.skip)))
  (.seq (.seq (.ops [
     ⟨(some 15), none, .load 3 true (.t 2)⟩,
     ⟨(some 16), none, .call tr [(.t 15)]⟩,
     ⟨(some 17), none, .mv (.t 16)⟩,
     ⟨(some 18), (some (17, true)), .load 3 true (.t 2)⟩,
     ⟨(some 19), (some (17, true)), .call td [(.t 18)]⟩,
     ⟨(some 20), (some (17, true)), .bin .leq (.t 19) (.c (.int .i64 12))⟩,
     ⟨(some 21), none, .pick (.t 17) (.t 20) (.c (.bool false))⟩,
     ⟨(some 22), none, .mv (.t 21)⟩,
     ⟨(some 23), (some (22, true)), .load 3 true (.t 2)⟩,
     ⟨(some 24), (some (22, true)), .call tx [(.t 23)]⟩,
     ⟨(some 25), (some (22, true)), .lenS (.t 24)⟩,
     ⟨(some 26), (some (22, true)), .bin .leq (.t 25) (.c (.int .i64 4000))⟩,
     ⟨(some 27), none, .pick (.t 22) (.t 26) (.c (.bool false))⟩] false)
   (.cond (.t 27) (.seq (.ops [
      ⟨(some 29), none, .load 3 true (.t 2)⟩,
      ⟨(some 30), none, .call tx [(.t 29)]⟩,
      ⟨(some 31), none, .call tp [(.t 30)]⟩,
      ⟨(some 28), none, .mv (.t 31)⟩,
      ⟨(some 32), none, .ext (.t 28) 0⟩,
      ⟨(some 33), none, .ext (.t 28) 1⟩,
      ⟨(some 5), none, .alloc t [(.int .i64 0), (.sl true 1 []), (.sl true 3 [])]⟩,
      ⟨none, none, .store 3 (.t 5) (.t 32)⟩,
      ⟨(some 6), none, .mv (.t 33)⟩] false)
    (.seq (.ops [
      ⟨(some 34), none, .mv (.t 6)⟩,
      ⟨(some 35), none, .bin .neq (.t 34) (.c (.int .i64 0))⟩,
      ⟨(some 36), none, .mv (.t 35)⟩,
      ⟨(some 37), (some (36, false)), .load 3 true (.t 2)⟩,
      ⟨(some 38), (some (36, false)), .load 3 true (.t 5)⟩,
      ⟨(some 39), (some (36, false)), .call ts [(.t 37), (.t 38)]⟩,
      ⟨(some 40), (some (36, false)), .un .not (.t 39)⟩,
      ⟨(some 41), none, .pick (.t 36) (.c (.bool true)) (.t 40)⟩] false)
    (.cond (.t 41) (.seq (.ops [
       ⟨(some 4), none, .mv (.c (.bool false))⟩] false)
     (.ret))
    (.skip))))
   (.skip)))
  (.seq (.seq (.ops [
     ⟨(some 43), none, .mv (.t 1)⟩,
     ⟨(some 44), none, .call tp [(.t 43)]⟩,
     ⟨(some 42), none, .mv (.t 44)⟩,
     ⟨(some 45), none, .ext (.t 42) 0⟩,
     ⟨(some 46), none, .ext (.t 42) 1⟩,
     ⟨(some 7), none, .alloc t [(.int .i64 0), (.sl true 1 []), (.sl true 3 [])]⟩,
     ⟨none, none, .store 3 (.t 7) (.t 45)⟩,
     ⟨(some 8), none, .mv (.t 46)⟩] false)
   (.seq (.ops [
     ⟨(some 47), none, .mv (.t 8)⟩,
     ⟨(some 48), none, .bin .eql (.t 47) (.c (.int .i64 0))⟩] false)
   (.cond (.t 48) (.seq (.seq (.ops [
       ⟨(some 49), none, .load 3 true (.t 7)⟩,
       ⟨(some 50), none, .call tr [(.t 49)]⟩,
       ⟨(some 51), none, .un .not (.t 50)⟩] false)
     (.cond (.t 51) (.seq (.ops [
        ⟨(some 4), none, .mv (.c (.bool false))⟩] false)
      (.ret))
     (.skip)))
    (.seq (.ops [
      ⟨(some 52), none, .load 3 true (.t 7)⟩,
      ⟨(some 53), none, .call tx [(.t 52)]⟩,
      ⟨(some 54), none, .lenS (.t 53)⟩,
      ⟨(some 55), none, .bin .leq (.t 54) (.c (.int .i64 16384))⟩] false)
    (.cond (.t 55) (.seq (.ops [
       ⟨(some 57), none, .load 3 true (.t 7)⟩,
       ⟨(some 58), none, .call tx [(.t 57)]⟩,
       ⟨(some 59), none, .call tp [(.t 58)]⟩,
       ⟨(some 56), none, .mv (.t 59)⟩,
       ⟨(some 60), none, .ext (.t 56) 0⟩,
       ⟨(some 61), none, .ext (.t 56) 1⟩,
       ⟨(some 9), none, .alloc t [(.int .i64 0), (.sl true 1 []), (.sl true 3 [])]⟩,
       ⟨none, none, .store 3 (.t 9) (.t 60)⟩,
       ⟨(some 10), none, .mv (.t 61)⟩] false)
     (.seq (.ops [
       ⟨(some 62), none, .mv (.t 10)⟩,
       ⟨(some 63), none, .bin .neq (.t 62) (.c (.int .i64 0))⟩,
       ⟨(some 64), none, .mv (.t 63)⟩,
       ⟨(some 65), (some (64, false)), .load 3 true (.t 7)⟩,
       ⟨(some 66), (some (64, false)), .load 3 true (.t 9)⟩,
       ⟨(some 67), (some (64, false)), .call ts [(.t 65), (.t 66)]⟩,
       ⟨(some 68), (some (64, false)), .un .not (.t 67)⟩,
       ⟨(some 69), none, .pick (.t 64) (.c (.bool true)) (.t 68)⟩] false)
     (.cond (.t 69) (.seq (.ops [
        ⟨(some 4), none, .mv (.c (.bool false))⟩] false)
      (.ret))
     (.skip))))
    (.skip))))
   (.skip))))
  (.seq (.ops [
    ⟨(some 70), none, .call fa []⟩,
    ⟨(some 4), none, .mv (.t 70)⟩] false)
  (.ret)))))) }

section
variable {P : Program} {t : Nat} {H0 : Hp}

/-- whetstonelaw09.TermBack -/
theorem Has.lBack {f fa fl tr td tx tp ts : FuncId} (h : Has P f (irLBack fa fl tr td tx tp ts t)) (hA : AwakeT P H0 fa)
    (hL : ∀ v : T, v.Fit 1048576 → ∀ H, ACall P fl [v.a] H (fun r H' => (∃ c : Bool, r = .d (.bool c)) ∧ H' = H))
    (hR : ∀ v : T, v.Fit 1048576 → RightT P tr v)
    (hD : ∀ v : T, v.Fit 1048576 → v.dep ≤ 1125899906842624 → ∀ H, ACall P td [v.a] H (fun r H' => r = .d (.int .i64 (v.dep : Int)) ∧ H' = H))
    (hT : ∀ v : T, v.Fit 1048576 → v.wt ≤ 1099511627776 → TextT P tx v)
    (hP : ∀ s, s.length ≤ 1048576 → ∀ H, Pre0 H0 H → ACall P tp [.d (.str s)] H (fun r H' => r = .tup [(typO s).1.a, .d (.int .i64 (typO s).2)] ∧ H' = H))
    (hS : ∀ v : T, v.Fit 1048576 → SameT P ts v)
    (v : T) (s : Str') (hv : v.Fit 1048576) (hvd : v.dep ≤ 1048576) (hvw : v.wt ≤ 1099511627776) (hs : s.length ≤ 1048576) (H : Hp) (hH : Pre0 H0 H) :
    ACall P f [v.a, .d (.str s)] H (fun r H' => r = .d (.bool true) ∧ H' = H) := by
  have fitO : ∀ s : Bs, s.length ≤ 1048576 → (typO s).1.Fit 1048576 := fun s hs => by
    unfold typO
    split
    · exact T.nil_fit _
    · unfold N.typ
      split
      · exact T.nil_fit _
      split
      · exact T.nil_fit _
      · exact (N.ty_ok _ (typeO_ok s hs).1 (typeO_ok s hs).2).1.1
  obtain ⟨fn, hf, hcf⟩ := h
  refine acall_fin hf hcf (by simp [irLBack]) fun hcl _ => ?_
  have l1 := hL v hv
  have r1 := hR v hv
  have d1 := hD v hv (by omega)
  have t1 := hT v hv hvw
  have p2 := hP s hs
  -- the second half
  have hu := fitO s hs
  have inv := @typO_inv s
  have r2 := hR _ hu
  have t2 := fun (h : (typO s).1.wt ≤ 1048576) => hT _ hu (Nat.le_trans h (by decide))
  have back2 : (typO s).2 = 0 → (typO s).1.txt.length ≤ 16384 → (typO (typO s).1.txt).2 = 0 ∧ (typO (typO s).1.txt).1.st = (typO s).1.st := fun h0 hl => by
    obtain ⟨a, b, c, -⟩ := inv h0
    exact text_back _ a b hl c
  have p3 := fun hl => hP (typO s).1.txt hl
  have s3 := hS _ hu (typO (typO s).1.txt).1
  -- the first half
  have back1 : v.st.Rt → v.dep ≤ 12 → v.txt.length ≤ 4000 → (typO v.txt).2 = 0 ∧ (typO v.txt).1.st = v.st := fun a b hl => by
    have := (tk_len v a).2
    exact text_back v a b (by omega) (by omega)
  have p1 := fun hl => hP v.txt hl
  have s1 := hS v hv (typO v.txt).1
  unfold RightT at r1 r2
  unfold TextT at t1 t2
  unfold SameT at s1 s3
  generalize hRV : v.st.Rt = RV at *
  generalize v.dep = dv at *
  generalize v.txt = tv at *
  generalize hty : typO s = ty at *
  generalize hty1 : typO tv = ty1 at *
  obtain ⟨u, e⟩ := ty
  obtain ⟨u1, e1⟩ := ty1
  simp only at hu r2 t2 back2 p3 s3 back1 p1 s1 p2
  have inv : e = 0 → u.st.Rt ∧ u.dep ≤ 12 ∧ u.tk.length + 1 ≤ 4000 ∧ u.wt ≤ 1048576 := inv
  clear hty hty1
  generalize hURV : u.st.Rt = URV at *
  generalize htu : u.txt = tu at *
  generalize hwu : u.wt = wu at *
  generalize hty2 : typO tu = ty2 at *
  obtain ⟨u2, e2⟩ := ty2
  simp only at back2 p3 s3
  generalize hse1 : (v.st = u1.st) = SE1 at *
  generalize hse2 : (u.st = u2.st) = SE2 at *
  have bk1 : RV → dv ≤ 12 → tv.length ≤ 4000 → e1 = 0 ∧ SE1 := fun a b c => ⟨(back1 a b c).1, by rw [← hse1]; exact (back1 a b c).2.symm⟩
  have bk2 : e = 0 → tu.length ≤ 16384 → e2 = 0 ∧ SE2 := fun a b => ⟨(back2 a b).1, by rw [← hse2]; exact (back2 a b).2.symm⟩
  obtain ⟨k, z, ns, y, ps⟩ := v
  obtain ⟨k1, z1, n1, y1, ps1⟩ := u1
  obtain ⟨k2, z2, n2, y2, ps2⟩ := u
  obtain ⟨k3, z3, n3, y3, ps3⟩ := u2
  simp only [T.a_mk] at l1 r1 d1 t1 p2 r2 t2 p3 s3 p1 s1 ⊢
  simp only [irLBack]
  refine Seq_out (fun fr H' => fr 1 = .d (.str s) ∧ fr 2 = .ptr H.length 0 ∧ H' = H ++ [.box t [.d (.int .i64 k), .d (.sl z 1 (ns.map encStr)), .d (.sl y 3 (ps.map T.enc))]]) (fun _ _ => False) (by simp) (fun _ _ h => h.elim) ?_
  rintro fr H' ⟨f1, f2, rfl⟩
  have hretT : ∀ fr H', (fr 4 = .d (.bool true) ∧ ∃ X, H' = H ++ X) → Zam.Fin [Res.t 4] H.length (fun r H' => r = .d (.bool true) ∧ H' = H) .ret fr H' := by
    rintro fr H' ⟨f4, X, rfl⟩
    simp [RetK, f4, cut_app hcl]
  refine Seq_out (fun fr H' => fr 1 = .d (.str s) ∧ fr 2 = .ptr H.length 0 ∧ H' = H ++ [.box t [.d (.int .i64 k), .d (.sl z 1 (ns.map encStr)), .d (.sl y 3 (ps.map T.enc))]]) (fun fr H' => fr 4 = .d (.bool true) ∧ ∃ X, H' = H ++ X) ?_ hretT ?_
  · simp [f2]
    refine CallK_of (l1 _) ?_
    rintro r H2 ⟨⟨c, rfl⟩, rfl⟩
    cases c
    · simp
      refine CallK_of' (hA _ (hH.app _)) ?_
      simp
    · simp [f1, f2]
  rintro fr H' ⟨f1, f2, rfl⟩
  refine Seq_out (fun fr H' => fr 1 = .d (.str s) ∧ ∃ X, H' = H ++ X) (fun _ _ => False) ?_ (fun _ _ h => h.elim) ?_
  · simp [f2]
    refine CallK_of' (r1 _) ?_
    by_cases hRV' : RV
    case neg => simp [hRV', f1]
    simp [hRV', f2]
    refine CallK_of' (d1 _) ?_
    by_cases hdv : (dv : Int) ≤ 12
    case neg => simp [hdv, f1]
    simp [hdv, f2]
    refine CallK_of' (t1 _) ?_
    by_cases htv : (tv.length : Int) ≤ 4000
    case neg => simp [htv, f1]
    obtain ⟨b1, b2⟩ := bk1 hRV' (by omega) (by omega)
    simp [htv, f2]
    refine CallK_of' (t1 _) ?_
    simp
    refine CallK_of' (p1 (by omega) _ (hH.app _)) ?_
    simp [f2, b1]
    refine CallK_of' (s1 _) ?_
    simp [b2, f1]
  rintro fr H' ⟨f1, X, rfl⟩
  refine Seq_out (fun fr H' => ∃ X, H' = H ++ X) (fun _ _ => False) ?_ (fun _ _ h => h.elim) ?_
  · simp [f1]
    refine CallK_of' (p2 _ (hH.app _)) ?_
    by_cases he : e = 0
    case neg => simp [he]
    obtain ⟨i1, i2, i3, i4⟩ := inv he
    have t2 := t2 i4
    simp [he]
    refine CallK_of' (r2 _) ?_
    simp [i1]
    refine CallK_of' (t2 _) ?_
    by_cases htu' : (tu.length : Int) ≤ 16384
    case neg => simp [htu']
    obtain ⟨b1, b2⟩ := bk2 he (by omega)
    simp [htu']
    refine CallK_of' (t2 _) ?_
    simp
    refine CallK_of' (p3 (by omega) _ (hH.app _)) ?_
    simp [b1]
    refine CallK_of' (s3 _) ?_
    simp [b2]
  rintro fr H' ⟨X, rfl⟩
  simp
  refine CallK_of' (hA _ (hH.app _)) ?_
  simp
  simp [RetK, cut_app hcl]
end
end Go.Zam

namespace Go.Zam
set_option linter.all false
set_option maxRecDepth 100000
set_option maxHeartbeats 4000000
open Classical

section
variable {P : Program} {t : Nat}

end
end Go.Zam

namespace Go.Zam
set_option linter.all false
set_option maxRecDepth 100000
set_option maxHeartbeats 2000000
open Classical

section
variable {P : Program} {t : Nat}

end
end Go.Zam

namespace Go.Zam
set_option linter.all false
set_option maxRecDepth 100000
set_option maxHeartbeats 4000000
open Classical

section
variable {P : Program} {t : Nat} {H0 : Hp}

end
end Go.Zam

namespace Go.Zam
set_option linter.all false
set_option maxRecDepth 100000
set_option maxHeartbeats 4000000
open Classical

section
variable {P : Program} {t : Nat} {H0 : Hp}

end
end Go.Zam

namespace Go.Zam
set_option linter.all false
set_option maxRecDepth 100000
set_option maxHeartbeats 2000000
open Classical

def irTAwake9 (fp ft t : Nat) : IFn :=
 { nt := 14, res := [.t 0], body := (
  .seq (.ops [
    ⟨(some 0), none, .mv (.c (.bool false))⟩] false)
  (.seq (.ops [
    ⟨(some 4), none, .call fp [(.c (.str [123, 98, 58, 32, 105, 110, 116, 44, 32, 97, 58, 32, 100, 121, 110, 125]))]⟩,
    ⟨(some 3), none, .mv (.t 4)⟩,
    ⟨(some 5), none, .ext (.t 3) 0⟩,
    ⟨(some 6), none, .ext (.t 3) 1⟩,
    ⟨(some 1), none, .alloc t [(.int .i64 0), (.sl true 1 []), (.sl true 3 [])]⟩,
    ⟨none, none, .store 3 (.t 1) (.t 5)⟩,
    ⟨(some 2), none, .mv (.t 6)⟩] false)
  (.seq (.ops [
    ⟨(some 7), none, .mv (.t 2)⟩,
    ⟨(some 8), none, .bin .eql (.t 7) (.c (.int .i64 0))⟩,
    ⟨(some 9), none, .mv (.t 8)⟩,
    ⟨(some 10), (some (9, true)), .load 3 true (.t 1)⟩,
    ⟨(some 11), (some (9, true)), .call ft [(.t 10)]⟩,
    ⟨(some 12), (some (9, true)), .bin .eql (.t 11) (.c (.str [123, 97, 58, 32, 100, 121, 110, 44, 32, 98, 58, 32, 105, 110, 116, 125]))⟩,
    ⟨(some 13), none, .pick (.t 9) (.t 12) (.c (.bool false))⟩,
    ⟨(some 0), none, .mv (.t 13)⟩] false)
  (.ret)))) }

def sBA : Bs := [123, 98, 58, 32, 105, 110, 116, 44, 32, 97, 58, 32, 100, 121, 110, 125]
theorem ex_BA : typeO sBA = (N.new 32 0 9 [] 0 [nFld 1 4 [98] 29, nFld 5 8 [97] 31], 0) := by kernel_rfl
theorem recT_swap {x y : Str'} (p q : T) (h : Op.bytesLess x y = true) : recT [y, x] [q, p] = (.new 3 [x, y] [p, q], 0) := by
  have h1 : cP (x, p) (y, q) < 0 := cP_lt.2 h
  have hs : ssort cP [(y, q), (x, p)] = [(x, p), (y, q)] := ssort_cons (a := [(x, p)]) (b := []) (x := (y, q)) cP_cmp (by simp [Sorted]) (by simpa using h1) (by simp)
  have hd : ¬ Dup [(x, p), (y, q)] := by
    rintro ⟨j, a, b, h1, h2, e⟩
    match j with
    | 0 =>
      simp at h1 h2
      subst h1; subst h2
      simp only at e
      subst e
      rw [bl_irrefl] at h; cases h
    | j + 1 => simp at h2
  unfold recT
  rw [if_pos (show [y, x].length = [q, p].length from rfl), show [y, x].zip [q, p] = [(y, q), (x, p)] from rfl, hs, if_neg hd]
  rfl
theorem typ_swap {a b f t f' t' : Int} {w w' : Bs} {k k' : Int} {v v' : T} (h : (N.new k (f + 2) (f + 3) [] 0 []).ty = (v, 0)) (h' : (N.new k' (f' + 2) (f' + 3) [] 0 []).ty = (v', 0)) (hv : v.dep = 1) (hv' : v'.dep = 1) (hw : Op.bytesLess w' w = true) :
    (N.new 32 a b [] 0 [nFld f t w k, nFld f' t' w' k']).typ = (T.new 3 [w', w] [v', v], 0) := by
  have e : (N.new 32 a b [] 0 [nFld f t w k, nFld f' t' w' k']).ty = (T.new 3 [w', w] [v', v], 0) := by
    rw [N.new, N.ty_mk]
    have hb : badE ([nFld f t w k, nFld f' t' w' k'].map N.fty) = 0 := by simp [fld_ty, h, h', badE]
    rw [if_neg (by decide), if_neg (by decide), if_neg (by decide), if_pos rfl, if_neg (by rw [hb]; exact fun h => h rfl)]
    simp only [List.map_cons, List.map_nil, fld_ty, h, h']
    exact recT_swap v' v hw
  unfold N.typ
  rw [e, if_neg (by simp), if_neg (by rw [T.new, T.dep_mk]; simp [T.deps, hv, hv'])]
theorem typ_BA : typO sBA = (T.new 3 [[97], [98]] [T.nil, tI], 0) := by
  unfold typO
  rw [ex_BA]
  exact typ_swap (leaf_ty _ _).1 (leaf_ty _ _).2.2 rfl rfl (by decide)
theorem txt_BA : (T.new 3 [[97], [98]] [T.nil, tI]).txt = [123, 97, 58, 32, 100, 121, 110, 44, 32, 98, 58, 32, 105, 110, 116, 125] := by kernel_rfl

section
variable {P : Program} {t : Nat} {H0 : Hp}

/-- whetstonelaw09.awake -/
theorem Has.tAwake9 {f fp ft : FuncId} (h : Has P f (irTAwake9 fp ft t))
    (hp : ∀ s, s.length ≤ 1048576 → ∀ H, Pre0 H0 H → ACall P fp [.d (.str s)] H (fun r H' => r = .tup [(typO s).1.a, .d (.int .i64 (typO s).2)] ∧ H' = H))
    (hT : ∀ v : T, v.Fit 1048576 → v.wt ≤ 1099511627776 → TextT P ft v) : AwakeT P H0 f := by
  intro H hH
  obtain ⟨fn, hf, hcf⟩ := h
  refine acall_fin hf hcf (by simp [irTAwake9]) fun hcl _ => ?_
  have p1 := fun H hH => hp sBA (by decide) H hH
  have p2 := hT (T.new 3 [[97], [98]] [T.nil, tI]) (two_fit (by decide) (by decide) (nil_fit) tI_fit) (by decide)
  unfold TextT at p2
  rw [typ_BA] at p1
  rw [txt_BA] at p2
  simp only [sBA] at p1
  simp only [T.new, T.nil, tI, T.a_mk, T.enc_mk, List.map_cons, List.map_nil] at p1 p2
  simp [irTAwake9]
  refine CallK_of' (p1 _ hH) ?_
  simp
  refine CallK_of' (p2 _) ?_
  simp
  simp [RetK, cut_appk hcl, cut_app hcl]
end
end Go.Zam

set_option linter.all false
namespace Go.Proofs
open Go.Shelf Go.RowKit
variable {P : Program} {ρ : Ren}

set_option maxHeartbeats 32000000 in
set_option maxRecDepth 100000 in
theorem AnyPu.internal_strconv_ParseUint_10_b63 (L : LaysPu.n16 P ρ) (t : ByteArray) (hne : t.size ≠ 0) (hmax : t.size ≤ 9223372036854775806) (w : World) :
    Calls P (ρ.f 16) #[.string t, .int .i64 10, .int .i64 63] w fun e w' => e = .returned (Lib.uintTupleM (ρ.t 34) 9223372036854775807 (Lib.parseUintM 9223372036854775807 0 t.data.toList)) ∧ w' = Lib.bytesWorld w (ρ.t 5) t := by
  have mixed := L.mixed
  have t9 := L.t9; have a9 := L.a9; have z9 := L.z9; have v9 := L.v9
  have t3 := L.t3; have a3 := L.a3; have z3 := L.z3; have v3 := L.v3
  have t22 := L.t22; have a22 := L.a22; have z22 := L.z22; have v22 := L.v22
  have t24 := L.t24; have a24 := L.a24; have z24 := L.z24; have v24 := L.v24
  have t4 := L.t4; have a4 := L.a4; have z4 := L.z4; have v4 := L.v4
  have t34 := L.t34; have a34 := L.a34; have z34 := L.z34; have v34 := L.v34
  have t5 := L.t5; have a5 := L.a5; have z5 := L.z5; have v5 := L.v5
  have t36 := L.t36; have a36 := L.a36; have z36 := L.z36; have v36 := L.v36
  have t37 := L.t37; have a37 := L.a37; have z37 := L.z37; have v37 := L.v37
  have t0 := L.t0; have a0 := L.a0; have z0 := L.z0; have v0 := L.v0
  have e19 : ∀ args w, (callFunc (ρ.f 19) args).run P w = .ok (.enter (ρ.f 19) args) w := enters_of L.f19 (by kernel_rfl) rfl
  have hemp : t.toList.isEmpty = false := by
    rw [← decide_eq_emptyBytes]
    exact decide_eq_false (fun h => hne (by rw [h]; rfl))
  have hcv := Lib.run_convert_string_bytes (P := P) w (ρ.t 9) (ρ.t 37) (ρ.t 5) t (u := .string) L.t9 L.t37 L.t5
  have hB : ∀ j, j < t.size → (Lib.bytesWorld w (ρ.t 5) t).cell? ⟨w.heap.size, j, none⟩ = some (.int .u8 (t.data.toList.getD j 0).toNat) := fun j hj => Lib.bytesWorld_cell w (ρ.t 5) t j hj
  obtain ⟨W1, hW1⟩ : ∃ W1, W1 = Lib.bytesWorld w (ρ.t 5) t := ⟨_, rfl⟩
  rw [← hW1] at hcv hB ⊢
  clear hW1
  obtain ⟨bs, hL⟩ : ∃ bs, bs = t.data.toList := ⟨_, rfl⟩
  have hLn : bs.length = t.size := by rw [hL, Lib.size_eq]
  rw [← hL] at hB ⊢
  clear hL
  -- 'maxVal := uint64(1)<<uint(bitSize) - 1': its value, for the walk to take
  have hmv : IntKind.u64.wrap (IntKind.u64.wrap 9223372036854775808 - 1) = 9223372036854775807 := by
    rw [IntKind.wrap_u64, IntKind.wrap_u64]
    decide
  go_enter L.f16, BodyPu.n16_ntmps ρ
  go_wp2
  go_loop [12, 13, 101] (fun vu vn vi => ∃ (k acc : Nat) (a : Int), vu = .bool false ∧ vn = .int .u64 a ∧ vi = .int .i64 k ∧ k ≤ t.size ∧ Hid (a = (acc : Int) ∧ acc ≤ 9223372036854775807 ∧ Lib.parseUintM 9223372036854775807 0 bs = Lib.parseUintM 9223372036854775807 acc (bs.drop k)))
    (fun _ _ vi => t.size - (intOf vi).toNat)
  case atStart => exact ⟨0, 0, 0, rfl, rfl, rfl, by omega, rfl, by omega, rfl⟩
  case round =>
    obtain ⟨k, acc, a, rfl, rfl, rfl, hk, hh⟩ := hrel
    obtain ⟨ha, hacc, hdec⟩ := hh.out
    clear hh
    have a0 : 0 ≤ a := by omega
    have a1 : a ≤ 9223372036854775807 := by omega
    by_cases hkn : k < t.size
    · have hc := hB k hkn
      have hdrop : bs.drop k = bs[k]'(by omega) :: bs.drop (k + 1) := List.drop_eq_getElem_cons (by omega)
      have hget : bs.getD k 0 = bs[k]'(by omega) := by simp [List.getD, List.getElem?_eq_getElem (show k < bs.length by omega)]
      rw [hdrop] at hdec
      rw [hget] at hc
      generalize bs[k]'(by omega) = c at hc hdec
      have hc256 : c.toNat < 256 := c.toNat_lt
      clear hB hdrop hget
      by_cases hdig : 48 ≤ c.toNat ∧ c.toNat ≤ 57
      · obtain ⟨hd0, hd1⟩ := hdig
        by_cases hcut : 1844674407370955162 ≤ acc
        · have hF : Lib.parseUintM 9223372036854775807 acc (c :: bs.drop (k + 1)) = .range := by simp [Lib.parseUintM, hd0, hd1, hcut]
          rw [hF] at hdec
          have icut : 1844674407370955162 ≤ a := by omega
          clear hcut hacc hF ha
          go_wp2
          go_ret2
          exact ⟨rfl, rfl⟩
        by_cases hov2 : 18446744073709551616 ≤ acc * 10 + (c.toNat - 48)
        · have hov : 9223372036854775807 < acc * 10 + (c.toNat - 48) := by omega
          have hF : Lib.parseUintM 9223372036854775807 acc (c :: bs.drop (k + 1)) = .range := by simp [Lib.parseUintM, hd0, hd1, hcut, hov]
          rw [hF] at hdec
          have icut : a < 1844674407370955162 := by omega
          have iov : 18446744073709551616 ≤ a * 10 + ((c.toNat : Int) - 48) := by omega
          have hwr : IntKind.u64.wrap (a * 10 + ((c.toNat : Int) - 48)) = a * 10 + ((c.toNat : Int) - 48) - 18446744073709551616 := by
            rw [IntKind.wrap_u64]
            omega
          clear hcut hacc hF hov hov2 ha
          go_wp2
          go_ret2
          exact ⟨rfl, rfl⟩
        by_cases hov : 9223372036854775807 < acc * 10 + (c.toNat - 48)
        · -- OVER THE SIZE
          have hF : Lib.parseUintM 9223372036854775807 acc (c :: bs.drop (k + 1)) = .range := by simp [Lib.parseUintM, hd0, hd1, hcut, hov]
          rw [hF] at hdec
          have iov : 9223372036854775807 < a * 10 + ((c.toNat : Int) - 48) := by omega
          have iov2 : a * 10 + ((c.toNat : Int) - 48) < 18446744073709551616 := by omega
          have icut : a < 1844674407370955162 := by omega
          clear hcut hacc hF hov hov2 ha
          go_wp2
          go_ret2
          exact ⟨rfl, rfl⟩
        · have hF : Lib.parseUintM 9223372036854775807 acc (c :: bs.drop (k + 1)) = Lib.parseUintM 9223372036854775807 (acc * 10 + (c.toNat - 48)) (bs.drop (k + 1)) := by simp [Lib.parseUintM, hd0, hd1, hcut, hov]
          have HN : Hid (a * 10 + ((c.toNat : Int) - 48) = ((acc * 10 + (c.toNat - 48) : Nat) : Int) ∧ acc * 10 + (c.toNat - 48) ≤ 9223372036854775807 ∧ Lib.parseUintM 9223372036854775807 0 bs = Lib.parseUintM 9223372036854775807 (acc * 10 + (c.toNat - 48)) (bs.drop (k + 1))) := Lib.hid ⟨by omega, by omega, hdec.trans hF⟩
          have iov : a * 10 + ((c.toNat : Int) - 48) ≤ 9223372036854775807 := by omega
          have icut : a < 1844674407370955162 := by omega
          clear hcut hacc hF hov hov2 hdec ha
          go_wp2
          refine ⟨⟨k + 1, acc * 10 + (c.toNat - 48), a * 10 + ((c.toNat : Int) - 48), rfl, (by first | rfl | (congr 1; omega)), (by first | rfl | (congr 1; omega)), by omega, HN⟩, by simp [intOf]; omega⟩
      · -- NO DIGIT: whatever way the text goes: (0, ErrSyntax)
        have hF : Lib.parseUintM 9223372036854775807 acc (c :: bs.drop (k + 1)) = Lib.NumEnd.syntax := by simp [Lib.parseUintM, hdig]
        rw [hF] at hdec
        clear hacc hF ha
        have hv0 := bits_lo_u8 .or (c.toNat : Int) 32
        have hv1 := bits_hi_u8 .or (c.toNat : Int) 32
        have hu0 := bits_lo_u8 .or 95 32       -- at '_' the walk writes the byte out
        have hu1 := bits_hi_u8 .or 95 32
        go_wp2_with (go_at_fn (ρ.f 19); refine (AnyPu.internal_strconv_lower { L with } _ _).mono ?_; rintro e w' ⟨rfl, rfl⟩)
        all_goals go_ret2
        all_goals first | exact ⟨rfl, rfl⟩ | exact ⟨by rw [hdec]; rfl, rfl⟩
    · -- THE BYTES ARE AT AN END
      have hkk : k = t.size := by omega
      subst hkk
      have hF : Lib.parseUintM 9223372036854775807 acc (bs.drop t.size) = .ok acc := by rw [List.drop_eq_nil_of_le (by omega)]; rfl
      rw [hF] at hdec
      subst ha
      clear hacc hF a0 a1
      go_wp2
      go_ret2
      exact ⟨rfl, rfl⟩



theorem AnyPu.internal_strconv_ParseUint_10_at63 (L : LaysPu.n16 P ρ) (t : ByteArray) (hmax : t.size ≤ 9223372036854775806) (w : World) :
    Calls P (ρ.f 16) #[.string t, .int .i64 10, .int .i64 63] w fun e w' => e = .returned (Lib.uintTupleM (ρ.t 34) 9223372036854775807 (Lib.parseUintB 63 t.data.toList)) ∧ (w' = w ∨ w' = Lib.bytesWorld w (ρ.t 5) t) := by
  have eM : (2 : Nat) ^ 63 - 1 = 9223372036854775807 := by decide
  by_cases h0 : t.size = 0
  · have ht : t = ⟨#[]⟩ := by
      apply ByteArray.ext
      exact Array.eq_empty_of_size_eq_zero h0
    subst ht
    exact (AnyPu.internal_strconv_ParseUint_empty { L with } 10 63 w).mono fun e w' ⟨he, hw⟩ => ⟨he, Or.inl hw⟩
  · have hne : t.data.toList ≠ [] := fun h => h0 (by rw [Lib.size_eq, h]; rfl)
    refine (AnyPu.internal_strconv_ParseUint_10_b63 { L with } t h0 hmax w).mono fun e w' ⟨he, hw⟩ => ⟨?_, Or.inr hw⟩
    rw [he, Lib.parseUintB, if_neg hne, eM]


set_option maxHeartbeats 4000000 in
set_option maxRecDepth 100000 in
theorem Any.strconv_ParseUint_10_at63_ok (L : LaysPu.n14 P ρ) (s : ByteArray) (hmax : s.size ≤ 9223372036854775806) (u : Nat) (h : Lib.parseUintB 63 s.data.toList = .ok u) (w : World) :
    Calls P (ρ.f 14) #[.string s, .int .i64 10, .int .i64 63] w fun e w' => e = .returned (.tuple #[.int .u64 u, .nilIface]) ∧ (w' = w ∨ w' = Lib.bytesWorld w (ρ.t 5) s) := by
  have mixed := L.mixed
  have t9 := L.t9; have a9 := L.a9; have z9 := L.z9; have v9 := L.v9
  have t3 := L.t3; have a3 := L.a3; have z3 := L.z3; have v3 := L.v3
  have t22 := L.t22; have a22 := L.a22; have z22 := L.z22; have v22 := L.v22
  have t24 := L.t24; have a24 := L.a24; have z24 := L.z24; have v24 := L.v24
  have t25 := L.t25; have a25 := L.a25; have z25 := L.z25; have v25 := L.v25
  have t4 := L.t4; have a4 := L.a4; have z4 := L.z4; have v4 := L.v4
  have e16 : ∀ args w, (callFunc (ρ.f 16) args).run P w = .ok (.enter (ρ.f 16) args) w := enters_of L.f16 (by kernel_rfl) rfl
  have hI := AnyPu.internal_strconv_ParseUint_10_at63 { L with } s hmax w
  rw [h] at hI
  have hI : Calls P (ρ.f 16) #[.string s, .int .i64 10, .int .i64 63] w fun e w' => e = .returned (.tuple #[.int .u64 u, .nilIface]) ∧ (w' = w ∨ w' = Lib.bytesWorld w (ρ.t 5) s) := hI
  clear h
  go_enter L.f14, BodyPu.n14_ntmps ρ
  go_wp2_with (go_at_fn (ρ.f 16); refine hI.mono ?_; rintro e W1 ⟨rfl, hW⟩)
  go_wp2
  go_ret2
  exact ⟨rfl, hW⟩

set_option maxHeartbeats 4000000 in
set_option maxRecDepth 100000 in
theorem Any.strconv_ParseUint_10_at63_syntax (L : LaysPu.n14 P ρ) (s : ByteArray) (hlim : s.size ≤ 281474976710656) (h : Lib.parseUintB 63 s.data.toList = Lib.NumEnd.syntax) (ev : Value) (w : World) (hv : w.cell? ⟨(ρ.g 0), 0, none⟩ = some ev) (hev : ev = .nilIface ∨ ∃ te pe, ev = .iface te pe) :
    Calls P (ρ.f 14) #[.string s, .int .i64 10, .int .i64 63] w fun e w' => ∃ N, e = .returned (.tuple #[.int .u64 0, .iface (ρ.t 39) (.pointer (some ⟨N, 0, none⟩))]) ∧ w.heap.size ≤ N ∧ w'.heap[N]? = some (.cells #[.string ⟨#[80, 97, 114, 115, 101, 85, 105, 110, 116]⟩, .string s, ev] (ρ.t 44) (0, 0)) ∧ Below w.heap.size w w' := by
  have mixed := L.mixed
  have t9 := L.t9; have a9 := L.a9; have z9 := L.z9; have v9 := L.v9
  have t3 := L.t3; have a3 := L.a3; have z3 := L.z3; have v3 := L.v3
  have t22 := L.t22; have a22 := L.a22; have z22 := L.z22; have v22 := L.v22
  have t24 := L.t24; have a24 := L.a24; have z24 := L.z24; have v24 := L.v24
  have t25 := L.t25; have a25 := L.a25; have z25 := L.z25; have v25 := L.v25
  have t4 := L.t4; have a4 := L.a4; have z4 := L.z4; have v4 := L.v4
  have e16 : ∀ args w, (callFunc (ρ.f 16) args).run P w = .ok (.enter (ρ.f 16) args) w := enters_of L.f16 (by kernel_rfl) rfl
  have e17 : ∀ args w, (callFunc (ρ.f 17) args).run P w = .ok (.enter (ρ.f 17) args) w := enters_of L.f17 (by kernel_rfl) rfl
  have hG : (ρ.g 0) < w.heap.size := Lib.lt_of_cell hv
  have hI := AnyPu.internal_strconv_ParseUint_10_at63 { L with } s (by omega) w
  rw [h] at hI
  have hI : Calls P (ρ.f 16) #[.string s, .int .i64 10, .int .i64 63] w fun e w' => e = .returned (.tuple #[.int .u64 0, .iface (ρ.t 34) (.int .i64 2)]) ∧ (w' = w ∨ w' = Lib.bytesWorld w (ρ.t 5) s) := hI
  clear h
  go_enter L.f14, BodyPu.n14_ntmps ρ
  go_wp2_with (go_at_fn (ρ.f 16); refine hI.mono ?_)
  rintro e W1 ⟨rfl, hW⟩
  have hb1 : Below w.heap.size w W1 := by
    rcases hW with rfl | rfl
    · exact Below.refl _ _
    · exact Lib.bytesWorld_below _ _ _
  have hv1 : W1.cell? ⟨(ρ.g 0), 0, none⟩ = some ev := (hb1.cell (show (⟨(ρ.g 0), 0, none⟩ : Addr).block < w.heap.size from hG)).trans hv
  clear hW
  go_wp2_with (go_at_fn (ρ.f 17); refine (AnyPu.strconv_toError_syntax { L with } ⟨#[80, 97, 114, 115, 101, 85, 105, 110, 116]⟩ s 10 63 ev _ hlim ?_ hev).mono ?_)
  · exact hv1
  rintro e W2 ⟨N, rfl, h1, h2, h3⟩
  go_wp2
  go_ret2
  exact ⟨N, rfl, Nat.le_trans hb1.size h1, h2, hb1.trans (h3.mono hb1.size)⟩

set_option maxHeartbeats 4000000 in
set_option maxRecDepth 100000 in
theorem Any.strconv_ParseUint_10_at63_range (L : LaysPu.n14 P ρ) (s : ByteArray) (hlim : s.size ≤ 281474976710656) (h : Lib.parseUintB 63 s.data.toList = .range) (ev : Value) (w : World) (hv : w.cell? ⟨(ρ.g 1), 0, none⟩ = some ev) (hev : ev = .nilIface ∨ ∃ te pe, ev = .iface te pe) :
    Calls P (ρ.f 14) #[.string s, .int .i64 10, .int .i64 63] w fun e w' => ∃ N, e = .returned (.tuple #[.int .u64 9223372036854775807, .iface (ρ.t 39) (.pointer (some ⟨N, 0, none⟩))]) ∧ w.heap.size ≤ N ∧ w'.heap[N]? = some (.cells #[.string ⟨#[80, 97, 114, 115, 101, 85, 105, 110, 116]⟩, .string s, ev] (ρ.t 44) (0, 0)) ∧ Below w.heap.size w w' := by
  have mixed := L.mixed
  have t9 := L.t9; have a9 := L.a9; have z9 := L.z9; have v9 := L.v9
  have t3 := L.t3; have a3 := L.a3; have z3 := L.z3; have v3 := L.v3
  have t22 := L.t22; have a22 := L.a22; have z22 := L.z22; have v22 := L.v22
  have t24 := L.t24; have a24 := L.a24; have z24 := L.z24; have v24 := L.v24
  have t25 := L.t25; have a25 := L.a25; have z25 := L.z25; have v25 := L.v25
  have t4 := L.t4; have a4 := L.a4; have z4 := L.z4; have v4 := L.v4
  have e16 : ∀ args w, (callFunc (ρ.f 16) args).run P w = .ok (.enter (ρ.f 16) args) w := enters_of L.f16 (by kernel_rfl) rfl
  have e17 : ∀ args w, (callFunc (ρ.f 17) args).run P w = .ok (.enter (ρ.f 17) args) w := enters_of L.f17 (by kernel_rfl) rfl
  have hG : (ρ.g 1) < w.heap.size := Lib.lt_of_cell hv
  have hI := AnyPu.internal_strconv_ParseUint_10_at63 { L with } s (by omega) w
  rw [h] at hI
  have hI : Calls P (ρ.f 16) #[.string s, .int .i64 10, .int .i64 63] w fun e w' => e = .returned (.tuple #[.int .u64 9223372036854775807, .iface (ρ.t 34) (.int .i64 1)]) ∧ (w' = w ∨ w' = Lib.bytesWorld w (ρ.t 5) s) := hI
  clear h
  go_enter L.f14, BodyPu.n14_ntmps ρ
  go_wp2_with (go_at_fn (ρ.f 16); refine hI.mono ?_)
  rintro e W1 ⟨rfl, hW⟩
  have hb1 : Below w.heap.size w W1 := by
    rcases hW with rfl | rfl
    · exact Below.refl _ _
    · exact Lib.bytesWorld_below _ _ _
  have hv1 : W1.cell? ⟨(ρ.g 1), 0, none⟩ = some ev := (hb1.cell (show (⟨(ρ.g 1), 0, none⟩ : Addr).block < w.heap.size from hG)).trans hv
  clear hW
  go_wp2_with (go_at_fn (ρ.f 17); refine (AnyPu.strconv_toError_range { L with } ⟨#[80, 97, 114, 115, 101, 85, 105, 110, 116]⟩ s 10 63 ev _ hlim ?_ hev).mono ?_)
  · exact hv1
  rintro e W2 ⟨N, rfl, h1, h2, h3⟩
  go_wp2
  go_ret2
  exact ⟨N, rfl, Nat.le_trans hb1.size h1, h2, hb1.trans (h3.mono hb1.size)⟩


end Go.Proofs

namespace Go.Proofs.Zy
open Go Go.Zam Go.Proofs
set_option maxRecDepth 100000
theorem tcf72 : compF Tryz.prog [7] Tryz.f72 = some (irTkLex 87 88 89 109 95) := by kernel_rfl
theorem h72 : HasT Tryz.prog [7] 72 (irTkLex 87 88 89 109 95) := ⟨_, Tryz.func72, tcf72⟩
theorem tcf67 : compF Tryz.prog [] Tryz.f67 = some (irTkIsKey 84 83) := by kernel_rfl
theorem h67 : Has Tryz.prog 67 (irTkIsKey 84 83) := ⟨_, Tryz.func67, tcf67⟩
theorem tcf50 : compF Tryz.prog [] Tryz.f50 = some (irTkIsName 66 67 68) := by kernel_rfl
theorem h50 : Has Tryz.prog 50 (irTkIsName 66 67 68) := ⟨_, Tryz.func50, tcf50⟩
theorem tcf87 : compF Tryz.prog [] Tryz.f87 = some (irRnBad 111) := by kernel_rfl
theorem h87 : Has Tryz.prog 87 (irRnBad 111) := ⟨_, Tryz.func87, tcf87⟩
theorem tcf88 : compF Tryz.prog [] Tryz.f88 = some (irScLead 112 113 114 115) := by kernel_rfl
theorem h88 : Has Tryz.prog 88 (irScLead 112 113 114 115) := ⟨_, Tryz.func88, tcf88⟩
theorem tcf89 : compF Tryz.prog [] Tryz.f89 = some (irScNext 112 66 116 67 68 117 118 119 95) := by kernel_rfl
theorem h89 : Has Tryz.prog 89 (irScNext 112 66 116 67 68 117 118 119 95) := ⟨_, Tryz.func89, tcf89⟩
theorem tcf83 : compF Tryz.prog [] Tryz.f83 = some (irSlHas 44) := by kernel_rfl
theorem h83 : Has Tryz.prog 83 (irSlHas 44) := ⟨_, Tryz.func83, tcf83⟩
theorem tcf44 : compF Tryz.prog [] Tryz.f44 = some (irSlIdx) := by kernel_rfl
theorem h44 : Has Tryz.prog 44 (irSlIdx) := ⟨_, Tryz.func44, tcf44⟩
theorem tcf84 : compF Tryz.prog [] Tryz.f84 = some (irTkKeys) := by kernel_rfl
theorem h84 : Has Tryz.prog 84 (irTkKeys) := ⟨_, Tryz.func84, tcf84⟩
theorem tcf66 : compF Tryz.prog [] Tryz.f66 = some (irLetter) := by kernel_rfl
theorem h66 : Has Tryz.prog 66 (irLetter) := ⟨_, Tryz.func66, tcf66⟩
theorem tcf68 : compF Tryz.prog [] Tryz.f68 = some (irDigit) := by kernel_rfl
theorem h68 : Has Tryz.prog 68 (irDigit) := ⟨_, Tryz.func68, tcf68⟩
theorem tcf112 : compF Tryz.prog [] Tryz.f112 = some (irScMore) := by kernel_rfl
theorem h112 : Has Tryz.prog 112 (irScMore) := ⟨_, Tryz.func112, tcf112⟩
theorem tcf113 : compF Tryz.prog [] Tryz.f113 = some (irTkBlank) := by kernel_rfl
theorem h113 : Has Tryz.prog 113 (irTkBlank) := ⟨_, Tryz.func113, tcf113⟩
theorem tcf114 : compF Tryz.prog [] Tryz.f114 = some (irScHash) := by kernel_rfl
theorem h114 : Has Tryz.prog 114 (irScHash) := ⟨_, Tryz.func114, tcf114⟩
theorem tcf115 : compF Tryz.prog [] Tryz.f115 = some (irScNoNl) := by kernel_rfl
theorem h115 : Has Tryz.prog 115 (irScNoNl) := ⟨_, Tryz.func115, tcf115⟩
theorem tcf116 : compF Tryz.prog [] Tryz.f116 = some (irScWord 112 127) := by kernel_rfl
theorem h116 : Has Tryz.prog 116 (irScWord 112 127) := ⟨_, Tryz.func116, tcf116⟩
theorem tcf127 : compF Tryz.prog [] Tryz.f127 = some (irScWordB 66 68) := by kernel_rfl
theorem h127 : Has Tryz.prog 127 (irScWordB 66 68) := ⟨_, Tryz.func127, tcf127⟩
theorem tcf118 : compF Tryz.prog [] Tryz.f118 = some (irScStr 129) := by kernel_rfl
theorem h118 : Has Tryz.prog 118 (irScStr 129) := ⟨_, Tryz.func118, tcf118⟩
theorem tcf119 : compF Tryz.prog [] Tryz.f119 = some (irScSign 130 131) := by kernel_rfl
theorem h119 : Has Tryz.prog 119 (irScSign 130 131) := ⟨_, Tryz.func119, tcf119⟩
theorem tcf129 : compF Tryz.prog [4] Tryz.f129 = some (irRnUnquote 135 136 71 80 5) := by kernel_rfl
theorem h129 : HasT Tryz.prog [4] 129 (irRnUnquote 135 136 71 80 5) := ⟨_, Tryz.func129, tcf129⟩
theorem tcf130 : compF Tryz.prog [] Tryz.f130 = some (irTkSigns) := by kernel_rfl
theorem h130 : Has Tryz.prog 130 (irTkSigns) := ⟨_, Tryz.func130, tcf130⟩
theorem tcf48 : compF Tryz.prog [] Tryz.f48 = some (irIsName 61 62 63) := by kernel_rfl
theorem h48 : Has Tryz.prog 48 (irIsName 61 62 63) := ⟨_, Tryz.func48, tcf48⟩
theorem tcf63 : compF Tryz.prog [] Tryz.f63 = some (irLetter) := by kernel_rfl
theorem h63 : Has Tryz.prog 63 (irLetter) := ⟨_, Tryz.func63, tcf63⟩
end Go.Proofs.Zy

namespace Go.Proofs.Zy
open Go Go.Zam Go.Proofs Go.Shelf
set_option maxRecDepth 100000
def bldRen : Ren := ⟨fun n => match n with | 240 => 85 | 276 => 109 | 169 => 71 | n => n, fun t => match t with | 0 => 0 | 3 => 3 | 4 => 4 | 5 => 5 | 9 => 9 | 20 => 20 | 37 => 78 | 70 => 77 | 72 => 80 | 127 => 105 | 164 => 130 | n => n, fun g => g⟩

theorem lay240 : Lays.n240 Tryz.prog bldRen where
  mixed := by kernel_rfl
  f240 := Tryz.func85.trans (congrArg some (by kernel_rfl))
  f276 := Tryz.func109.trans (congrArg some (by kernel_rfl))
  t0 := by kernel_rfl
  a0 := Tryz.isAgg0
  z0 := fun _ => by kernel_rfl
  v0 := Tryz.zeroValue0
  t4 := by kernel_rfl
  a4 := Tryz.isAgg4
  z4 := fun _ => by kernel_rfl
  v4 := Tryz.zeroValue4
  t9 := by kernel_rfl
  a9 := Tryz.isAgg9
  z9 := fun _ => by kernel_rfl
  v9 := Tryz.zeroValue9
  t20 := by kernel_rfl
  a20 := Tryz.isAgg20
  z20 := fun _ => by kernel_rfl
  v20 := Tryz.zeroValue20
  t70 := by kernel_rfl
  a70 := Tryz.isAgg77
  z70 := fun _ => by kernel_rfl
  v70 := Tryz.zeroValue77
  t72 := by kernel_rfl
  a72 := Tryz.isAgg80
  z72 := fun _ => by kernel_rfl
  v72 := Tryz.zeroValue80
  t164 := by kernel_rfl
  a164 := Tryz.isAgg130
  z164 := fun _ => by kernel_rfl
  v164 := Tryz.zeroValue130
theorem lay169 : Lays.n169 Tryz.prog bldRen where
  mixed := by kernel_rfl
  f169 := Tryz.func71.trans (congrArg some (by kernel_rfl))
  t0 := by kernel_rfl
  a0 := Tryz.isAgg0
  z0 := fun _ => by kernel_rfl
  v0 := Tryz.zeroValue0
  t3 := by kernel_rfl
  a3 := Tryz.isAgg3
  z3 := fun _ => by kernel_rfl
  v3 := Tryz.zeroValue3
  t9 := by kernel_rfl
  a9 := Tryz.isAgg9
  z9 := fun _ => by kernel_rfl
  v9 := Tryz.zeroValue9
  t37 := by kernel_rfl
  a37 := Tryz.isAgg78
  z37 := fun _ => by kernel_rfl
  v37 := Tryz.zeroValue78
  t70 := by kernel_rfl
  a70 := Tryz.isAgg77
  z70 := fun _ => by kernel_rfl
  v70 := Tryz.zeroValue77
  t72 := by kernel_rfl
  a72 := Tryz.isAgg80
  z72 := fun _ => by kernel_rfl
  v72 := Tryz.zeroValue80
  t127 := by kernel_rfl
  a127 := Tryz.isAgg105
  z127 := fun _ => by kernel_rfl
  v127 := Tryz.zeroValue105
theorem bldExtra : Builder.Extra Tryz.prog bldRen where
  sizeBuilder := by kernel_rfl
  liesBuilder := by kernel_rfl
  t5 := by kernel_rfl
  a5 := Tryz.isAgg5
  z5 := fun _ => by kernel_rfl
  v5 := Tryz.zeroValue5
  infoByte := by kernel_rfl
  cellsByte := by kernel_rfl
  sizeByte := by kernel_rfl
  neB5 := by decide

theorem copyCheckOk {H : Hp} {i : Nat} {x a : A} (hi : H[i]? = some (.box 80 [a, x])) (ha : a = .d .nilp ∨ a = .ptr i 0) :
    ACall Tryz.prog 85 [.ptr i 0] H (fun r H' => r = .tup [] ∧ H' = H.set i (.box 80 [.ptr i 0, x])) := copyCheck_acall lay240 bldExtra.toX72 hi ha

theorem stringOk {H : Hp} {i t : Nat} {a : A} {s : List UInt8} (hi : H[i]? = some (.box 80 [a, .osl true 1 (byteRows s) t])) (ht : H[t]? = some (.tok s.length 1 5)) (hlen : s.length ≤ 4611686018427387904) :
    ACall Tryz.prog 71 [.ptr i 0] H (fun r H' => r = .d (.str s) ∧ H' = H) := string_acall lay169 bldExtra hi ht hlen
end Go.Proofs.Zy

namespace Go.Proofs.Zy
open Go Go.Zam Go.Proofs
open Go.RowKit (Below)
set_option maxRecDepth 100000
set_option linter.all false
set_option maxHeartbeats 1000000

theorem indexOk : IndexOk Tryz.prog 135 := fun s c H => by
  refine leaf (args := [.str s, .int .u8 c.toNat]) (x := .int .i64 (Lib.indexByte s c)) (fun w σ vs _ hl hv => ?_) H
  match vs, hl with
  | [v0, v1], _ =>
  have e0 := (hv 0 v0 _ rfl rfl).str_inv
  have e1 := (hv 1 v1 _ rfl rfl).int_inv
  subst e0; subst e1
  refine (Tryz.strings_IndexByte ⟨s.toArray⟩ c.toNat w).mono ?_
  rintro e w' ⟨rfl, rfl⟩
  refine ⟨_, rfl, Below.refl _ _, fun σ => ?_⟩
  have : (Int.toNat (c.toNat : Int)).toUInt8 = c := by simp
  rw [this]
  exact .int _ _

theorem prefixOk : PrefixOk Tryz.prog 131 := fun s p H => by
  refine leaf (args := [.str s, .str p]) (x := .bool (p.isPrefixOf s)) (fun w σ vs _ hl hv => ?_) H
  match vs, hl with
  | [v0, v1], _ =>
  have e0 := (hv 0 v0 _ rfl rfl).str_inv
  have e1 := (hv 1 v1 _ rfl rfl).str_inv
  subst e0; subst e1
  refine (Tryz.strings_HasPrefix ⟨s.toArray⟩ ⟨p.toArray⟩ w).mono ?_
  rintro e w' ⟨rfl, rfl⟩
  exact ⟨_, rfl, Below.refl _ _, fun σ => .bool _⟩

theorem decodeOk {H0 : Hp} (hG : TabsG 1 2 3 4 H0) : DecodeOk Tryz.prog H0 111 := fun s H hp => by
  refine leafG (args := [.str s]) hG (fun w σ vs hT hl hv => ?_) H hp
  match vs, hl with
  | [v0], _ =>
  have e0 := (hv 0 v0 _ rfl rfl).str_inv
  subst e0
  refine (Tryz.utf8_DecodeRuneInString ⟨s.toArray⟩ w hT.1).mono ?_
  rintro e w' ⟨rfl, hb⟩
  refine ⟨_, rfl, hb, fun κ => ?_⟩
  rw [decodeGo_eq]
  refine VR.tup [_, _] [_, _] rfl fun i v a hi ha => ?_
  match i with
  | 0 => cases hi; cases ha; exact .d (.int _ _)
  | 1 => cases hi; cases ha; exact .d (.int _ _)
  | i + 2 => cases hi

theorem numberCalls (s : ByteArray) (hlim : s.size ≤ 1048576) (w : World) (h0 : ∃ te pe, w.cell? ⟨3, 0, none⟩ = some (.iface te pe)) (h1 : ∃ te pe, w.cell? ⟨4, 0, none⟩ = some (.iface te pe)) :
    Calls Tryz.prog 117 #[.string s] w fun e w' => e = .returned (.int .i64 (if numOk s.data.toList then 0 else 23)) ∧ Below w.heap.size w w' := by
  obtain ⟨t0, p0, h0⟩ := h0
  obtain ⟨t1, p1, h1⟩ := h1
  rcases h : Lib.parseUintB 63 s.data.toList with u | _ | _
  · have hr : numOk s.data.toList = true := by simp only [numOk, h]
    rw [hr]
    go_enter Tryz.func117, Tryz.ntmps117
    go_wp2_with (go_at_call 128; refine (Any.strconv_ParseUint_10_at63_ok Tryz.laysPu14 s (by omega) u h _).mono ?_; rintro e w' ⟨rfl, hw⟩)
    go_wp2
    go_ret
    refine ⟨by first | rfl | (congr 2; omega), ?_⟩
    rcases hw with rfl | rfl
    · exact Below.refl _ _
    · exact Lib.bytesWorld_below _ _ _
  · have hr : numOk s.data.toList = false := by simp only [numOk, h]
    rw [hr]
    go_enter Tryz.func117, Tryz.ntmps117
    go_wp2_with (go_at_call 128; refine (Any.strconv_ParseUint_10_at63_syntax Tryz.laysPu14 s (by omega) h (.iface t0 p0) _ ?_ (.inr ⟨_, _, rfl⟩)).mono ?_)
    · exact h0
    rintro e W1 ⟨N, rfl, -, -, hb⟩
    go_wp2
    go_ret
    exact ⟨rfl, hb⟩
  · have hr : numOk s.data.toList = false := by simp only [numOk, h]
    rw [hr]
    go_enter Tryz.func117, Tryz.ntmps117
    go_wp2_with (go_at_call 128; refine (Any.strconv_ParseUint_10_at63_range Tryz.laysPu14 s (by omega) h (.iface t1 p1) _ ?_ (.inr ⟨_, _, rfl⟩)).mono ?_)
    · exact h1
    rintro e W1 ⟨N, rfl, -, -, hb⟩
    go_wp2
    go_ret
    exact ⟨rfl, hb⟩

theorem numberOk {H0 : Hp} (hG : TabsG 1 2 3 4 H0) : NumOk Tryz.prog H0 117 := fun s H hp hl => by
  refine leafG (args := [.str s]) (x := .d _) hG (fun w σ vs hT hl' hv => ?_) H hp
  match vs, hl' with
  | [v0], _ =>
  have e0 := (hv 0 v0 _ rfl rfl).str_inv
  subst e0
  refine (numberCalls ⟨s.toArray⟩ (by simpa [ByteArray.size] using hl) w hT.2.1 hT.2.2).mono ?_
  rintro e w' ⟨rfl, hb⟩
  exact ⟨_, rfl, hb, fun κ => .d (.int _ _)⟩

theorem cfWB : compF Tryz.prog [] Tryz.f136 = some (irWriteByte 85 5) := by kernel_rfl
theorem copyOk : CopyOk Tryz.prog 85 80 := fun H i x a hi ha => copyCheckOk hi ha
theorem writeBOk : WriteBOk Tryz.prog 136 80 := fun H i t a bs c => writeByte_acall Tryz.func136 cfWB copyOk H i t a bs c
theorem stringOk' : StringOk Tryz.prog 71 80 := fun H i t a s hi ht hl => stringOk hi ht (by omega)
theorem unquoteOk (s : Bs) (H : Hp) (hs : s.length ≤ 1048576) : ACall Tryz.prog 129 [.d (.str s)] H (fun r H' => r = unqR (unqV s) ∧ H' = H) := h129.unquote indexOk writeBOk stringOk' s hs H

theorem letterOk : ByteOk Tryz.prog 66 letterB := h66.letter
theorem digitOk : ByteOk Tryz.prog 68 digitB := h68.digit
theorem isKeyOk (s : Bs) (H : Hp) : ACall Tryz.prog 67 [.d (.str s)] H (fun r H' => r = .d (.bool (decide (s ∈ keysL))) ∧ H' = H) := h67.isKey h84 h83 h44 s H
theorem isNameOk (s : Bs) (H : Hp) : ACall Tryz.prog 50 [.d (.str s)] H (fun r H' => r = .d (.bool (isNameB s)) ∧ H' = H) := h50.isName letterOk digitOk isKeyOk s H
theorem wordOk {H : Hp} {i : Nat} {ts : TypeId} {text : Bs} {n : Nat} (hi : H[i]? = some (scan ts text n)) (hn : n ≤ text.length) (hl : text.length ≤ 1048576) :
    ACall Tryz.prog 116 [.ptr i 0] H (fun r H' => r = .d (.str ((text.drop n).take (Zam.runN Zam.wordB (text.drop n)))) ∧ H' = H.set i (scan ts text (n + Zam.runN Zam.wordB (text.drop n)))) :=
  h116.word h112 (by kernel_rfl) (h127.wordB letterOk digitOk) hi hn (by omega)
theorem leadOk {H : Hp} {i : Nat} {text : Bs} {n : Nat} (hi : H[i]? = some (scan 109 text n)) (hn : n ≤ text.length) (hl : text.length ≤ 1048576) :
    ACall Tryz.prog 88 [.ptr i 0] H (fun r H' => r = .d (.str ((text.drop n).take (leadS false (text.drop n)))) ∧ H' = H.set i (scan 109 text (n + leadS false (text.drop n)))) :=
  h88.lead h112 (by kernel_rfl) h113.blank (by kernel_rfl) h114.hash (by kernel_rfl) h115.noNl hi hn (by omega)
theorem nextOk {H0 : Hp} (hG : TabsG 1 2 3 4 H0) {H : Hp} {i : Nat} {text : Bs} {n : Nat} (hH : Pre0 H0 H) (h0i : H0.length ≤ i) (hi : H[i]? = some (scan 109 text n)) (hn : n ≤ text.length) (hl : text.length ≤ 1048576) :
    ACall Tryz.prog 89 [.ptr i 0] H (NextQ H i 109 text n (text.drop n) (tokN (text.drop n))) :=
  h89.next h112 (by kernel_rfl) letterOk (by kernel_rfl) digitOk wordOk isKeyOk (numberOk hG) (fun hi hn hl => h118.str unquoteOk hi hn hl) (fun hi hn hl => h119.sign h130 prefixOk hi hn (by omega)) hH h0i hi hn hl
theorem badOk {H0 : Hp} (hG : TabsG 1 2 3 4 H0) (s : Bs) (H : Hp) (hs : s.length ≤ 1048576) (hH : Pre0 H0 H) : ACall Tryz.prog 87 [.d (.str s)] H (fun r H' => r = .d (.int .i64 (badS s)) ∧ H' = H) := h87.bad (decodeOk hG) s hs H hH
theorem lexOk {H0 : Hp} (hG : TabsG 1 2 3 4 H0) (s : Bs) (hs : s.length ≤ 1048576) (H : Hp) (hH : Pre0 H0 H) :
    ACall Tryz.prog 72 [.d (.str s)] H (fun r H' => r = .tup [.d (.sl true 4 ((lexS s).1.map encTk)), .d (.int .i64 (lexS s).2.1), .d (.int .i64 (lexS s).2.2)] ∧ H' = H) :=
  h72.lex (badOk hG) leadOk (nextOk hG) s hs H hH
end Go.Proofs.Zy

namespace Go.Proofs
open Go.RowKit Go.Maps Go.Sort Go.Shelf
set_option linter.all false
variable {P : Program} {ρ : Ren}

/-- an iterator's word, where whoever takes its elements leaves alone what lay before -/
def SeqGivesB (F : Fence) (n : Nat) (P : Program) (g : Nat) (lb : Array Value) (S : List (List UInt8) → Prop) (N : Nat) (w : World) : Prop :=
  ∀ (l : Nat) (J : List (List UInt8) → World → Prop) (W : World), Below w.heap.size w W → AbidesFrom W.heap.size J → (∀ s W, J s W → Below w.heap.size w W) →
    (∀ pre x W1, J pre W1 → pre.length < N → YieldAt F (n - 1) P l #[Go.Proofs.encStr x] W1 fun e W' => e = .returned (.bool true) ∧ J (pre ++ [x]) W' ∧ KeepsWalks W1 W') →
    J [] W →
    CallsIn F n P g (#[.func (.yield l) #[] #[]] ++ lb) W fun e W' => (∃ v, e = .returned v) ∧ ∃ xs, S xs ∧ J xs W'

set_option maxRecDepth 100000 in
set_option maxHeartbeats 2000000 in
theorem appendSeqB_in (L : SlLaysZ.n11 P ρ) (F : Fence) (n : Nat) (h11 : F.fn (ρ.f 11)) (hro : F.round = none) (hn : 2 ≤ n) (g : Nat) (lb : Array Value) (hFg : F.fn g) (eg : ∀ args w, (callFunc g args).run P w = .ok (.enter g args) w)
    (S : List (List UInt8) → Prop) (N : Nat) (hN : N ≤ maxLen) (hNb : N * 16 ≤ 140737488355328) (w : World) (hseq : SeqGivesB F (n - 1) P g lb S N w) :
    CallsIn F n P (ρ.f 11) #[.slice none 0 0, .func (.func g) #[] lb] w fun e w' => ∃ (v : Value) (ss : List (List UInt8)), e = .returned v ∧ S ss ∧ w'.ownsRow w.heap.size (ρ.t 26) 1 v ss.length (ss.map Go.Proofs.encStr) ∧ (v = .slice none 0 0 ↔ ss = []) ∧ Below w.heap.size w w' := by
  have h1 : 1 ≤ n := by omega
  have mixed := L.mixed; have t0 := L.t0; have a0 := L.a0; have z0 := L.z0; have v0 := L.v0; have t24 := L.t24; have a24 := L.a24; have z24 := L.z24; have v24 := L.v24; have t26 := L.t26; have a26 := L.a26; have z26 := L.z26; have v26 := L.v26; have t28 := L.t28; have a28 := L.a28; have z28 := L.z28; have v28 := L.v28
  have hne : ρ.t 24 ≠ ρ.t 26 := fun e => by have h := L.t24; rw [e, L.t26] at h; cases h
  have u0 := run_underlying L.t0; have u24 := run_underlying L.t24; have u26 := run_underlying L.t26; have u28 := run_underlying L.t28
  obtain ⟨_, _, FG⟩ := L.f11
  refine callsIn_of_wp_marks FG rfl h11 ?_ hro
  simp only [SlBodyZ.n11_ntmps ρ, List.size_toArray, List.length_cons, List.length_nil, Nat.reduceAdd, Nat.reduceSub, Array.replicate_succ, Array.replicate_zero, List.push_toArray, List.append_toArray, List.nil_append, List.cons_append]
  gi_wp2
  refine wpIn_rangeFunc ?_
  intro fn hfn
  rw [hro]
  obtain ⟨W0, hW0⟩ : ∃ W0, w.alloc (.cells #[.slice none 0 0] (ρ.t 24)) = W0 := ⟨_, rfl⟩
  have hs0 : W0.heap.size = w.heap.size + 1 := by rw [← hW0]; simp
  have hv0 : W0.heap[w.heap.size]? = some (.cells #[.slice none 0 0] (ρ.t 24) (0, 0)) := by rw [← hW0]; exact World.alloc_heap_new w _
  have hb0 : Below w.heap.size w W0 := by rw [← hW0]; exact (Below.refl _ w).alloc (Nat.le_refl _) _
  rw [hW0]
  obtain ⟨W1, hW1⟩ : ∃ W1, (W0.alloc (.deferred (some []))).alloc (.loop (AnyZ.apRec ρ fn (.func (.func g) #[] lb) w.heap.size W0.heap.size .ready none)) = W1 := ⟨_, rfl⟩
  have hold : ∀ k, k < W0.heap.size → W1.heap[k]? = W0.heap[k]? := fun k hk => by
    rw [← hW1]; exact (Below.heap_alloc _ _ k (by simp; omega)).trans (Below.heap_alloc _ _ k hk)
  have hb1 : Below w.heap.size w W1 := by rw [← hW1]; exact (hb0.alloc hb0.size _).alloc (by have := hb0.size; simp; omega) _
  have hs1 : W1.heap.size = W0.heap.size + 2 := by rw [← hW1]; simp
  have hM : AnyZ.ApAt ρ w fn (.func (.func g) #[] lb) w.heap.size (W0.heap.size + 1) W0.heap.size [] W1 :=
    ⟨⟨_, (hold w.heap.size (by omega)).trans hv0, ⟨rfl, .inl ⟨rfl, rfl⟩⟩, by simp⟩,
     by rw [← hW1]; have := World.alloc_heap_new (W0.alloc (.deferred (some []))) (.loop (AnyZ.apRec ρ fn (.func (.func g) #[] lb) w.heap.size W0.heap.size .ready none)); rwa [World.size_alloc] at this,
     by rw [← hW1]; exact (Below.heap_alloc _ _ _ (by simp)).trans (World.alloc_heap_new W0 _), hb1⟩
  refine ⟨W0.heap.size + 1, [{ target := .collected W0.heap.size, args := #[] }], W1, { target := .fn (.func g) lb, args := #[.func (.yield (W0.heap.size + 1)) #[] #[]] }, W1, g,
    #[.func (.yield (W0.heap.size + 1)) #[] #[]] ++ lb, W1, ?_, ?_, ?_, ?_, fun _ => h1, ?_⟩
  · rw [← hW1]; exact run_enterLoop_outer _ _ _ _ _
  · simp [resolve, go_sem]
  · intro f' hf'; simp [Target.leads] at hf'; subst hf'; exact hFg
  · simp [invoke, go_sem, eg]
  · refine (hseq (W0.heap.size + 1) (AnyZ.ApAt ρ w fn (.func (.func g) #[] lb) w.heap.size (W0.heap.size + 1) W0.heap.size) W1 hb1 (AnyZ.ap_abides ρ _ _ _ _ _ _ _ hb1.size) (fun s W h => h.below)
      (fun pre x W hJ hl => AnyZ.apYield { L with } F (n - 1 - 1) w fn hfn _ w.heap.size (W0.heap.size + 1) W0.heap.size (by omega) (by omega) (by omega) (Nat.le_refl _) (by omega) N hN hNb pre x W hJ hl) hM).mono ?_
    rintro e W2 ⟨⟨v0, rfl⟩, ss, hS, h2⟩
    obtain ⟨v, hv, hrow, hnil⟩ := h2.box
    have hend := run_endLoop (P := P) h2.L (by simp [AnyZ.apRec])
    obtain ⟨W3, hW3⟩ : ∃ W3, W2.putObj (W0.heap.size + 1) (.loop { AnyZ.apRec ρ fn (.func (.func g) #[] lb) w.heap.size W0.heap.size .ready none with state := .exhausted }) = W3 := ⟨_, rfl⟩
    rw [hW3] at hend
    have hg3 : W2.grownBy W3 (some (W0.heap.size + 1)) := by rw [← hW3]; exact grownBy_putObj_a _ _ _
    have hv3 : W3.heap[w.heap.size]? = some (.cells #[v] (ρ.t 24) (0, 0)) := by rw [← hW3]; exact (World.putObj_heap_other (by omega)).trans hv
    have hK3 : W3.heap[W0.heap.size]? = some (.deferred (some [])) := by rw [← hW3]; exact (World.putObj_heap_other (by omega)).trans h2.K
    have hrow3 := hrow.kept hg3 (ownsRow_ne_a hrow h2.L (fun cur e => by first | cases e | exact hne (Obj.cells.inj e).2.1))
    have hb3 : Below w.heap.size w W3 := h2.below.grown hg3 h2.below.size (fun k e => by cases e; omega)
    obtain ⟨hc3, hf3⟩ := cell_of_box_a hv3
    clear hW3
    refine ⟨none, W3, hend, ?_⟩
    gi_wp2
    rw [← hs0]
    refine ⟨by simp, .inl ⟨_, _, rfl, run_takeDeferred hK3, ?_⟩⟩
    exact ⟨_, results_tmp rfl _ _ _, v, ss, rfl, hS, hrow3.kept (grownBy_putObj_a _ _ _) (ownsRow_ne_a hrow3 hK3 (fun cur e => by first | cases e | exact hne (Obj.cells.inj e).2.1)), hnil, hb3.grown (grownBy_putObj_a _ _ _) hb3.size (fun k e => by cases e; omega)⟩

end Go.Proofs

namespace Go.Proofs
open Go.Shelf
set_option maxRecDepth 100000
def Tryz.laysSlN44_f42_ren : Go.Shelf.Ren := ⟨fun | 44 => 42 | n => n, fun | 25 => 22 | 26 => 9 | 3 => 3 | 4 => 4 | 0 => 0 | n => n, fun | n => n⟩
theorem Tryz.laysSlN44_f42 : Go.Proofs.SlLaysN.n44 Tryz.prog Tryz.laysSlN44_f42_ren := {
  mixed := by kernel_rfl
  f44 := ⟨Tryz.f42.name, by decide, Tryz.func42.trans (congrArg some (by kernel_rfl))⟩
  t0 := Tryz.underlying0
  a0 := Tryz.isAgg0
  z0 := Tryz.sizeOf0
  v0 := Tryz.zeroValue0
  t3 := Tryz.underlying3
  a3 := Tryz.isAgg3
  z3 := Tryz.sizeOf3
  v3 := Tryz.zeroValue3
  t4 := Tryz.underlying4
  a4 := Tryz.isAgg4
  z4 := Tryz.sizeOf4
  v4 := Tryz.zeroValue4
  t25 := Tryz.underlying22
  a25 := Tryz.isAgg22
  z25 := Tryz.sizeOf22
  v25 := Tryz.zeroValue22
  t26 := Tryz.underlying9
  a26 := Tryz.isAgg9
  z26 := Tryz.sizeOf9
  v26 := Tryz.zeroValue9
  i26 := by kernel_rfl }
open Go.RowKit Go.Lib Go.Sort in
theorem Tryz.slices_Compact_string (blk off cap : Nat) (zs : List (List UInt8)) (w : World) (hH : Holds encStr w blk off zs.toArray) (hsz : zs.length ≤ 9223372036854775807) (hcap : zs.length ≤ cap) :
    Calls Tryz.prog 42 #[.slice (some ⟨blk, off, none⟩) zs.length cap] w fun e w' => e = .returned (.slice (some ⟨blk, off, none⟩) (Lib.compact zs).length cap) ∧ ∃ q, w' = putRow encStr (Sort.ahead w q) blk off (Lib.compact zs ++ List.replicate (zs.length - (Lib.compact zs).length) []).toArray := AnyG.slices_Compact_string Tryz.laysSlN44_f42 blk off cap zs w hH hsz hcap
open Go.RowKit Go.Lib Go.Sort in
theorem Tryz.slices_Compact_string_empty (a : Option Addr) (cap : Nat) (w : World) :
    Calls Tryz.prog 42 #[.slice a 0 cap] w fun e w' => e = .returned (.slice a 0 cap) ∧ w' = w := AnyG.slices_Compact_string_empty Tryz.laysSlN44_f42 a cap w
def Tryz.laysSlM6_f59_ren : Go.Shelf.Ren := ⟨fun | 6 => 59 | 8 => 81 | 9 => 80 | 19 => 107 | 20 => 108 | 21 => 99 | 22 => 100 | 23 => 101 | 24 => 102 | 25 => 103 | 26 => 104 | 27 => 64 | 28 => 105 | 29 => 106 | 36 => 121 | 31 => 122 | 32 => 123 | 37 => 124 | 38 => 125 | 39 => 82 | 41 => 132 | n => n, fun | 27 => 22 | 29 => 9 | 3 => 3 | 32 => 75 | 26 => 22 | 0 => 0 | 44 => 127 | 46 => 129 | 4 => 4 | 36 => 121 | 35 => 120 | 41 => 61 | 5 => 5 | 9 => 9 | 53 => 139 | 57 => 143 | 63 => 148 | 64 => 149 | n => n, fun | n => n⟩
theorem Tryz.laysSlM6_f59 : Go.Proofs.SlLaysM.n6 Tryz.prog Tryz.laysSlM6_f59_ren := {
  mixed := by kernel_rfl
  f6 := ⟨Tryz.f59.name, by decide, Tryz.func59.trans (congrArg some (by kernel_rfl))⟩
  f8 := Tryz.func81.trans (congrArg some (by kernel_rfl))
  f9 := ⟨Tryz.f80.name, by decide, Tryz.func80.trans (congrArg some (by kernel_rfl))⟩
  f19 := Tryz.func107.trans (congrArg some (by kernel_rfl))
  f20 := Tryz.func108.trans (congrArg some (by kernel_rfl))
  f21 := ⟨Tryz.f99.name, by decide, Tryz.func99.trans (congrArg some (by kernel_rfl))⟩
  f22 := ⟨Tryz.f100.name, by decide, Tryz.func100.trans (congrArg some (by kernel_rfl))⟩
  f23 := ⟨Tryz.f101.name, by decide, Tryz.func101.trans (congrArg some (by kernel_rfl))⟩
  f24 := ⟨Tryz.f102.name, by decide, Tryz.func102.trans (congrArg some (by kernel_rfl))⟩
  f25 := ⟨Tryz.f103.name, by decide, Tryz.func103.trans (congrArg some (by kernel_rfl))⟩
  f26 := ⟨Tryz.f104.name, by decide, Tryz.func104.trans (congrArg some (by kernel_rfl))⟩
  f27 := ⟨Tryz.f64.name, by decide, Tryz.func64.trans (congrArg some (by kernel_rfl))⟩
  f28 := ⟨Tryz.f105.name, by decide, Tryz.func105.trans (congrArg some (by kernel_rfl))⟩
  f29 := ⟨Tryz.f106.name, by decide, Tryz.func106.trans (congrArg some (by kernel_rfl))⟩
  f31 := Tryz.func122.trans (congrArg some (by kernel_rfl))
  f32 := Tryz.func123.trans (congrArg some (by kernel_rfl))
  f36 := ⟨Tryz.f121.name, by decide, Tryz.func121.trans (congrArg some (by kernel_rfl))⟩
  f37 := ⟨Tryz.f124.name, by decide, Tryz.func124.trans (congrArg some (by kernel_rfl))⟩
  f38 := ⟨Tryz.f125.name, by decide, Tryz.func125.trans (congrArg some (by kernel_rfl))⟩
  f39 := ⟨Tryz.f82.name, by decide, Tryz.func82.trans (congrArg some (by kernel_rfl))⟩
  f41 := ⟨Tryz.f132.name, by decide, Tryz.func132.trans (congrArg some (by kernel_rfl))⟩
  t0 := Tryz.underlying0
  a0 := Tryz.isAgg0
  z0 := Tryz.sizeOf0
  v0 := Tryz.zeroValue0
  t3 := Tryz.underlying3
  a3 := Tryz.isAgg3
  z3 := Tryz.sizeOf3
  v3 := Tryz.zeroValue3
  t4 := Tryz.underlying4
  a4 := Tryz.isAgg4
  z4 := Tryz.sizeOf4
  v4 := Tryz.zeroValue4
  t5 := Tryz.underlying5
  a5 := Tryz.isAgg5
  z5 := Tryz.sizeOf5
  v5 := Tryz.zeroValue5
  t9 := Tryz.underlying9
  a9 := Tryz.isAgg9
  z9 := Tryz.sizeOf9
  v9 := Tryz.zeroValue9
  t26 := Tryz.underlying22
  a26 := Tryz.isAgg22
  z26 := Tryz.sizeOf22
  v26 := Tryz.zeroValue22
  t27 := Tryz.underlying22
  a27 := Tryz.isAgg22
  z27 := Tryz.sizeOf22
  v27 := Tryz.zeroValue22
  t29 := Tryz.underlying9
  a29 := Tryz.isAgg9
  z29 := Tryz.sizeOf9
  v29 := Tryz.zeroValue9
  t32 := Tryz.underlying75
  a32 := Tryz.isAgg75
  z32 := Tryz.sizeOf75
  v32 := Tryz.zeroValue75
  t35 := Tryz.underlying120
  a35 := Tryz.isAgg120
  z35 := Tryz.sizeOf120
  v35 := Tryz.zeroValue120
  t36 := Tryz.underlying121
  a36 := Tryz.isAgg121
  z36 := Tryz.sizeOf121
  v36 := Tryz.zeroValue121
  t41 := Tryz.underlying61
  a41 := Tryz.isAgg61
  z41 := Tryz.sizeOf61
  v41 := Tryz.zeroValue61
  t44 := Tryz.underlying127
  a44 := Tryz.isAgg127
  z44 := Tryz.sizeOf127
  v44 := Tryz.zeroValue127
  t46 := Tryz.underlying129
  a46 := Tryz.isAgg129
  z46 := Tryz.sizeOf129
  v46 := Tryz.zeroValue129
  t53 := Tryz.underlying139
  a53 := Tryz.isAgg139
  z53 := Tryz.sizeOf139
  v53 := Tryz.zeroValue139
  t57 := Tryz.underlying143
  a57 := Tryz.isAgg143
  z57 := Tryz.sizeOf143
  v57 := Tryz.zeroValue143
  t63 := Tryz.underlying148
  a63 := Tryz.isAgg148
  z63 := Tryz.sizeOf148
  v63 := Tryz.zeroValue148
  t64 := Tryz.underlying149
  a64 := Tryz.isAgg149
  z64 := Tryz.sizeOf149
  v64 := Tryz.zeroValue149 }
open Go.Sort Go.RowKit in
theorem Tryz.slices_Sort_string (blk off cap : Nat) (ss : List (List UInt8)) (w : World) (hH : Holds encStr w blk off ss.toArray) (hblk : blk < w.heap.size) (hsz : ss.length < 4611686018427387904) :
    Calls Tryz.prog 59 #[.slice (some ⟨blk, off, none⟩) ss.length cap] w fun e w' =>
      e = .returned (.tuple #[]) ∧ ∃ n os, w' = grow (putRow encStr (Sort.ahead w n) blk off (ss.mergeSort fun x y => decide (x ≤ y)).toArray) os := AnyM.slices_Sort_string Tryz.laysSlM6_f59 blk off cap ss w hH hblk hsz
open Go.RowKit Go.Sort in
theorem Tryz.slices_Sort_string_none (p : Option Addr) (cap : Nat) (w : World) :
    Calls Tryz.prog 59 #[.slice p 0 cap] w fun e w' => e = .returned (.tuple #[]) ∧ w' = w := AnyM.slices_Sort_string_none Tryz.laysSlM6_f59 p cap w
end Go.Proofs

namespace Go.Proofs
open Go.Shelf
set_option maxRecDepth 100000
def Tryz.laysZ11_ren : Go.Shelf.Ren := ⟨fun | 11 => 79 | n => n, fun | 24 => 22 | 26 => 9 | 28 => 53 | 0 => 0 | 33 => 60 | 4 => 4 | n => n, fun | n => n⟩
theorem Tryz.laysZ11 : Go.Proofs.SlLaysZ.n11 Tryz.prog Tryz.laysZ11_ren := {
  mixed := by kernel_rfl
  f11 := ⟨Tryz.f79.name, by decide, Tryz.func79.trans (congrArg some (by kernel_rfl))⟩
  t0 := Tryz.underlying0
  a0 := Tryz.isAgg0
  z0 := Tryz.sizeOf0
  v0 := Tryz.zeroValue0
  t24 := Tryz.underlying22
  a24 := Tryz.isAgg22
  z24 := Tryz.sizeOf22
  v24 := Tryz.zeroValue22
  t26 := Tryz.underlying9
  a26 := Tryz.isAgg9
  z26 := Tryz.sizeOf9
  v26 := Tryz.zeroValue9
  t28 := Tryz.underlying53
  a28 := Tryz.isAgg53
  z28 := Tryz.sizeOf53
  v28 := Tryz.zeroValue53
  i26 := by kernel_rfl }

namespace Zy
open Go Go.Zam Go.Proofs Go.RowKit Go.Shelf
set_option linter.all false
attribute [local go_sem] Oper.semAt_some

set_option maxRecDepth 100000 in
set_option maxHeartbeats 2000000 in
/-- the iterator of slices.Values: all texts come, in order -/
theorem values1_in (w : World) (F : Fence) (n : Nat) (hf : F.fn 60) (hro : F.round = none) (hn : 1 ≤ n) (l Bs b off len cap : Nat) (zs : List (List UInt8)) (hlen : len = zs.length) (hreach : len ≤ 1048576) (hb : b < w.heap.size) (hBs : Bs < w.heap.size) (J : List (List UInt8) → World → Prop)
    (hJB : ∀ s W, J s W → Below w.heap.size w W)
    (hY : ∀ pre x W, J pre W → pre.length < len → YieldAt F (n - 1) Tryz.prog l #[encStr x] W fun e W' => e = .returned (.bool true) ∧ J (pre ++ [x]) W' ∧ KeepsWalks W W')
    (W : World) (hB : w.cell? ⟨Bs, 0, none⟩ = some (.slice (some ⟨b, off, none⟩) len cap)) (hc : ∀ j, j < len → w.cell? ⟨b, off + j, none⟩ = some (encStr (zs[j]?.getD []))) (h0 : J [] W) :
    CallsIn F n Tryz.prog 60 #[.func (.yield l) #[] #[], .pointer (some ⟨Bs, 0, none⟩)] W fun e W' => (∃ v, e = .returned v) ∧ J zs W' := by
  have hBs' := ((hJB _ _ h0).cell (p := ⟨Bs, 0, none⟩) hBs).trans hB
  refine callsIn_of_wp Tryz.func60 rfl hf ?_ hro
  simp only [Tryz.ntmps60, List.size_toArray, List.length_cons, List.length_nil, Nat.reduceAdd, Nat.reduceSub, Array.replicate_succ, Array.replicate_zero, List.push_toArray, List.append_toArray, List.nil_append, List.cons_append]
  gi_wp2
  gi_loopw [7] (fun i wr => ∃ k : Nat, k ≤ len ∧ i = .int .i64 k ∧ J (zs.take k) wr)
    (fun i _ => len - (intOf i).toNat)
  case atStart => exact ⟨0, Nat.zero_le _, rfl, h0⟩
  case round =>
    obtain ⟨k, hk, rfl, hJs⟩ := hrel
    have hcx : k < len → wr.cell? ⟨b, off + k, none⟩ = some (encStr (zs[k]?.getD [])) := fun h => ((hJB _ _ hJs).cell (p := ⟨b, off + k, none⟩) hb).trans (hc k h)
    by_cases hlt : k < len
    · obtain ⟨fn, tmps, assign, body, hy, hR⟩ := hY _ (zs[k]?.getD []) wr hJs (by simp; omega)
      have hcx' := hcx hlt
      have hst : zs.take (k + 1) = zs.take k ++ [zs[k]?.getD []] := by
        have h1 : k < zs.length := by omega
        rw [List.take_succ_eq_append_getElem h1]; simp [h1]
      clear hcx
      generalize zs[k]?.getD [] = x at hcx' hy hR hst
      gi_wp2
      refine hR.mono ?_
      rintro e W3 ⟨rfl, hJ3, hk3⟩
      gi_wp2
      go_roundw
      case rel => exact ⟨k + 1, by omega, by simp, by rw [hst]; exact hJ3⟩
      case measure => simp [intOf]; omega
    · obtain rfl : k = len := by omega
      gi_wp2
      go_end0
      rw [List.take_of_length_le (by omega)] at hJs
      exact ⟨⟨_, rfl⟩, hJs⟩

set_option maxRecDepth 100000 in
set_option maxHeartbeats 1000000 in
/-- .. at no element: no round. -/
theorem values0_in (F : Fence) (n : Nat) (hf : F.fn 60) (hro : F.round = none) (l Bs : Nat) (p : Option Addr) (cap : Nat) (J : List (List UInt8) → World → Prop) (W : World) (hBs : W.cell? ⟨Bs, 0, none⟩ = some (.slice p 0 cap)) (h0 : J [] W) :
    CallsIn F n Tryz.prog 60 #[.func (.yield l) #[] #[], .pointer (some ⟨Bs, 0, none⟩)] W fun e W' => (∃ v, e = .returned v) ∧ J [] W' := by
  refine callsIn_of_wp Tryz.func60 rfl hf ?_ hro
  simp only [Tryz.ntmps60, List.size_toArray, List.length_cons, List.length_nil, Nat.reduceAdd, Nat.reduceSub, Array.replicate_succ, Array.replicate_zero, List.push_toArray, List.append_toArray, List.nil_append, List.cons_append]
  gi_wp2
  gi_loopw [7] (fun i wr => i = .int .i64 0 ∧ J [] wr) (fun _ _ => 0)
  case atStart => exact ⟨rfl, h0⟩
  case round =>
    obtain ⟨rfl, hJs⟩ := hrel
    gi_wp2
    go_end0
    exact ⟨⟨_, rfl⟩, hJs⟩

theorem collectOk : CollectStr Tryz.prog 79 60 := fun w Bs sv L hB hl hsv => by
  have hBs : Bs < w.heap.size := World.block_lt_of_cell? w ⟨Bs, 0, none⟩ hB
  have hseq : SeqGivesB Fence.wide 1 Tryz.prog 60 #[.pointer (some ⟨Bs, 0, none⟩)] (fun ss => ss = L) L.length w := fun l J W hW _ hJB hY h0 => by
    by_cases hL : L = []
    · subst hL
      obtain ⟨p, cap, rfl⟩ : ∃ p cap, sv = .slice p 0 cap := by
        rcases hsv with ⟨rfl, -⟩ | ⟨ad, cap, rfl, -⟩
        · exact ⟨_, _, rfl⟩
        · exact ⟨_, _, rfl⟩
      refine (values0_in Fence.wide 1 trivial rfl l Bs p cap J W ((hW.cell (p := ⟨Bs, 0, none⟩) hBs).trans hB) h0).mono ?_
      rintro e W' ⟨h1, h2⟩
      exact ⟨h1, [], rfl, h2⟩
    · rcases hsv with ⟨-, h⟩ | ⟨⟨b, off, sp⟩, cap, rfl, hc⟩
      · exact absurd h hL
      obtain ⟨rfl, hc⟩ := hc hL
      have hpos := List.length_pos_iff.2 hL
      have hb : b < w.heap.size := World.block_lt_of_cell? w ⟨b, off + 0, none⟩ (hc 0 _ (List.getElem?_eq_getElem hpos))
      refine (values1_in w Fence.wide 1 trivial rfl (Nat.le_refl _) l Bs b off L.length cap L rfl hl hb hBs J hJB (fun pre x W h1 h2 => hY pre x W h1 h2) W hB (fun j hj => ?_) h0).mono ?_
      · rw [hc j _ (List.getElem?_eq_getElem hj)]
        simp [hj]
      rintro e W' ⟨h1, h2⟩
      exact ⟨h1, L, rfl, h2⟩
  refine (callsIn_wide.1 (appendSeqB_in Tryz.laysZ11 Fence.wide 2 trivial rfl (Nat.le_refl _) 60 _ trivial (enters_of Tryz.func60 (by kernel_rfl) rfl) (fun ss => ss = L) L.length (by simp [maxLen]; omega) (by omega) w hseq)).mono ?_
  rintro e w' ⟨v, ss, rfl, rfl, h1, h2, h3⟩
  exact ⟨v, _, rfl, h1, h2, h3⟩

theorem sortOk : SortStr Tryz.prog 59 := fun blk off cap ss w hH hblk hsz => Tryz.slices_Sort_string blk off cap ss w hH hblk hsz
theorem sort0Ok (p : Option Addr) (cap : Nat) (w : World) : Calls Tryz.prog 59 #[.slice p 0 cap] w fun e w' => e = .returned (.tuple #[]) ∧ w' = w := Tryz.slices_Sort_string_none p cap w
theorem compactOk : CompactStr Tryz.prog 42 := ⟨fun blk off cap ss w hH h1 h2 => Tryz.slices_Compact_string blk off cap ss w hH h1 h2, fun a cap w => Tryz.slices_Compact_string_empty a cap w⟩

end Zy
end Go.Proofs

namespace Go.Proofs.Zy
open Go Go.Zam Go.Proofs Classical
set_option maxRecDepth 100000
set_option linter.all false
theorem ycf19 : compF Tryz.prog [28] Tryz.f19 = some (irTyRecord 41 40 43 42 44 25) := by kernel_rfl
theorem yh19 : HasT Tryz.prog [28] 19 (irTyRecord 41 40 43 42 44 25) := ⟨_, Tryz.func19, ycf19⟩
theorem ycf26 : compF Tryz.prog [] Tryz.f26 = some (irTyDepth 26 25) := by kernel_rfl
theorem yh26 : Has Tryz.prog 26 (irTyDepth 26 25) := ⟨_, Tryz.func26, ycf26⟩
theorem ycf31 : compF Tryz.prog [] Tryz.f31 = some (irTyRight 50 31 25) := by kernel_rfl
theorem yh31 : Has Tryz.prog 31 (irTyRight 50 31 25) := ⟨_, Tryz.func31, ycf31⟩
theorem ycf32 : compF Tryz.prog [3, 6] Tryz.f32 = some (irTyText 32 51 25 9) := by kernel_rfl
theorem yh32 : HasT Tryz.prog [3, 6] 32 (irTyText 32 51 25 9) := ⟨_, Tryz.func32, ycf32⟩
theorem ycf33 : compF Tryz.prog [] Tryz.f33 = some (irTyParse 52 53 25 66) := by kernel_rfl
theorem yh33 : Has Tryz.prog 33 (irTyParse 52 53 25 66) := ⟨_, Tryz.func33, ycf33⟩
theorem ycf34 : compF Tryz.prog [] Tryz.f34 = some (irTySame 54 47 34 25) := by kernel_rfl
theorem yh34 : Has Tryz.prog 34 (irTySame 54 47 34 25) := ⟨_, Tryz.func34, ycf34⟩
theorem ycf39 : compF Tryz.prog [] Tryz.f39 = some (irTSmall 25 57) := by kernel_rfl
theorem ycf57 : compF Tryz.prog [] Tryz.f57 = some (irTSize 25 57) := by kernel_rfl
theorem ycf17 : compF Tryz.prog [] Tryz.f17 = some (irTLight 25 39) := by kernel_rfl
theorem ycf40 : compF Tryz.prog [] Tryz.f40 = some (irSlSorted 58 59) := by kernel_rfl
theorem yh40 : Has Tryz.prog 40 (irSlSorted 58 59) := ⟨_, Tryz.func40, ycf40⟩
theorem ycf41 : compF Tryz.prog [] Tryz.f41 = some (irSlValues 60 22) := by kernel_rfl
theorem yh41 : Has Tryz.prog 41 (irSlValues 60 22) := ⟨_, Tryz.func41, ycf41⟩
theorem ycf47 : compF Tryz.prog [] Tryz.f47 = some (irTyEqF 25) := by kernel_rfl
theorem yh47 : Has Tryz.prog 47 (irTyEqF 25) := ⟨_, Tryz.func47, ycf47⟩
theorem ycf53 : compF Tryz.prog [] Tryz.f53 = some (irTyOf 77 26 66 25) := by kernel_rfl
theorem yh53 : Has Tryz.prog 53 (irTyOf 77 26 66 25) := ⟨_, Tryz.func53, ycf53⟩
theorem ycf54 : compF Tryz.prog [] Tryz.f54 = some (irSlEqS) := by kernel_rfl
theorem yh54 : Has Tryz.prog 54 (irSlEqS) := ⟨_, Tryz.func54, ycf54⟩
theorem ycf77 : compF Tryz.prog [29] Tryz.f77 = some (irTyOfN 98 77 66 25 9) := by kernel_rfl
theorem yh77 : HasT Tryz.prog [29] 77 (irTyOfN 98 77 66 25 9) := ⟨_, Tryz.func77, ycf77⟩
theorem ycf98 : compF Tryz.prog [4, 5] Tryz.f98 = some (irTyRecN 77 19 66 25 9) := by kernel_rfl
theorem yh98 : HasT Tryz.prog [4, 5] 98 (irTyRecN 77 19 66 25 9) := ⟨_, Tryz.func98, ycf98⟩
theorem ycf58 : compF Tryz.prog [] Tryz.f58 = some (irSlCollect 79) := by kernel_rfl
theorem yh58 : Has Tryz.prog 58 (irSlCollect 79) := ⟨_, Tryz.func58, ycf58⟩
theorem ycf44 : compF Tryz.prog [] Tryz.f44 = some (irSlIdx) := by kernel_rfl
theorem yh44 : Has Tryz.prog 44 (irSlIdx) := ⟨_, Tryz.func44, ycf44⟩
theorem ycf74 : compF Tryz.prog [] Tryz.f74 = some (irPNow 95) := by kernel_rfl
theorem yh74 : Has Tryz.prog 74 (irPNow 95) := ⟨_, Tryz.func74, ycf74⟩
theorem ycf75 : compF Tryz.prog [] Tryz.f75 = some (irPFail) := by kernel_rfl
theorem yh75 : Has Tryz.prog 75 (irPFail) := ⟨_, Tryz.func75, ycf75⟩
theorem ycf120 : compF Tryz.prog [] Tryz.f120 = some (irPIs 74 95) := by kernel_rfl
theorem yh120 : Has Tryz.prog 120 (irPIs 74 95) := ⟨_, Tryz.func120, ycf120⟩
theorem ycf91 : compF Tryz.prog [] Tryz.f91 = some (irPTook 120) := by kernel_rfl
theorem yh91 : Has Tryz.prog 91 (irPTook 120) := ⟨_, Tryz.func91, ycf91⟩
theorem ycf95 : compF Tryz.prog [] Tryz.f95 = some (irPWant 91 75) := by kernel_rfl
theorem yh95 : Has Tryz.prog 95 (irPWant 91 75) := ⟨_, Tryz.func95, ycf95⟩
theorem ycf94 : compF Tryz.prog [] Tryz.f94 = some (irPWord 74 75 95) := by kernel_rfl
theorem yh94 : Has Tryz.prog 94 (irPWord 74 75 95) := ⟨_, Tryz.func94, ycf94⟩
theorem ycf90 : compF Tryz.prog [10] Tryz.f90 = some (irPNode 66) := by kernel_rfl
theorem yh90 : HasT Tryz.prog [10] 90 (irPNode 66) := ⟨_, Tryz.func90, ycf90⟩
theorem ycf97 : compF Tryz.prog [] Tryz.f97 = some (irPDone 66) := by kernel_rfl
theorem yh97 : Has Tryz.prog 97 (irPDone 66) := ⟨_, Tryz.func97, ycf97⟩
theorem ycf96 : compF Tryz.prog [] Tryz.f96 = some (irPPut 66) := by kernel_rfl
theorem yh96 : Has Tryz.prog 96 (irPPut 66) := ⟨_, Tryz.func96, ycf96⟩
theorem ycf92 : compF Tryz.prog [] Tryz.f92 = some (irPList 91 96 95) := by kernel_rfl
theorem yh92 : Has Tryz.prog 92 (irPList 91 96 95) := ⟨_, Tryz.func92, ycf92⟩
theorem ycf73 : compF Tryz.prog [] Tryz.f73 = some (irPKind 90 91 93 92 95 73 96 75 97 90 66) := by kernel_rfl
theorem yh73 : Has Tryz.prog 73 (irPKind 90 91 93 92 95 73 96 75 97 90 66) := ⟨_, Tryz.func73, ycf73⟩
theorem ycf93 : compF Tryz.prog [] Tryz.f93 = some (irPTField 90 94 95 73 96 97 66) := by kernel_rfl
theorem yh93 : Has Tryz.prog 93 (irPTField 90 94 95 73 96 97 66) := ⟨_, Tryz.func93, ycf93⟩
theorem ycf52 : compF Tryz.prog [] Tryz.f52 = some (irPType 72 73 74 75 76 66 92) := by kernel_rfl
theorem yh52 : Has Tryz.prog 52 (irPType 72 73 74 75 76 66 92) := ⟨_, Tryz.func52, ycf52⟩
theorem ycf76 : compF Tryz.prog [] Tryz.f76 = some (irTDepth 76 66) := by kernel_rfl
theorem yh76 : Has Tryz.prog 76 (irTDepth 76 66) := ⟨_, Tryz.func76, ycf76⟩
theorem ycf43 : compF Tryz.prog [1000005] Tryz.f43 = some (irCloneM 1 16 9) := by kernel_rfl
theorem yh43 : HasT Tryz.prog [1000005] 43 (irCloneM 1 16 9) := ⟨_, Tryz.func43, ycf43⟩
theorem kSame : callOk Tryz.prog 34 = true := by kernel_rfl
theorem sameOk (v : T) (hv : v.Fit 1048576) : SameT Tryz.prog 34 v := Has.tySame yh34 yh54 yh47 kSame v hv
theorem sizeOk (v : T) (hv : v.Fit 1048576) (m d : Int) (H : Hp) : ACall Tryz.prog 57 [v.a, .d (.int .i64 m), .d (.int .i64 d)] H (fun r H' => (∃ c : Int, r = .d (.int .i64 c)) ∧ H' = H) := tsize_acall Tryz.func57 ycf57 v hv m d H
theorem smallOk (v : T) (hv : v.Fit 1048576) (m d : Int) (H : Hp) : ACall Tryz.prog 39 [v.a, .d (.int .i64 m), .d (.int .i64 d)] H (fun r H' => (∃ c : Bool, r = .d (.bool c)) ∧ H' = H) := tsmall_acall Tryz.func39 ycf39 sizeOk v hv m d H
theorem lightOk (v : T) (hv : v.Fit 1048576) (H : Hp) : ACall Tryz.prog 17 [v.a] H (fun r H' => (∃ c : Bool, r = .d (.bool c)) ∧ H' = H) := tlight_acall Tryz.func17 ycf17 smallOk v hv H
theorem sortedOk {L : List Str'} (hl : L.length ≤ 1048576) {H : Hp} {i bt : Nat} {z : Bool} (hi : H[i]? = some (.box bt [.d (.sl z 1 (L.map Go.Zam.encStr))])) : ACall Tryz.prog 40 [.fn (.func 60) [] [.ptr i 0]] H (fun r H' => r = .d (.sl L.isEmpty 1 ((msort L).map Go.Zam.encStr)) ∧ H' = H) := Has.slSorted yh40 yh58 collectOk sortOk sort0Ok hl hi
theorem recordOk : RecT Tryz.prog 19 := Has.tyRecord (fa := 0) (fso := 0) yh19 yh41 sortedOk yh43 compactOk yh44
theorem tDepthOk (v : T) (hv : v.Fit 1048576) (hd : v.dep ≤ 1125899906842624) (H : Hp) : ACall Tryz.prog 26 [v.a] H (fun r H' => r = .d (.int .i64 (v.dep : Int)) ∧ H' = H) := Has.tyDepth yh26 v hv hd H
theorem ofNOk (n : N) (hn : n.size ≤ 1048576) : OfT Tryz.prog 77 n := (Has.tyOfN yh77 yh98 recordOk n hn).1
def F : PF := { now := 74, fail := 75, is := 120, took := 91, want := 95, word := 94, node := 90, done := 97, put := 96, list := 92, file := 0, use_ := 0, def_ := 0, params := 0, param := 0, typed := 0, kind := 73, tfield := 93, block := 0, stmt := 0, sets := 0, expr := 0, with_ := 0, sum := 0, term := 0, post := 0, atom := 0, entry := 0, tn := 66, tt := 95, tp := 92, tb := 90 }
theorem hasK : KHas Tryz.prog F where
  now := yh74
  fail := yh75
  is := yh120
  took := yh91
  want := yh95
  word := yh94
  node := yh90
  done := yh97
  put := yh96
  list := yh92
  kind := yh73
  tfield := yh93
  kTField := by kernel_rfl
  kKind := by kernel_rfl
theorem typeOk {H0 : Hp} (hG : TabsG 1 2 3 4 H0) (s : Bs) (hs : s.length ≤ 1048576) (H : Hp) (hH : Pre0 H0 H) : ACall Tryz.prog 52 [.d (.str s)] H (fun r H' => r = .tup [(typeO s).1.v, .d (.int .i64 (typeO s).2)] ∧ H' = H) := Has.type_ (F := F) yh52 hasK yh76 (fun s hs H hH => lexOk hG s hs H hH) s hs H hH
theorem tyOfOk (n : N) (hn : n.size ≤ 1048576) (hw : n.Wd 1048576) (H : Hp) : ACall Tryz.prog 53 [n.v] H (fun r H' => r = .tup [n.typ.1.a, .d (.int .i64 n.typ.2)] ∧ H' = H) := Has.tyOf yh53 n (ofNOk n hn) (fun H => tDepthOk _ (N.ty_ok n hn hw).1.1 (by have := (N.ty_ok n hn hw).1.2; omega) H) H
theorem tyParseOk {H0 : Hp} (hG : TabsG 1 2 3 4 H0) (s : Bs) (hs : s.length ≤ 1048576) (H : Hp) (hH : Pre0 H0 H) : ACall Tryz.prog 33 [.d (.str s)] H (fun r H' => r = .tup [(typO s).1.a, .d (.int .i64 (typO s).2)] ∧ H' = H) := Has.tyParse yh33 s H hH (fun H hH => typeOk hG s hs H hH) (fun H => tyOfOk _ (typeO_ok s hs).1 (typeO_ok s hs).2 H)
end Go.Proofs.Zy

namespace Go.Proofs.Zy
open Go Go.Zam Go.Proofs Classical
set_option maxRecDepth 100000
set_option linter.all false
end Go.Proofs.Zy

namespace Go.Proofs.Zy
open Go Go.Zam Go.Proofs
set_option maxRecDepth 100000
set_option linter.all false
theorem tfit_of {b : Nat} (v : T) : D.bulkC v.enc ≤ b → v.Fit b := by
  induction v using T.ind with
  | h k z ns y ps ih =>
  intro hb
  simp only [T.enc_mk, D.bulkC, D.bulk] at hb
  have l1 := bulkR_len (enc := Go.Zam.encStr) (fun m => by simp only [Go.Zam.encStr, D.bulkC, D.bulk]; omega) ns
  have l2 := bulkR_len (enc := T.enc) (fun m => by cases m; simp only [T.enc_mk, D.bulkC, D.bulk]; omega) ps
  refine .mk _ _ _ _ _ (by omega) (by omega) (fun x hx => ?_) (fun p hp => ih p hp ?_)
  · have := bulkR_mem (List.mem_map_of_mem (f := Go.Zam.encStr) hx)
    simp only [Go.Zam.encStr, D.bulkC, D.bulk] at this
    omega
  · have := bulkR_mem (List.mem_map_of_mem (f := T.enc) hp)
    omega

theorem ty25 : ∀ n ds, Typed Tryz.prog n 25 ds → ∃ v : T, ds = v.enc ∧ True := by
  intro n
  induction n using Nat.strongRecOn with
  | ind n ih =>
  intro ds h
  obtain ⟨m, rfl, h⟩ := typed_structR Tryz.underlying25 h
  obtain ⟨a, r, rfl, ha, d, r, rfl, hd, e, r, rfl, he, rfl⟩ := h
  obtain ⟨k, rfl, -⟩ := typed_i64 Tryz.underlying3 ha
  obtain ⟨z, ns, rfl⟩ := typed_sl (sz := 1) (enc := Go.Zam.encStr) Tryz.underlying22 (by kernel_rfl) (fun n ds h => by
    obtain ⟨x, rfl⟩ := typed_str Tryz.underlying9 h
    exact ⟨x, rfl⟩) hd
  obtain ⟨y, ps, rfl, hp⟩ := typed_slR (sz := 3) (enc := T.enc) (R := fun _ => True) Tryz.underlying23 (by kernel_rfl) (fun q hq ds h => ih q (by omega) ds h) he
  exact ⟨.mk k z ns y ps, by rw [T.enc_mk]; rfl, trivial⟩

theorem arg_typ {n : Nat} {ds : List D} {a : A} (h : Typed Tryz.prog n 25 ds) (ha : ArgOf Tryz.prog 25 ds a) : ∃ v : T, a = v.a ∧ D.bulkC v.enc = D.bulkC ds := by
  obtain ⟨v, rfl, -⟩ := ty25 n ds h
  refine ⟨v, ?_, rfl⟩
  unfold ArgOf at ha
  rw [Tryz.underlying25] at ha
  exact ha

end Go.Proofs.Zy

namespace Go.Proofs
open Go.Shelf
def Tryz.lays156_ren : Go.Shelf.Ren := ⟨fun | 156 => 51 | 165 => 69 | 166 => 70 | 169 => 71 | 240 => 85 | 241 => 86 | 276 => 109 | 277 => 110 | n => n, fun | 31 => 22 | 9 => 9 | 3 => 3 | 4 => 4 | 0 => 0 | 20 => 20 | 72 => 80 | 76 => 84 | 70 => 77 | 37 => 78 | 75 => 83 | 127 => 105 | 164 => 130 | 5 => 5 | 80 => 86 | n => n, fun | n => n⟩
theorem Tryz.lays156 : Go.Proofs.Lays.n156 Tryz.prog Tryz.lays156_ren := {
  mixed := by kernel_rfl
  f156 := Tryz.func51.trans (congrArg some (by kernel_rfl))
  f165 := Tryz.func69.trans (congrArg some (by kernel_rfl))
  f166 := Tryz.func70.trans (congrArg some (by kernel_rfl))
  f169 := Tryz.func71.trans (congrArg some (by kernel_rfl))
  f240 := Tryz.func85.trans (congrArg some (by kernel_rfl))
  f241 := Tryz.func86.trans (congrArg some (by kernel_rfl))
  f276 := Tryz.func109.trans (congrArg some (by kernel_rfl))
  f277 := Tryz.func110.trans (congrArg some (by kernel_rfl))
  t0 := Tryz.underlying0
  a0 := Tryz.isAgg0
  z0 := Tryz.sizeOf0
  v0 := Tryz.zeroValue0
  t3 := Tryz.underlying3
  a3 := Tryz.isAgg3
  z3 := Tryz.sizeOf3
  v3 := Tryz.zeroValue3
  t4 := Tryz.underlying4
  a4 := Tryz.isAgg4
  z4 := Tryz.sizeOf4
  v4 := Tryz.zeroValue4
  t9 := Tryz.underlying9
  a9 := Tryz.isAgg9
  z9 := Tryz.sizeOf9
  v9 := Tryz.zeroValue9
  t20 := Tryz.underlying20
  a20 := Tryz.isAgg20
  z20 := Tryz.sizeOf20
  v20 := Tryz.zeroValue20
  t31 := Tryz.underlying22
  a31 := Tryz.isAgg22
  z31 := Tryz.sizeOf22
  v31 := Tryz.zeroValue22
  t37 := Tryz.underlying78
  a37 := Tryz.isAgg78
  z37 := Tryz.sizeOf78
  v37 := Tryz.zeroValue78
  t70 := Tryz.underlying77
  a70 := Tryz.isAgg77
  z70 := Tryz.sizeOf77
  v70 := Tryz.zeroValue77
  t72 := Tryz.underlying80
  a72 := Tryz.isAgg80
  z72 := Tryz.sizeOf80
  v72 := Tryz.zeroValue80
  t75 := Tryz.underlying83
  a75 := Tryz.isAgg83
  z75 := Tryz.sizeOf83
  v75 := Tryz.zeroValue83
  t76 := Tryz.underlying84
  a76 := Tryz.isAgg84
  z76 := Tryz.sizeOf84
  v76 := Tryz.zeroValue84
  t127 := Tryz.underlying105
  a127 := Tryz.isAgg105
  z127 := Tryz.sizeOf105
  v127 := Tryz.zeroValue105
  t164 := Tryz.underlying130
  a164 := Tryz.isAgg130
  z164 := Tryz.sizeOf130
  v164 := Tryz.zeroValue130 }
end Go.Proofs

namespace Go.Proofs.Zy
open Go Go.Zam Go.Proofs Classical
set_option maxRecDepth 100000
set_option linter.all false
theorem joinExtra : Builder.Extra Tryz.prog Tryz.lays156_ren := {
  sizeBuilder := by kernel_rfl
  liesBuilder := by kernel_rfl
  t5 := Tryz.underlying5
  a5 := Tryz.isAgg5
  z5 := Tryz.sizeOf5
  v5 := Tryz.zeroValue5
  infoByte := by kernel_rfl
  cellsByte := by kernel_rfl
  sizeByte := by kernel_rfl
  neB5 := by decide }
theorem joinSOk : JoinS Tryz.prog 51 := fun z xs sep hN hl H => join_leaf Tryz.lays156 joinExtra z xs sep hN hl H
theorem textOk (v : T) (hv : v.Fit 1048576) (hw : v.wt ≤ 1099511627776) : TextT Tryz.prog 32 v := HasT.tyText yh32 joinSOk v hv hw
theorem ycf18 : compF Tryz.prog [] Tryz.f18 = some (irTAwake9 33 32 25) := by kernel_rfl
theorem yh18 : Has Tryz.prog 18 (irTAwake9 33 32 25) := ⟨_, Tryz.func18, ycf18⟩
theorem awake9Ok {H0 : Hp} (hG : TabsG 1 2 3 4 H0) : AwakeT Tryz.prog H0 18 := Has.tAwake9 yh18 (fun s hs H hH => tyParseOk hG s hs H hH) textOk
theorem arg_str {n : Nat} {ds : List D} {a : A} (h : Typed Tryz.prog n 9 ds) (ha : ArgOf Tryz.prog 9 ds a) : ∃ s : Str', a = .d (.str s) ∧ s.length ≤ D.bulkC ds := by
  obtain ⟨x, rfl⟩ := typed_str Tryz.underlying9 h
  exact ⟨x, argOf_one (by rw [Tryz.underlying9]; simp) ha, by simp only [D.bulkC, D.bulk]; omega⟩
end Go.Proofs.Zy

namespace Go.Proofs.Zy
open Go Go.Zam Go.Proofs Classical
set_option maxRecDepth 100000
set_option linter.all false
theorem tRightOk (v : T) (hv : v.Fit 1048576) : RightT Tryz.prog 31 v := Has.tyRight yh31 isNameOk v hv
end Go.Proofs.Zy

namespace Go.Proofs.Zy
open Go Go.Zam Go.Proofs Classical
set_option maxRecDepth 100000
set_option linter.all false
theorem ycf10 : compF Tryz.prog [] Tryz.f10 = some (irLBack 18 17 31 26 32 33 34 25) := by kernel_rfl
theorem yh10 : Has Tryz.prog 10 (irLBack 18 17 31 26 32 33 34 25) := ⟨_, Tryz.func10, ycf10⟩
theorem lBackOk {H0 : Hp} (hG : TabsG 1 2 3 4 H0) (v : T) (s : Str') (hv : v.Fit 1048576) (hvd : v.dep ≤ 1048576) (hvw : v.wt ≤ 1099511627776) (hs : s.length ≤ 1048576) (H : Hp) (hH : Pre0 H0 H) :
    ACall Tryz.prog 10 [v.a, .d (.str s)] H (fun r H' => r = .d (.bool true) ∧ H' = H) :=
  Has.lBack yh10 (awake9Ok hG) (fun v hv H => lightOk v hv H) tRightOk (fun v hv hd H => tDepthOk v hv hd H) textOk (fun s hs H hH => tyParseOk hG s hs H hH) sameOk v s hv hvd hvw hs H hH
end Go.Proofs.Zy
