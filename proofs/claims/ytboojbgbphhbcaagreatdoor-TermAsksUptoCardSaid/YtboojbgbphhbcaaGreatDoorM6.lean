/-
  Texts of one proof, one behind the other: An abstract machine over the model, hundred and ninth part: whether a type may be, the document's answer, over any program that asks. The lengths are bounded. An abstract machine over the model, hundred and thirty-fourth part: whether a type may be, the program's answer, over any program that asks. The lengths are bounded. An abstract machine over the model, hundred and second part: a row of texts sorted in place by the library. No program in sight. The lengths are bounded. An abstract machine over the model, hundred and third part: a row that a function of the library made, as a row that is written. No program in sight. The lengths are bounded. An abstract machine over the model, hundred and eleventh part: texts sorted into a new row; rows of texts without equal neighbours, over any program that asks. The lengths are bounded. An abstract machine over the model, hundred and twelfth part: the record of labels with their types, sorted: plain facts. No program in sight. No condition. An abstract machine over the model, hundred and thirteenth part: term.Record, over any program that has its functions. The lengths are bounded. An abstract machine over the model, hundred and first part: the type that a tree tells. No program in sight. No condition. An abstract machine over the model, hundred and fourteenth part: types made out of others: functions, twins; how deep one is, over any program that asks. The lengths are bounded. An abstract machine over the model, fifty-fifth part: plain facts on texts that are UTF-8. No program in sight. No condition. An abstract machine over the model, fifty-sixth part: plain facts on a text's tokens. No program in sight. No condition. An abstract machine over the model, seventy-ninth part: the tree of a text, over any program that has the functions. The lengths are bounded. An abstract machine over the model, ninety-ninth part: parse.Type: what it answers at any text. No program in sight. The lengths are bounded. An abstract machine over the model, hundred and fifteenth part: term.Of, term.Parse, over any program that has their functions. The lengths are bounded. An abstract machine over the model, hundred and sixteenth part: types that trees tell: how great they are; the statements' examples. No program in sight. An abstract machine over the model, hundred and seventeenth part: whether a type is without any, the document's answer; the guards of the tenth chapter's laws, over any program that asks. The lengths are bounded. An abstract machine over the model, hundred and eighteenth part: the tenth chapter's sentinel, and its laws on going, over any program that asks. The lengths are bounded. An abstract machine over the model, hundred and nineteenth part: the tenth chapter's first laws, over any program that asks. The lengths are bounded. An abstract machine over the model, hundred and twentieth part: what two types have in common, as the program holds it. Plain Lean. No program in sight. An abstract machine over the model, hundred and twenty-fifth part: texts joined by the library. No program in sight. The lengths are bounded. An abstract machine over the model, hundred and twenty-sixth part: a type's text. Plain Lean. No program in sight. An abstract machine over the model, hundred and twenty-seventh part: a type's text, over any program that asks. The lengths are bounded. An abstract machine over the model, hundred and thirty-third part: a type's text, the document's answer, over any program that asks. The lengths are bounded. An abstract machine over the model, hundred and twenty-ninth part: what a record has at its labels, how deep it is. Plain Lean. No program in sight. An abstract machine over the model, hundred and thirty-first part: how deep a type is, a record's label, whether a type is without any: the document's answers and the program's, over any program that asks. The lengths are bounded. An abstract machine over the model, hundred and thirty-second part: whether a type is without any, the program's answer, over any program that asks. The lengths are bounded. An abstract machine over the model, hundred and thirty-fifth part: the ninth chapter's law on what is asked of a type, over any program that asks. The lengths are bounded. An abstract machine over the model, hundred and thirtieth part: the ninth chapter's law on a record's parts, over any program that asks. The lengths are bounded. An abstract machine over the model, hundred and twenty-eighth part: the ninth chapter's sentinel, over any program that asks. The lengths are bounded. strconv.ParseUint(s, 10, 63), over any program that has it: turned from the kit's worked proofs at 32 and 64 bits. No condition but on lengths. The functions of the layers of runes and tokens at this program. (Printed by mktok.py.) strings.Builder's copyCheck and String on the abstract machine, at this program. No condition. The layers of runes and tokens at this program: the library's functions, one by one, and what token.Lex answers. (Printed by mktok.py.) The lengths are bounded.
-/
import Derived.Test.YtboojbgbphhbcaaGreatDoorM5
import Derived.Test.YtboojbgbphhbcaaGreatDoorM3
import Derived.Sort.Row
import Derived.Sort.Grow
import Derived.Sort.EncStr
import Derived.Laws.AppendOwn
import Derived.Test.YtboojbgbphhbcaaGreatDoorM4
import Derived.Lib.SlicesCompact
import Derived.Sort.Walk0
import Derived.KernelRfl
import Derived.Shelf.Strings.OnBuilder
import Derived.BigCall
import Derived.BigGuard
import Derived.Laws.Closers25
import Derived.Laws.Closers25b
import Derived.Laws.Strings3
import Derived.Lib.AtoiErrMem
import Derived.Lib.ConvBytes
import Derived.Lib.Hide
import Derived.Lib.ParseIntBMem
import Derived.Lib.Strings
import Derived.Lib.Walk
import Derived.Shelf.Pu.Lays
import Derived.Shelf.Pu.Lower
import Derived.Shelf.Pu.ParseUint10
import Derived.Shelf.Pu.ParseUint10At
import Derived.Shelf.Pu.ParseUint10b16
import Derived.Shelf.Pu.ParseUint10b32
import Derived.Shelf.Pu.ParseUint10b64
import Derived.Shelf.Pu.ParseUint10b8
import Derived.Shelf.Pu.ParseUintEmpty
import Derived.Shelf.Pu.ToError
import Derived.Shelf.Pu.ToErrorRange
import Derived.WalkKit
import Derived.Test.YtboojbgbphhbcaaGreatDoorProg
namespace Go.Zam
set_option linter.all false
set_option maxRecDepth 100000
set_option maxHeartbeats 2000000
open Classical

/-- what is asked of a function that says whether a type may be -/
def RightT (P : Program) (f : FuncId) (v : T) : Prop := ∀ (H : Hp), ACall P f [v.a] H (fun r H' => r = .d (.bool (decide v.st.Rt)) ∧ H' = H)

/-- labels up to a place rise, and are names -/
def UpTo (ns : List Str') (i : Nat) : Prop := (∀ (j : Nat) (x : Str'), j < i → ns[j]? = some x → isNameB x = true) ∧ ∀ (j : Nat) (x y : Str'), j + 1 < i → ns[j]? = some x → ns[j + 1]? = some y → Op.bytesLess x y = true
theorem UpTo.all {ns : List Str'} (h : UpTo ns ns.length) : (∀ x ∈ ns, isNameB x = true) ∧ Ty.Inc ns :=
  ⟨fun x hx => by
    obtain ⟨i, hi⟩ := List.getElem?_of_mem hx
    exact h.1 i x (List.getElem?_eq_some_iff.1 hi).1 hi, fun i x y hx hy => h.2 i x y (List.getElem?_eq_some_iff.1 hy).1 hx hy⟩
theorem UpTo.zero (ns : List Str') : UpTo ns 0 := ⟨fun j x h => by omega, fun j x y h => by omega⟩
theorem UpTo.succ {ns : List Str'} {i : Nat} {y : Str'} (h : UpTo ns i) (hy : ns[i]? = some y) (hn : isNameB y = true) (hp : ∀ x, 0 < i → ns[i - 1]? = some x → Op.bytesLess x y = true) : UpTo ns (i + 1) := by
  refine ⟨fun j x hj hx => ?_, fun j x z hj hx hz => ?_⟩
  · by_cases e : j = i
    · subst e; rw [hy] at hx; cases hx; exact hn
    · exact h.1 j x (by omega) hx
  · by_cases e : j + 1 = i
    · subst e; rw [hy] at hz; cases hz; exact hp x (by omega) (by simpa using hx)
    · exact h.2 j x z (by omega) hx hz

section
variable {P : Program} {bt : Nat}

theorem Has.rRight {f fi : FuncId} (h : Has P f (irTRight bt f fi)) (hn : ∀ s H, ACall P fi [.d (.str s)] H (fun r H' => r = .d (.bool (isNameB s)) ∧ H' = H)) (v : T) : v.Fit 1048576 → RightT P f v := by
  induction v using T.ind with
  | h k z ns y ps ih =>
  rintro (⟨_, _, _, _, _, b2, b3, b4, b5⟩) H
  have h0 := h
  obtain ⟨fn, hf, hcf⟩ := h
  refine acall_fin hf hcf (by simp [irTRight]) fun hcl _ => ?_
  rw [T.st_mk]
  rw [T.a_mk]
  generalize hB : H ++ [Ob.box bt [A.d (D.int IntKind.i64 k), A.d (D.sl z 1 (List.map encStr ns)), A.d (D.sl y 3 (List.map T.enc ps))]] = B
  have hB0 : B[H.length]? = some (Ob.box bt [A.d (D.int IntKind.i64 k), A.d (D.sl z 1 (List.map encStr ns)), A.d (D.sl y 3 (List.map T.enc ps))]) := by rw [← hB]; simp
  have hBl : B.length = H.length + 1 := by rw [← hB]; simp
  have hBc : Hp.cut (H.length + 1) B = B := by rw [← hB, cut_appk hcl]; simp
  have hBz : Hp.cut H.length B = H := by rw [← hB, cut_app hcl]
  have hno : ∀ fr H', (¬ (Ty.mk k ns (ps.map T.st)).Rt ∧ fr 2 = .d (.bool false) ∧ H' = B) → Zam.Fin [Res.t 2] H.length (fun r H' => r = .d (.bool (decide (Ty.mk k ns (ps.map T.st)).Rt)) ∧ H' = H) .ret fr H' := by
    rintro fr H' ⟨hd, f2, rfl⟩
    simp [RetK, hBz, hBl, f2, hd]
  have hrt := @Ty.rt_iff k ns (ps.map T.st)
  by_cases c1 : 0 ≤ k ∧ k ≤ 4
  case neg =>
    have hd : ¬ (Ty.mk k ns (ps.map T.st)).Rt := fun h => c1 (hrt.1 h).1
    by_cases k0 : k < 0
    · simp [irTRight, hB, hB0, k0]
      simp [RetK, hBz, hBl, hd]
    · have k4 : 4 < k := by omega
      simp [irTRight, hB, hB0, k0, k4]
      simp [RetK, hBz, hBl, hd]
  have k0 : ¬ k < 0 := by omega
  have k4 : ¬ 4 < k := by omega
  by_cases c2 : k ≤ 2 → ns = [] ∧ ps = []
  case neg =>
    have hd : ¬ (Ty.mk k ns (ps.map T.st)).Rt := fun h => c2 fun hk => by have := (hrt.1 h).2.1 hk; simpa using this
    have hk : k ≤ 2 := Classical.byContradiction fun hk => c2 fun h => absurd h hk
    by_cases hns : ns = []
    · have hps : ps ≠ [] := fun e => c2 fun _ => ⟨hns, e⟩
      have hpl := List.length_pos_iff.2 hps
      simp [irTRight, hB, hB0, k0, k4, hk, hns, hpl]
      simp [RetK, hBz, hBl, cut_app hcl]
      simpa [hns] using hd
    · have hnl := List.length_pos_iff.2 hns
      simp [irTRight, hB, hB0, k0, k4, hk, hnl]
      simp [RetK, hBz, hBl, hd]
  by_cases c3 : k = 3 → ns.length = ps.length
  case neg =>
    have hd : ¬ (Ty.mk k ns (ps.map T.st)).Rt := fun h => c3 fun hk => by have := (hrt.1 h).2.2.1 hk; simpa using this
    have hk : k = 3 := Classical.byContradiction fun hk => c3 fun h => absurd h hk
    have hl : ¬ ns.length = ps.length := fun e => c3 fun _ => e
    have hl' : ¬ (ns.length : Int) = ps.length := by omega
    subst hk
    simp [irTRight, hB, hB0, hl, hl']
    simp [RetK, hBz, hBl, hd]
  by_cases c4 : k = 4 → ns = [] ∧ ps ≠ []
  case neg =>
    have hd : ¬ (Ty.mk k ns (ps.map T.st)).Rt := fun h => c4 fun hk => by have := (hrt.1 h).2.2.2.1 hk; simpa using this
    have hk : k = 4 := Classical.byContradiction fun hk => c4 fun h => absurd h hk
    subst hk
    by_cases hns : ns = []
    · have hps : ps = [] := Classical.byContradiction fun e => c4 fun _ => ⟨hns, e⟩
      simp [irTRight, hB, hB0, hns, hps]
      simp [RetK, hBz, hBl, cut_app hcl]
      simpa [hns, hps] using hd
    · have hnl := List.length_pos_iff.2 hns
      simp [irTRight, hB, hB0, hnl]
      simp [RetK, hBz, hBl, hd]
  have hmain : (Ty.mk k ns (ps.map T.st)).Rt ↔ UpTo ns ns.length ∧ ∀ p ∈ ps, p.st.Rt := by
    rw [hrt]
    constructor
    · rintro ⟨-, -, -, -, a, b, c⟩
      exact ⟨⟨fun j x _ hx => a x (List.mem_of_getElem? hx), fun j x y _ hx hy => b j x y hx hy⟩, fun p hp => c _ (List.mem_map_of_mem hp)⟩
    · rintro ⟨a, b⟩
      refine ⟨c1, fun h => by simpa using c2 h, fun h => by simpa using c3 h, fun h => by simpa using c4 h, a.all.1, a.all.2, fun p hp => ?_⟩
      obtain ⟨q, hq, rfl⟩ := List.mem_map.1 hp
      exact b q hq
  simp only [irTRight]
  refine Seq_out (fun fr H' => fr 1 = .ptr H.length 0 ∧ H' = B) (fun _ _ => False) (by simp [hB]) (fun _ _ h => h.elim) ?_
  rintro fr H' ⟨f1, rfl⟩
  refine Seq_out (fun fr H2 => fr 1 = .ptr H.length 0 ∧ H2 = H') (fun _ _ => False) ?_ (fun _ _ h => h.elim) ?_
  · simp [f1, hB0, k0, k4]
  rintro fr H2 ⟨f1, rfl⟩
  refine Seq_out (fun fr H3 => fr 1 = .ptr H.length 0 ∧ H3 = H2) (fun _ _ => False) ?_ (fun _ _ h => h.elim) ?_
  · by_cases hk : k ≤ 2
    · obtain ⟨e1, e2⟩ := c2 hk
      subst e1; subst e2
      simp [f1, hB0, hk]
    · simp [f1, hB0, hk]
  rintro fr H3 ⟨f1, rfl⟩
  refine Seq_out (fun fr H4 => fr 1 = .ptr H.length 0 ∧ H4 = H3) (fun _ _ => False) ?_ (fun _ _ h => h.elim) ?_
  · by_cases hk3 : k = 3
    · have e := c3 hk3
      subst hk3
      simp [f1, hB0, e]
    · by_cases hk4 : k = 4
      · obtain ⟨e1, e2⟩ := c4 hk4
        have hpl := List.length_pos_iff.2 e2
        subst hk4
        subst e1
        simp [f1, hB0, e2]
      · simp [f1, hB0, hk3, hk4]
  rintro fr H4 ⟨f1, rfl⟩
  refine Seq_out (fun fr H5 => fr 1 = .ptr H.length 0 ∧ UpTo ns ns.length ∧ H5 = H4) (fun fr H5 => ¬ (Ty.mk k ns (ps.map T.st)).Rt ∧ fr 2 = .d (.bool false) ∧ H5 = H4) ?_ hno ?_
  · simp
    refine LoopK_outR 0 (fun fr H5 => fr 1 = .ptr H.length 0 ∧ UpTo ns ns.length ∧ H5 = H4) (fun fr H5 => ¬ (Ty.mk k ns (ps.map T.st)).Rt ∧ fr 2 = .d (.bool false) ∧ H5 = H4) ?_ (fun fr H h => by simpa using h) (fun fr H h => by simpa using h)
    refine ForK_of (H.length + 1) ns.length (fun i fr H5 => fr 1 = .ptr H.length 0 ∧ UpTo ns i ∧ H5 = H4) (by omega) (by decide) (by simp [hBl]) (by simp) ?_ ?_
    · simp [hBc, f1, UpTo.zero]
    rintro i fr H5 hi f3 ⟨f1, hU, rfl⟩
    simp [f3, f1, hB0]
    refine BrK_split (fun h => ?_) (fun h => ?_)
    · have hlt : i < ns.length := by simpa using h
      have hr := rowAt_map encStr hlt
      have hg : ns[i]? = some ns[i] := List.getElem?_eq_getElem hlt
      generalize ns[i] = x at hr hg
      simp only [encStr] at hr
      simp [f3, f1, hB0, encStr, hr]
      refine CallD_of (hn _ _) ?_
      by_cases hnx : isNameB x = true
      case neg =>
        have hnx' : isNameB x = false := by simpa using hnx
        have hd : ¬ (Ty.mk k ns (ps.map T.st)).Rt := fun h => hnx ((hmain.1 h).1.1 i x hlt hg)
        simp [hnx', hd]
      simp [hnx, f3]
      refine GdK_split (by simp) (fun h => ?_) (fun h => ?_)
      · have hpos : 0 < i := by simpa using h
        have hwm : IntKind.i64.wrap ((i : Int) - 1) = ((i - 1 : Nat) : Int) := by rw [wrap_i64 (by omega) (by omega)]; omega
        have hj : i - 1 < ns.length := by omega
        have rj := rowAt_map encStr hj
        have gj : ns[i - 1]? = some ns[i - 1] := List.getElem?_eq_getElem hj
        generalize ns[i - 1] = w at rj gj
        simp only [encStr] at rj
        simp [f3, f1, hB0, encStr, hr, hwm, rj]
        refine BrK_split (fun h => ?_) (fun h => ?_)
        · have hd : ¬ (Ty.mk k ns (ps.map T.st)).Rt := fun hR => by
            have hwx := (hmain.1 hR).1.2 (i - 1) w x (by omega) gj (by rw [show i - 1 + 1 = i by omega]; exact hg)
            simp at h
            rcases h with h | h
            · rw [bl_asymm hwx] at h; cases h
            · subst h; rw [bl_irrefl] at hwx; cases hwx
          simp [hd]
        · have hwx : Op.bytesLess w x = true := by
            simp at h
            by_cases hb : Op.bytesLess w x = true
            · exact hb
            · exact absurd (bl_total x w h.1 (by simpa using hb)) h.2
          simp
          refine NextF_of (H.length + 1) (Nat.le_refl _) hlt (by simp [hBl, f3]) ?_
          simp [f1, hBc]
          exact hU.succ hg hnx fun x' _ hx' => by rw [gj] at hx'; cases hx'; exact hwx
      · have hz : i = 0 := by simpa using h
        simp
        refine NextF_of (H.length + 1) (Nat.le_refl _) hlt (by simp [hBl, f3]) ?_
        simp [f1, hBc]
        exact hU.succ hg hnx fun x' h0 _ => by omega
    · have hin : i = ns.length := by have : ¬ i < ns.length := by simpa using h
                                     omega
      subst hin
      simp [f1, hU]
  rintro fr H5 ⟨f1, hU, rfl⟩
  simp
  refine LoopK_outR 2 (fun fr H6 => (∀ p ∈ ps, p.st.Rt) ∧ H6 = H5) (fun fr H6 => ¬ (Ty.mk k ns (ps.map T.st)).Rt ∧ fr 2 = .d (.bool false) ∧ H6 = H5) ?_ (fun fr H h => hno fr H h) ?_
  · refine ForK_of (H.length + 1) ps.length (fun i fr H6 => fr 1 = .ptr H.length 0 ∧ (∀ (j : Nat) (p : T), j < i → ps[j]? = some p → p.st.Rt) ∧ H6 = H5) (by omega) (by decide) (by simp [hBl]) (by simp) ?_ ?_
    · simp [hBc, f1]
    rintro i fr H6 hi f4 ⟨f1, hJ, rfl⟩
    simp [f4, f1, hB0]
    refine BrK_split (fun h => ?_) (fun h => ?_)
    · have hlt : i < ps.length := by simpa using h
      have hr := rowAt_map T.enc hlt
      have hx := ih ps[i] (List.getElem_mem hlt) (b5 _ (List.getElem_mem hlt))
      have hg : ps[i]? = some ps[i] := List.getElem?_eq_getElem hlt
      have hmem := List.getElem_mem hlt
      generalize ps[i] = p at hr hx hg hmem
      have hnR : ¬ p.st.Rt → ¬ (Ty.mk k ns (ps.map T.st)).Rt := fun hn hR => hn ((hmain.1 hR).2 p hmem)
      have hyR : p.st.Rt → ∀ (j : Nat) (q : T), j < i + 1 → ps[j]? = some q → q.st.Rt := fun hp j q hj hq => by
        by_cases e : j = i
        · subst e; rw [hg] at hq; cases hq; exact hp
        · exact hJ j q (by omega) hq
      generalize hRp : p.st.Rt = RP at hnR hyR
      unfold RightT at hx
      rw [hRp] at hx
      cases p with | mk k1 z1 ns1 y1 ps1 =>
      simp only [T.a_mk, T.enc_mk] at hr hx
      simp [f4, f1, hB0, hr]
      refine CallK_of' (hx _) ?_
      by_cases hRP : RP
      · simp [hRP]
        refine NextF_of (H.length + 1) (Nat.le_refl _) hlt (by simp [hBl, f4]) ?_
        simp [f1, hBc]
        exact hyR hRP
      · simp [hRP]
        exact hnR hRP
    · have hin : i = ps.length := by have : ¬ i < ps.length := by simpa using h
                                     omega
      subst hin
      simp
      intro p hp
      obtain ⟨j, hj⟩ := List.getElem?_of_mem hp
      exact hJ j p (List.getElem?_eq_some_iff.1 hj).1 hj
  · rintro fr H6 ⟨hall, rfl⟩
    have hd : (Ty.mk k ns (ps.map T.st)).Rt := hmain.2 ⟨hU, hall⟩
    simp
    simp [RetK, hBz, hBl, hd]

end
end Go.Zam

namespace Go.Zam
set_option linter.all false
set_option maxRecDepth 100000
set_option maxHeartbeats 4000000
open Classical

section
variable {P : Program} {t : Nat}

theorem Has.tyRight {f fi : FuncId} (h : Has P f (irTyRight fi f t)) (hn : ∀ s H, ACall P fi [.d (.str s)] H (fun r H' => r = .d (.bool (isNameB s)) ∧ H' = H)) (v : T) : v.Fit 1048576 → RightT P f v := by
  induction v using T.ind with
  | h k z ns y ps ih =>
  rintro (⟨_, _, _, _, _, b2, b3, b4, b5⟩) H
  have h0 := h
  obtain ⟨fn, hf, hcf⟩ := h
  refine acall_fin hf hcf (by simp [irTyRight]) fun hcl _ => ?_
  rw [T.st_mk]
  rw [T.a_mk]
  generalize hB : H ++ [Ob.box t [A.d (D.int IntKind.i64 k), A.d (D.sl z 1 (List.map encStr ns)), A.d (D.sl y 3 (List.map T.enc ps))]] = B
  have hB0 : B[H.length]? = some (Ob.box t [A.d (D.int IntKind.i64 k), A.d (D.sl z 1 (List.map encStr ns)), A.d (D.sl y 3 (List.map T.enc ps))]) := by rw [← hB]; simp
  have hBl : B.length = H.length + 1 := by rw [← hB]; simp
  have hBc : Hp.cut (H.length + 1) B = B := by rw [← hB, cut_appk hcl]; simp
  have hBz : Hp.cut H.length B = H := by rw [← hB, cut_app hcl]
  have hBcl : ∀ X, Hp.cut (H.length + 1) (B ++ X) = B := fun X => by rw [← hB, List.append_assoc, cut_appk hcl]; simp
  have hBcz : ∀ X, Hp.cut H.length (B ++ X) = H := fun X => by rw [← hB, List.append_assoc, cut_app hcl]
  have hrt := @Ty.rt_iff k ns (ps.map T.st)
  have hret : ∀ fr H', (fr 2 = .d (.bool (decide (Ty.mk k ns (ps.map T.st)).Rt)) ∧ H' = B) → Zam.Fin [Res.t 2] H.length (fun r H' => r = .d (.bool (decide (Ty.mk k ns (ps.map T.st)).Rt)) ∧ H' = H) .ret fr H' := by
    rintro fr H' ⟨f2, rfl⟩
    simp [RetK, hBz, hBl, f2]
  have hmain : (k = 3 → ns.length = ps.length) → (k = 4 → ns = [] ∧ ps ≠ []) → (k = 3 ∨ k = 4) → ((Ty.mk k ns (ps.map T.st)).Rt ↔ UpTo ns ns.length ∧ ∀ p ∈ ps, p.st.Rt) := fun c3 c4 c5 => by
    rw [hrt]
    constructor
    · rintro ⟨-, -, -, -, a, b, c⟩
      exact ⟨⟨fun j x _ hx => a x (List.mem_of_getElem? hx), fun j x y _ hx hy => b j x y hx hy⟩, fun p hp => c _ (List.mem_map_of_mem hp)⟩
    · rintro ⟨a, b⟩
      refine ⟨by omega, fun h => by omega, fun h => by simpa using c3 h, fun h => by simpa using c4 h, a.all.1, a.all.2, fun p hp => ?_⟩
      obtain ⟨q, hq, rfl⟩ := List.mem_map.1 hp
      exact b q hq
  generalize hRt : (Ty.mk k ns (ps.map T.st)).Rt = RT at *
  simp only [irTyRight]
  refine Seq_out (fun fr H' => fr 1 = .ptr H.length 0 ∧ H' = B) (fun _ _ => False) (by simp [hB]) (fun _ _ h => h.elim) ?_
  rintro fr H' ⟨f1, rfl⟩
  refine Seq_out (fun fr H2 => fr 1 = .ptr H.length 0 ∧ (RT ↔ ∀ p ∈ ps, p.st.Rt) ∧ H2 = H') (fun fr H2 => fr 2 = .d (.bool (decide RT)) ∧ H2 = H') ?_ hret ?_
  · by_cases c2 : k = 0 ∨ k = 1 ∨ k = 2
    · have hd : RT ↔ ns = [] ∧ ps = [] := by
        rw [hrt]
        constructor
        · rintro ⟨-, a, -⟩
          have := a (by omega)
          simpa using this
        · rintro ⟨rfl, rfl⟩
          exact ⟨by omega, by simp, by simp, fun h => by omega, by simp, fun i x y hx => by simp at hx, by simp⟩
      rcases c2 with rfl | rfl | rfl
      all_goals
        by_cases e1 : ns = []
        · subst e1
          simp [f1, hB0, hd]
        · simp [f1, hB0, hd, e1]
    have k0 : ¬ k = 0 := fun e => c2 (.inl e)
    have k1 : ¬ k = 1 := fun e => c2 (.inr (.inl e))
    have k2 : ¬ k = 2 := fun e => c2 (.inr (.inr e))
    by_cases k3 : k = 3
    · by_cases hl : ns.length = ps.length
      case neg =>
        have hd : ¬ RT := fun h => hl (by have := (hrt.1 h).2.2.1 k3; simpa using this)
        have hl' : ¬ (ns.length : Int) = ps.length := by omega
        simp [f1, hB0, k0, k1, k2, k3, hl, hl', hd]
      have hm := hmain (fun _ => hl) (fun e => by omega) (.inl k3)
      simp [f1, hB0, k0, k1, k2, k3, hl]
      refine RangeK_of (H.length + 1) ps.length (fun i fr H5 => fr 1 = .ptr H.length 0 ∧ fr 33 = .d (.sl z 1 (ns.map encStr)) ∧ UpTo ns i ∧ H5 = H') (by omega) (by decide) (by simp [hBl]) (by simp) ?_ ?_ ?_
      · simp [hBc, f1, UpTo.zero]
      · rintro i fr H5 hi f35 f34 ⟨f1, f33, hU, rfl⟩
        have hlt : i < ns.length := by omega
        have hr := rowAt_map encStr hlt
        have hg : ns[i]? = some ns[i] := List.getElem?_eq_getElem hlt
        generalize ns[i] = x at hr hg
        simp only [encStr] at hr
        simp [f35, f33, f1, hr]
        refine CallK_of' (hn _ _) ?_
        by_cases hnx : isNameB x = true
        case neg =>
          have hnx' : isNameB x = false := by simpa using hnx
          have hd : ¬ RT := fun h => hnx ((hm.1 h).1.1 i x hlt hg)
          simp [hnx', hd]
        simp [hnx, f35]
        refine GdK_split (by simp) (fun h => ?_) (fun h => ?_)
        · have hpos : 0 < i := by simpa using h
          have hwm : IntKind.i64.wrap ((i : Int) - 1) = ((i - 1 : Nat) : Int) := by rw [wrap_i64 (by omega) (by omega)]; omega
          have hj : i - 1 < ns.length := by omega
          have rj := rowAt_map encStr hj
          have gj : ns[i - 1]? = some ns[i - 1] := List.getElem?_eq_getElem hj
          generalize ns[i - 1] = w at rj gj
          simp only [encStr] at rj
          simp [f35, f1, hB0, encStr, hr, hwm, rj]
          refine BrK_split (fun h => ?_) (fun h => ?_)
          · have hd : ¬ RT := fun hR => by
              have hwx := (hm.1 hR).1.2 (i - 1) w x (by omega) gj (by rw [show i - 1 + 1 = i by omega]; exact hg)
              simp at h
              rw [hwx] at h; cases h
            simp [hd]
          · have hwx : Op.bytesLess w x = true := by simpa using h
            simp
            refine NextK_of (H.length + 1) (Nat.le_refl _) (by simp [hBl, f35, f34]) ?_
            simp [f1, f33, hBc]
            exact hU.succ hg hnx fun x' _ hx' => by rw [gj] at hx'; cases hx'; exact hwx
        · have hz : i = 0 := by simpa using h
          simp
          refine NextK_of (H.length + 1) (Nat.le_refl _) (by simp [hBl, f35, f34]) ?_
          simp [f1, f33, hBc]
          exact hU.succ hg hnx fun x' h0 _ => by omega
      · rintro fr H5 f35 f34 ⟨f1, f33, hU, rfl⟩
        rw [← hl] at hU
        have hm' : RT ↔ ∀ p ∈ ps, p.st.Rt := by rw [hm]; exact ⟨fun h => h.2, fun h => ⟨hU, h⟩⟩
        simp [f1]
        exact hm'
    by_cases k4 : k = 4
    · by_cases hnn : ns = []
      case neg =>
        have hd : ¬ RT := fun h => hnn ((hrt.1 h).2.2.2.1 k4).1
        simp [f1, hB0, k0, k1, k2, k3, k4, hnn, hd]
      by_cases hpp : ps = []
      case pos =>
        have hd : ¬ RT := fun h => ((hrt.1 h).2.2.2.1 k4).2 (by simp [hpp])
        subst hnn; subst hpp
        simp [f1, hB0, k0, k1, k2, k3, k4, hd]
      have hm := hmain (fun e => absurd e k3) (fun _ => ⟨hnn, hpp⟩) (.inr k4)
      have hm' : RT ↔ ∀ p ∈ ps, p.st.Rt := by
        rw [hm]
        subst hnn
        exact ⟨fun h => h.2, fun h => ⟨UpTo.zero _, h⟩⟩
      simp [f1, hB0, k0, k1, k2, k3, k4, hnn, hpp]
      exact hm'
    · have hd : ¬ RT := fun h => by have := (hrt.1 h).1; omega
      simp [f1, hB0, k0, k1, k2, k3, k4, hd]
  rintro fr H2 ⟨f1, hm, rfl⟩
  simp [f1, hB0]
  refine RangeK_of (H.length + 1) ps.length (fun i fr H6 => fr 71 = .d (.sl y 3 (ps.map T.enc)) ∧ (∀ p ∈ ps.take i, p.st.Rt) ∧ H6 = H2) (by omega) (by decide) (by simp [hBl]) (by simp) ?_ ?_ ?_
  · simp [hBc]
  · rintro i fr H6 hi f73 f72 ⟨f71, hJ, rfl⟩
    have hr := rowAt_map T.enc hi
    have hx := ih ps[i] (List.getElem_mem hi) (b5 _ (List.getElem_mem hi))
    have hmem := List.getElem_mem hi
    have tk : ps.take (i + 1) = ps.take i ++ [ps[i]] := List.take_succ_eq_append_getElem hi
    generalize ps[i] = p at hr hx hmem tk
    have hnR : ¬ p.st.Rt → ¬ RT := fun hn hR => hn (hm.1 hR p hmem)
    have hyR : p.st.Rt → ∀ q ∈ ps.take (i + 1), q.st.Rt := fun hp q hq => by
      rw [tk] at hq
      rcases List.mem_append.1 hq with hq | hq
      · exact hJ q hq
      · simp at hq; subst hq; exact hp
    generalize hRp : p.st.Rt = RP at hnR hyR
    unfold RightT at hx
    rw [hRp] at hx
    cases p with | mk k1 z1 ns1 y1 ps1 =>
    simp only [T.a_mk, T.enc_mk] at hr hx
    simp [f73, f71, hr, hBl]
    refine CallK_of' (hx _) ?_
    by_cases hRP : RP
    · simp [hRP]
      refine NextK_of (H.length + 1) (Nat.le_refl _) (by simp [hBl, f73, f72]) ?_
      simp [f71, hBcl]
      exact hyR hRP
    · simp [hRP]
      simp [RetK, hBcz, hBl, hnR hRP]
      omega
  · rintro fr H6 f73 f72 ⟨f71, hJ, rfl⟩
    rw [List.take_of_length_le (Nat.le_refl _)] at hJ
    have hd : RT := hm.2 hJ
    simp
    simp [RetK, hBz, hBl, hd]
end
end Go.Zam

namespace Go.Zam
open Go.RowKit (Below)
open Go.Proofs Go.Sort
set_option linter.all false
set_option maxRecDepth 100000
set_option maxHeartbeats 1000000

/-- rows of texts, as cells -/
def strRows (L : List (List UInt8)) : List (List A) := L.map fun x => [.d (.str x)]

theorem strRows_set (L : List (List UInt8)) (k : Nat) (x : List UInt8) : strRows (L.set k x) = (strRows L).set k [.d (.str x)] := by
  rw [strRows, List.map_set]; rfl

theorem below_ahead (w : World) (n : Nat) : Below w.heap.size w (Go.Sort.ahead w n) := ⟨rfl, rfl, rfl, Nat.le_refl _, fun _ _ => rfl⟩
theorem below_grow (w : World) (os : Array Obj) : Below w.heap.size w (grow w os) :=
  ⟨rfl, rfl, rfl, by simp [grow], fun k hk => by simp [grow, Array.getElem?_append_left hk]⟩

theorem HR.putRows {κ : K} {H : Hp} {w : World} (h : HR κ H w) {i b : Nat} {s : Option (TypeId × Nat)} {L0 d : List (List UInt8)} (hi : H[i]? = some (.arr 1 (strRows L0))) (hβ : κ.β i = .arr b 1 s) (hd : d.length = L0.length)
    (h0 : Holds Go.Proofs.encStr w b 0 L0.toArray) : ∀ k : Nat, k ≤ L0.length → HR κ (H.set i (.arr 1 (strRows (d.take k ++ L0.drop k)))) (putRow Go.Proofs.encStr w b 0 (d.take k ++ L0.drop k).toArray)
  | 0, _ => by
    have hH : H.set i (.arr 1 (strRows L0)) = H := by
      refine List.ext_getElem? fun j => ?_
      by_cases hj : i = j
      · subst hj; rw [List.getElem?_set_self (List.getElem?_eq_some_iff.1 hi).1, hi]
      · rw [List.getElem?_set_ne hj]
    rw [List.take_zero, List.drop_zero, List.nil_append, hH, putRow_self _ _ _ _ _ h0]
    exact h
  | k + 1, hk => by
    have ih := HR.putRows h hi hβ hd h0 k (by omega)
    have hil : i < H.length := (List.getElem?_eq_some_iff.1 hi).1
    have hx : d.take (k + 1) ++ L0.drop (k + 1) = (d.take k ++ L0.drop k).set k (d[k]'(by omega)) := by
      have e1 : L0.drop k = L0[k]'(by omega) :: L0.drop (k + 1) := List.drop_eq_getElem_cons (by omega)
      have e2 : d.take (k + 1) = d.take k ++ [d[k]'(by omega)] := List.take_succ_eq_append_getElem (by omega)
      have hm : k - (d.take k).length = 0 := by simp; omega
      rw [e2, List.set_append_right _ _ (by simp; omega), hm, e1, List.set_cons_zero, List.append_assoc]
      rfl
    have hlen : (d.take k ++ L0.drop k).length = L0.length := by simp; omega
    generalize d.take k ++ L0.drop k = X at ih hx hlen
    rw [hx]
    have hXk : X[k]? = some (X[k]'(by omega)) := List.getElem?_eq_getElem (by omega)
    have hrow : (strRows X)[k]? = some [.d (.str (X[k]'(by omega)))] := by rw [strRows, List.getElem?_map, hXk]; rfl
    have := ih.setArr (i := i) (k := k) (j := 0) (by rw [List.getElem?_set_self hil]) hβ hrow (by simp) (v := Go.Proofs.encStr (d[k]'(by omega))) (a := .d (.str (d[k]'(by omega)))) rfl (.d (DR.strOf _))
    rw [List.set_set] at this
    have e3 := putRow_set Go.Proofs.encStr w b 0 X.toArray k (d[k]'(by omega)) (by simp; omega)
    rw [Nat.zero_add] at e3
    rw [Nat.mul_one, Nat.add_zero, e3] at this
    rw [strRows_set]
    simpa using this

/-- what the library's contract says -/
def SortStr (P : Program) (f : FuncId) : Prop := ∀ (blk off cap : Nat) (ss : List (List UInt8)) (w : World), Holds Go.Proofs.encStr w blk off ss.toArray → blk < w.heap.size → ss.length < 4611686018427387904 →
  Calls P f #[.slice (some ⟨blk, off, none⟩) ss.length cap] w fun e w' => e = .returned (.tuple #[]) ∧ ∃ n os, w' = grow (putRow Go.Proofs.encStr (Go.Sort.ahead w n) blk off (ss.mergeSort fun x y => decide (x ≤ y)).toArray) os

theorem sortStr_acall {P : Program} {f : FuncId} (hS : SortStr P f) {L : List (List UInt8)} (hne : L ≠ []) (hl : L.length < 4611686018427387904) {H : Hp} {i : Nat} (hi : H[i]? = some (.arr 1 (strRows L))) :
    ACall P f [.msl i 0 L.length] H (fun r H' => r = .tup [] ∧ H' = H.set i (.arr 1 (strRows (L.mergeSort fun x y => decide (x ≤ y))))) := by
  intro κ w vs hr hvl hv
  match vs, hvl with
  | [v], _ =>
  have hv0 := hv 0 v _ rfl rfl
  have hpos : 0 < L.length := List.length_pos_iff.2 hne
  cases hv0 with
  | msl _ _ _ b sz o cap hb hcl ho hz =>
  obtain ⟨b', s', hβ', hsh, hc⟩ := hr.ob i _ hi
  obtain ⟨rfl, rfl⟩ : b = b' ∧ sz = 1 := by
    rcases hb with ⟨s, hb⟩ | hb
    · rw [hβ'] at hb; cases hb; exact ⟨rfl, rfl⟩
    · rw [hβ'] at hb; cases hb
  have ho' : o = 0 := by have := ho hpos; omega
  subst ho'
  have hH0 : ∀ n, Holds Go.Proofs.encStr (Go.Sort.ahead w n) b 0 L.toArray := fun n j hj => by
    have hj' : j < L.length := by simpa using hj
    have hrow : (strRows L)[j]? = some [.d (.str L[j])] := by rw [strRows, List.getElem?_map, List.getElem?_eq_getElem hj']; rfl
    obtain ⟨-, h2⟩ := hc j _ hrow
    obtain ⟨u, u1, u2, u3⟩ := h2 0 _ rfl
    have := u3.d_inv.str_inv
    subst this
    rw [Nat.mul_one, Nat.add_zero] at u1 u2
    rw [Nat.zero_add]
    refine ⟨?_, u2⟩
    rw [cell?_ahead, u1]
    simp [Go.Proofs.encStr, getElem!_pos, hj']
  have hblk := (hr.ex i b (by rw [hβ']; rfl)).2
  refine (hS b 0 cap L w (hH0 0) hblk hl).mono ?_
  rintro e w' ⟨rfl, n, os, rfl⟩
  have h1 : HR κ H (Go.Sort.ahead w n) := hr.later (below_ahead w n)
  have hml : (L.mergeSort fun x y => decide (x ≤ y)).length = L.length := List.length_mergeSort L
  have h2 := h1.putRows hi hβ' hml (hH0 n) L.length (Nat.le_refl _)
  rw [List.take_of_length_le (by omega), List.drop_of_length_le (Nat.le_refl _), List.append_nil] at h2
  have h3 := h2.later (below_grow _ os)
  exact ⟨_, κ, .tup [], _, rfl, K.le_refl κ, h3, .tup [] [] rfl (by simp), rfl, rfl⟩

end Go.Zam

namespace Go.Zam
open Go.RowKit (Below)
open Go.Proofs Go.Sort
set_option linter.all false
set_option maxRecDepth 100000
set_option maxHeartbeats 1000000

/-- a block that a call made, bound to a new object -/
theorem HR.adopt {κ : K} {H : Hp} {w w' : World} (h0 : HR κ H w) (hb : Below w.heap.size w w') {g : Nat} (hg : w.heap.size ≤ g ∧ g < w'.heap.size) (x : Bind) (y : Ob) (hx : x.block = some g) (hfl : y.flat = true)
    (hy : OR { κ with β := upd κ.β H.length x } w' H.length y) :
    κ.le { κ with β := upd κ.β H.length x } ∧ HR { κ with β := upd κ.β H.length x } (H ++ [y]) w' := by
  have h : HR κ H w' := h0.later hb
  have hn : κ.β H.length = .none := h.dom _ (Nat.le_refl _)
  have hle : κ.le { κ with β := upd κ.β H.length x } := K.le_upd hn x
  have hst : ∀ b p v, κ.σ b p = some v → b < w.heap.size := fun b p v hv => World.block_lt_of_cell? w ⟨b, p, none⟩ (h0.st b p v hv)
  refine ⟨hle, ?_⟩
  have hw0 : κ.w0.heap.size ≤ w.heap.size := h0.below.size
  refine ⟨h.below, fun b p v hv => h.st b p v hv, fun i z hz => ?_, fun i hi => ?_, fun i b hb' => ?_, fun i b p hp => ?_, fun i j b hi hj => ?_, fun i z hz => ?_⟩
  · by_cases hi : i < H.length
    · rw [List.getElem?_append_left hi] at hz
      have hbi : upd κ.β H.length x i = κ.β i := upd_ne _ _ (by omega)
      exact (h.ob i z hz).mono hle hbi fun b _ => rfl
    · have : i = H.length := by
        have := (List.getElem?_eq_some_iff.1 hz).1
        simp at this; omega
      subst this
      simp at hz
      subst hz
      exact hy
  · have h1 : H.length + 1 ≤ i := by simpa using hi
    show upd κ.β H.length x i = _
    rw [upd_ne _ _ (by omega)]; exact h.dom i (by omega)
  · by_cases hi : i = H.length
    · subst hi
      simp only [upd_same, hx, Option.some.injEq] at hb'
      subst hb'
      exact ⟨by show κ.w0.heap.size ≤ g; omega, hg.2⟩
    · simp only [upd_ne _ _ hi] at hb'
      exact h.ex i b hb'
  · by_cases hi : i = H.length
    · subst hi
      have hb' := Bind.block_of_owns hp
      simp only [upd_same, hx, Option.some.injEq] at hb'
      show κ.σ b p = none
      cases hs : κ.σ b p with
      | none => rfl
      | some v => have := hst b p v hs; omega
    · simp only [upd_ne _ _ hi] at hp
      exact h.exσ i b p hp
  · have hold : ∀ k, k ≠ H.length → ∀ c, (κ.β k).block = some c → c < w.heap.size := fun k _ c hc => (h0.ex k c hc).2
    by_cases h1 : i = H.length <;> by_cases h2 : j = H.length
    · omega
    · subst h1
      simp only [upd_same, hx, Option.some.injEq, upd_ne _ _ h2] at hi hj
      have := hold j h2 b hj; omega
    · subst h2
      simp only [upd_same, hx, Option.some.injEq, upd_ne _ _ h1] at hi hj
      have := hold i h1 b hi; omega
    · simp only [upd_ne _ _ h1, upd_ne _ _ h2] at hi hj
      exact h.exd i j b hi hj
  · by_cases hi : i < H.length
    · rw [List.getElem?_append_left hi] at hz; exact h.fl i z hz
    · have : i = H.length := by
        have := (List.getElem?_eq_some_iff.1 hz).1
        simp at this; omega
      subst this
      simp at hz
      subst hz
      exact hfl

/-- a row of texts that a call made -/
theorem HR.adoptStrs {κ : K} {H : Hp} {w w' : World} (h : HR κ H w) (hb : Below w.heap.size w w') {e : TypeId} {v : Value} {L : List (List UInt8)} (hne : L ≠ []) (hr : w'.ownsRow w.heap.size e 1 v L.length (L.map Go.Proofs.encStr)) :
    ∃ κ', κ.le κ' ∧ HR κ' (H ++ [.arr 1 (strRows L)]) w' ∧ VR κ' v (.msl H.length 0 L.length) := by
  have hpos : 0 < L.length := List.length_pos_iff.2 hne
  rcases hr.2 with ⟨-, h0⟩ | ⟨g, cap, cur, rfl, hbase, hgb, r1, r2, r3, r4⟩
  · omega
  have hlt : g < w'.heap.size := (Array.getElem?_eq_some_iff.1 hgb).1
  have hcell : ∀ k, k < L.length → cur[k]? = some (Go.Proofs.encStr (L[k]!)) := fun k hk => by
    have h1 : (cur.toList.take (L.length * 1))[k]? = (L.map Go.Proofs.encStr)[k]? := by rw [r4]
    rw [List.getElem?_take_of_lt (by omega), List.getElem?_map, List.getElem?_eq_getElem hk] at h1
    simpa [hk, getElem!_pos] using h1
  have := h.adopt hb ⟨hbase, hlt⟩ (.arr g 1 none) (.arr 1 (strRows L)) rfl (by simp [Ob.flat, strRows, A.flat]) (by
    refine ⟨g, none, upd_same _ _ _, fun _ _ e => (by cases e), fun k r hk => ?_⟩
    have hkl : k < L.length := by have := (List.getElem?_eq_some_iff.1 hk).1; simpa [strRows] using this
    rw [strRows, List.getElem?_map, List.getElem?_eq_getElem hkl] at hk
    cases hk
    refine ⟨rfl, fun j a ha => ?_⟩
    cases j with
    | succ j => simp at ha
    | zero =>
      simp at ha
      subst ha
      have hc := hcell k hkl
      refine ⟨Go.Proofs.encStr L[k], ?_, ?_, .d (DR.strOf _)⟩
      · rw [Nat.mul_one, Nat.add_zero]
        simp [World.cell?, hgb]
        simpa [hkl, getElem!_pos] using hc
      · simp [World.frozen?, hgb])
  exact ⟨_, this.1, this.2, (.msl _ _ _ _ _ _ _ (.inl ⟨_, upd_same _ _ _⟩) r1 (fun _ => by simp) (fun h0 => by omega))⟩

/-- what the library's AppendSeq yields at nil and an iterator over a row of texts: what is asked of the world -/
def CollectStr (P : Program) (f g : FuncId) : Prop := ∀ (w : World) (Bs : Nat) (sv : Value) (L : List (List UInt8)), w.cell? ⟨Bs, 0, none⟩ = some sv → L.length ≤ 1048576 →
  ((sv = .slice none 0 0 ∧ L = []) ∨ ∃ ad cap, sv = .slice (some ad) L.length cap ∧ (L ≠ [] → ad.spot = none ∧ ∀ (j : Nat) (x : List UInt8), L[j]? = some x → w.cell? ⟨ad.block, ad.off + j, none⟩ = some (Go.Proofs.encStr x))) →
  Calls P f #[.slice none 0 0, .func (.func g) #[] #[.pointer (some ⟨Bs, 0, none⟩)]] w fun e w' => ∃ (v : Value) (t : TypeId), e = .returned v ∧ w'.ownsRow w.heap.size t 1 v L.length (L.map Go.Proofs.encStr) ∧ (v = .slice none 0 0 ↔ L = []) ∧ Below w.heap.size w w'

theorem collect_acall {P : Program} {f g : FuncId} (hC : CollectStr P f g) {L : List (List UInt8)} (hl : L.length ≤ 1048576) {H : Hp} {i bt : Nat} {z : Bool} (hi : H[i]? = some (.box bt [.d (.sl z 1 (L.map fun x => [.str x]))])) :
    ACall P f [.d (.sl true 1 []), .fn (.func g) [] [.ptr i 0]] H (fun r H' => (L = [] ∧ r = .d (.sl true 1 []) ∧ H' = H) ∨ (L ≠ [] ∧ r = .msl H.length 0 L.length ∧ H' = H ++ [.arr 1 (strRows L)])) := by
  intro κ w vs hr hvl hv
  match vs, hvl with
  | [v1, v], _ =>
  have hv1 := (hv 0 v1 _ rfl rfl).d_inv
  have hn1 : v1 = .slice none 0 0 := by
    rcases hv1.sl_inv with ⟨h1, -⟩ | ⟨_, _, _, h1, -⟩ | ⟨_, _, _, _, _, h1, -⟩
    · exact h1
    · cases h1
    · exact absurd rfl (h1 rfl)
  subst hn1
  have hv0 := hv 1 v _ rfl rfl
  cases hv0 with
  | fn _ vs1 vs2 _ _ hl1 hl2 h1 h2 =>
  match vs1, hl1, vs2, hl2 with
  | [], _, [u], _ =>
  have hu := h2 0 u _ rfl rfl
  cases hu with
  | ptr _ _ b hb =>
  obtain ⟨b', hb', hsh, hc⟩ := hr.ob i _ hi
  have hbb : b' = b := by rw [hb] at hb'; cases hb'; rfl
  subst hbb
  obtain ⟨sv, s1, s2, s3⟩ := hc 0 _ rfl
  have hd := s3.d_inv
  refine (hC w b' sv L s1 hl ?_).mono ?_
  · rcases hd.sl_inv with ⟨h0, -, e⟩ | ⟨a, c, h0, -, e⟩ | ⟨b2, o, cap, fv, h0, hz, hcap, hrow, hcs, hds⟩
    · exact .inl ⟨h0, by simpa using e⟩
    · have hLe : L = [] := by simpa using e
      subst hLe
      exact .inr ⟨a, c, h0, fun h => absurd rfl h⟩
    · refine .inr ⟨⟨b2, o, none⟩, cap, by simpa using h0, fun _ => ⟨rfl, fun j x hx => ?_⟩⟩
      have hrw : (L.map fun x => [D.str x])[j]? = some [.str x] := by simp [hx]
      have e1 := hr.st _ _ _ (hcs j 0 _ _ hrw rfl)
      have e2 := (hds j 0 _ _ hrw rfl).str_inv
      rw [e2] at e1
      simpa using e1
  rintro e w' ⟨v, t, rfl, hrow, hnil, hB⟩
  by_cases hLe : L = []
  · have hvn := hnil.2 hLe
    subst hvn
    exact ⟨_, κ, _, H, rfl, K.le_refl κ, hr.later hB, .d (.nilsl 1), .inl ⟨hLe, rfl, rfl⟩⟩
  · obtain ⟨κ', k1, k2, k3⟩ := hr.adoptStrs hB hLe hrow
    exact ⟨_, κ', _, _, rfl, k1, k2, k3, .inr ⟨hLe, rfl, rfl⟩⟩

end Go.Zam

namespace Go.Zam
open Go.RowKit (Below)
open Go.Proofs Go.Sort
set_option linter.all false
set_option maxRecDepth 100000
set_option maxHeartbeats 1000000

/-- what the library's contract of Compact says -/
def CompactStr (P : Program) (f : FuncId) : Prop :=
  (∀ (blk off cap : Nat) (ss : List (List UInt8)) (w : World), Holds Go.Proofs.encStr w blk off ss.toArray → ss.length ≤ 9223372036854775807 → ss.length ≤ cap →
    Calls P f #[.slice (some ⟨blk, off, none⟩) ss.length cap] w fun e w' => e = .returned (.slice (some ⟨blk, off, none⟩) (Lib.compact ss).length cap) ∧ ∃ q, w' = putRow Go.Proofs.encStr (Go.Sort.ahead w q) blk off (Lib.compact ss ++ List.replicate (ss.length - (Lib.compact ss).length) []).toArray) ∧
  ∀ (a : Option Addr) (cap : Nat) (w : World), Calls P f #[.slice a 0 cap] w fun e w' => e = .returned (.slice a 0 cap) ∧ w' = w

theorem compact_len_le (L : List (List UInt8)) : (Lib.compact L).length ≤ L.length := by
  unfold Lib.compact Lib.compactUpTo
  rw [List.length_map]
  exact Nat.le_trans (List.length_filter_le _ _) (by simp)
theorem compact_pos {L : List (List UInt8)} (h : L ≠ []) : 0 < (Lib.compact L).length := by
  have hpos := List.length_pos_iff.2 h
  unfold Lib.compact Lib.compactUpTo
  rw [List.length_map, List.length_pos_iff]
  intro e
  have : (0 : Nat) ∈ (List.range L.length).filter (Lib.keeps L.toArray) := List.mem_filter.2 ⟨List.mem_range.2 hpos, by simp [Lib.keeps]⟩
  rw [e] at this; cases this

theorem compact_acall {P : Program} {f : FuncId} (hC : CompactStr P f) {L : List (List UInt8)} (hne : L ≠ []) (hl : L.length ≤ 1048576) {H : Hp} {i : Nat} (hi : H[i]? = some (.arr 1 (strRows L))) :
    ACall P f [.msl i 0 L.length] H (fun r H' => r = .msl i 0 (Lib.compact L).length ∧ ∃ rows, H' = H.set i (.arr 1 rows)) := by
  intro κ w vs hr hvl hv
  match vs, hvl with
  | [v], _ =>
  have hv0 := hv 0 v _ rfl rfl
  have hpos : 0 < L.length := List.length_pos_iff.2 hne
  cases hv0 with
  | msl _ _ _ b sz o cap hb hcl ho hz =>
  obtain ⟨b', s', hβ', hsh, hc⟩ := hr.ob i _ hi
  obtain ⟨rfl, rfl⟩ : b = b' ∧ sz = 1 := by
    rcases hb with ⟨s, hb⟩ | hb
    · rw [hβ'] at hb; cases hb; exact ⟨rfl, rfl⟩
    · rw [hβ'] at hb; cases hb
  have ho' : o = 0 := by have := ho hpos; omega
  subst ho'
  have hH0 : ∀ n, Holds Go.Proofs.encStr (Go.Sort.ahead w n) b 0 L.toArray := fun n j hj => by
    have hj' : j < L.length := by simpa using hj
    have hrow : (strRows L)[j]? = some [.d (.str L[j])] := by rw [strRows, List.getElem?_map, List.getElem?_eq_getElem hj']; rfl
    obtain ⟨-, h2⟩ := hc j _ hrow
    obtain ⟨u, u1, u2, u3⟩ := h2 0 _ rfl
    have := u3.d_inv.str_inv
    subst this
    rw [Nat.mul_one, Nat.add_zero] at u1 u2
    rw [Nat.zero_add]
    refine ⟨?_, u2⟩
    rw [cell?_ahead, u1]
    simp [Go.Proofs.encStr, getElem!_pos, hj']
  refine (hC.1 b 0 cap L w (hH0 0) (by omega) hcl).mono ?_
  rintro e w' ⟨rfl, n, rfl⟩
  have h1 : HR κ H (Go.Sort.ahead w n) := hr.later (below_ahead w n)
  have hle := compact_len_le L
  have hml : (Lib.compact L ++ List.replicate (L.length - (Lib.compact L).length) ([] : List UInt8)).length = L.length := by simp; omega
  have h2 := h1.putRows hi hβ' hml (hH0 n) L.length (Nat.le_refl _)
  rw [List.take_of_length_le (by omega), List.drop_of_length_le (Nat.le_refl _), List.append_nil] at h2
  have hp := compact_pos hne
  exact ⟨_, κ, _, _, rfl, K.le_refl κ, h2, .msl _ _ _ b 1 0 cap (.inl ⟨_, hβ'⟩) (by omega) (fun _ => by omega) (fun h0 => by omega), rfl, _, rfl⟩

theorem compact0_acall {P : Program} {f : FuncId} (hC : CompactStr P f) {H : Hp} : ACall P f [.d (.sl true 1 [])] H (fun r H' => r = .d (.sl true 1 []) ∧ H' = H) := by
  intro κ w vs hr hvl hv
  match vs, hvl with
  | [v], _ =>
  have hd := (hv 0 v _ rfl rfl).d_inv
  have hn1 : v = .slice none 0 0 := by
    rcases hd.sl_inv with ⟨h1, -⟩ | ⟨_, _, _, h1, -⟩ | ⟨_, _, _, _, _, h1, -⟩
    · exact h1
    · cases h1
    · exact absurd rfl (h1 rfl)
  subst hn1
  refine (hC.2 none 0 w).mono ?_
  rintro e w' ⟨rfl, rfl⟩
  exact ⟨_, κ, _, _, rfl, K.le_refl κ, hr, .d (.nilsl 1), rfl, rfl⟩

theorem sort0_acall {P : Program} {f : FuncId} (hC : ∀ (a : Option Addr) (cap : Nat) (w : World), Calls P f #[.slice a 0 cap] w fun e w' => e = .returned (.tuple #[]) ∧ w' = w) {H : Hp} : ACall P f [.d (.sl true 1 [])] H (fun r H' => r = .tup [] ∧ H' = H) := by
  intro κ w vs hr hvl hv
  match vs, hvl with
  | [v], _ =>
  have hd := (hv 0 v _ rfl rfl).d_inv
  have hn1 : v = .slice none 0 0 := by
    rcases hd.sl_inv with ⟨h1, -⟩ | ⟨_, _, _, h1, -⟩ | ⟨_, _, _, _, _, h1, -⟩
    · exact h1
    · cases h1
    · exact absurd rfl (h1 rfl)
  subst hn1
  refine (hC none 0 w).mono ?_
  rintro e w' ⟨rfl, rfl⟩
  exact ⟨_, κ, _, _, rfl, K.le_refl κ, hr, .tup [] [] rfl (by simp), rfl, rfl⟩

/-- texts, sorted -/
def msort (L : List Str') : List Str' := L.mergeSort fun x y => decide (x ≤ y)

section
variable {P : Program}

def irSlCollect (c1 : Nat) : IFn :=
 { nt := 5, res := [.t 2], body := (
  .seq (.ops [
    ⟨(some 2), none, .mv (.c (.sl true 1 []))⟩] false)
  (.seq (.ops [
    ⟨(some 3), none, .mv (.t 0)⟩,
    ⟨(some 4), none, .call c1 [(.c (.sl true 1 [])), (.t 3)]⟩,
    ⟨(some 2), none, .mv (.t 4)⟩] false)
  (.ret))) }

theorem Has.slValues {f g : FuncId} {t : TypeId} (h : Has P f (irSlValues g t)) (z : Bool) (L : List Str') (H : Hp) :
    ACall P f [.d (.sl z 1 (L.map encStr))] H (fun r H' => r = .fn (.func g) [] [.ptr H.length 0] ∧ H' = H ++ [.box t [.d (.sl z 1 (L.map encStr))]]) := by
  obtain ⟨fn, hf, hcf⟩ := h
  refine acall_fink 1 hf hcf (by simp [irSlValues]) fun hcl _ => ?_
  simp [irSlValues]
  simp [RetK, cut_appk hcl, A.lo]

theorem Has.slCollect {f fa g : FuncId} (h : Has P f (irSlCollect fa)) (hC : CollectStr P fa g) {L : List Str'} (hl : L.length ≤ 1048576) {H : Hp} {i bt : Nat} {z : Bool} (hi : H[i]? = some (.box bt [.d (.sl z 1 (L.map encStr))])) :
    ACall P f [.fn (.func g) [] [.ptr i 0]] H (fun r H' => (L = [] ∧ r = .d (.sl true 1 []) ∧ H' = H) ∨ (L ≠ [] ∧ r = .msl H.length 0 L.length ∧ H' = H ++ [.arr 1 (strRows L)])) := by
  obtain ⟨fn, hf, hcf⟩ := h
  by_cases hL : L = []
  · refine acall_fin hf hcf (by simp [irSlCollect]) fun hcl _ => ?_
    simp [irSlCollect]
    refine CallK_of (collect_acall hC hl hi) ?_
    rintro x H' (⟨-, rfl, rfl⟩ | ⟨hne, -⟩)
    · simp
      simp [RetK, cut_self hcl, hL]
    · exact absurd hL hne
  · refine acall_fink 1 hf hcf (by simp [irSlCollect]) fun hcl _ => ?_
    simp [irSlCollect]
    refine CallK_of (collect_acall hC hl hi) ?_
    rintro x H' (⟨h0, -⟩ | ⟨hne, rfl, rfl⟩)
    · exact absurd h0 hL
    · simp
      simp [RetK, cut_appk hcl, hL, strRows]

theorem Has.slSorted {f fc fs fa g : FuncId} (h : Has P f (irSlSorted fc fs)) (hc : Has P fc (irSlCollect fa)) (hC : CollectStr P fa g) (hS : SortStr P fs)
    (hS0 : ∀ (a : Option Addr) (cap : Nat) (w : World), Calls P fs #[.slice a 0 cap] w fun e w' => e = .returned (.tuple #[]) ∧ w' = w) {L : List Str'} (hl : L.length ≤ 1048576) {H : Hp} {i bt : Nat} {z : Bool} (hi : H[i]? = some (.box bt [.d (.sl z 1 (L.map encStr))])) :
    ACall P f [.fn (.func g) [] [.ptr i 0]] H (fun r H' => r = .d (.sl L.isEmpty 1 ((msort L).map encStr)) ∧ H' = H) := by
  obtain ⟨fn, hf, hcf⟩ := h
  by_cases hL : L = []
  · refine acall_fin hf hcf (by simp [irSlSorted]) fun hcl _ => ?_
    simp [irSlSorted]
    refine CallK_of (hc.slCollect hC hl hi) ?_
    rintro x H' (⟨-, rfl, rfl⟩ | ⟨hne, -⟩)
    · simp
      refine CallK_of' (sort0_acall hS0) ?_
      simp
      simp [RetK, cut_self hcl, hL, msort]
    · exact absurd hL hne
  · have hlen : (msort L).length = L.length := List.length_mergeSort L
    have he : L.isEmpty = false := by simpa using hL
    rw [he]
    refine ACall.freeze (k := 0) (X := [.arr 1 (strRows (msort L))]) (by simp [strRows, encStr]) ?_
    refine acall_fink 1 hf hcf (by simp [irSlSorted]) fun hcl _ => ?_
    simp [irSlSorted]
    refine CallK_of (hc.slCollect hC hl hi) ?_
    rintro x H' (⟨h0, -⟩ | ⟨hne, rfl, rfl⟩)
    · exact absurd h0 hL
    · simp
      refine CallK_of' (sortStr_acall hS hL (by omega) (H := H ++ [.arr 1 (strRows L)]) (i := H.length) (by simp)) ?_
      simp
      simp [RetK, cut_appk hcl, strRows, hlen, msort]

theorem Has.idxAt {f : FuncId} (h : Has P f irSlIdx) (z : Bool) (ns : List Str') (x : Str') (hx : x ∈ ns) (hn : ns.length ≤ 1048576) (H : Hp) : ACall P f [.d (.sl z 1 (ns.map encStr)), .d (.str x)] H (fun r H' => r = .d (.int .i64 (ns.idxOf x : Nat)) ∧ H' = H) := by
  obtain ⟨fn, hf, hcf⟩ := h
  refine acall_fin hf hcf (by simp [irSlIdx]) fun hcl _ => ?_
  simp [irSlIdx]
  refine RangeK_of H.length ns.length (fun i fr H' => fr 0 = .d (.sl z 1 (ns.map encStr)) ∧ fr 1 = .d (.str x) ∧ x ∉ ns.take i ∧ H' = H) (by omega) (by decide) (by simp) (by simp) ?_ ?_ ?_
  · simp [cut_self hcl]
  · rintro i fr H' hi f8 f7 ⟨f0, f1, hni, rfl⟩
    have hr := rowAt_map encStr hi
    have hd : ns.drop i = ns[i] :: ns.drop (i + 1) := List.drop_eq_getElem_cons hi
    have ht : ns.take (i + 1) = ns.take i ++ [ns[i]] := List.take_succ_eq_append_getElem hi
    have hsplit : ns = ns.take i ++ ns[i] :: ns.drop (i + 1) := by rw [← hd, List.take_append_drop]
    generalize ns[i] = y at hr hd ht hsplit
    simp only [encStr] at hr
    by_cases hxy : x = y
    · subst hxy
      have hix : ns.idxOf x = i := by
        have e1 : (ns.take i ++ x :: ns.drop (i + 1)).idxOf x = i := by
          rw [List.idxOf_append, if_neg hni]
          simp; omega
        rw [← hsplit] at e1; exact e1
      simp [f8, f0, f1, encStr, hr]
      simp [RetK, cut_self hcl, hix]
    · simp [f8, f0, f1, encStr, hr, hxy]
      refine NextK_of H'.length (Nat.le_refl _) (by simp [f8, f7]) ?_
      have : x ∉ ns.take (i + 1) := by rw [ht]; simp [hni, hxy]
      simp [f0, f1, cut_self hcl, this]
  · rintro fr H' f8 f7 ⟨f0, f1, hni, rfl⟩
    rw [List.take_of_length_le (Nat.le_refl _)] at hni
    exact absurd hx hni

end
end Go.Zam

namespace Go.Zam
open Go.Proofs
set_option linter.all false
set_option maxRecDepth 100000
set_option maxHeartbeats 1000000

theorem le_iff {x y : Str'} : x ≤ y ↔ Op.bytesLess y x = false := by
  rw [bytesLess_eq, decide_eq_false_iff_not]
  exact Iff.rfl
theorem le_cmp {x y : Str'} : x ≤ y ↔ cmpStr x y ≤ 0 := by
  rw [le_iff]
  constructor
  · intro h
    refine Classical.byContradiction fun hn => ?_
    have := cmpStr_gt.1 (show 0 < cmpStr x y by omega)
    rw [h] at this; cases this
  · intro h
    refine Bool.eq_false_iff.2 fun hn => ?_
    have := cmpStr_gt.2 hn
    omega

theorem msort_sorted (L : List Str') : (msort L).Pairwise fun x y => cmpStr x y ≤ 0 := by
  have := List.pairwise_mergeSort (le := fun x y : Str' => decide (x ≤ y)) (fun a b c h1 h2 => by
      simp only [decide_eq_true_eq] at h1 h2 ⊢
      rw [le_cmp] at h1 h2 ⊢
      exact cmpStr_cmp.trans _ _ _ h1 h2) (fun a b => by
      rw [Bool.or_eq_true, decide_eq_true_eq, decide_eq_true_eq, le_cmp, le_cmp]
      exact cmpStr_cmp.le_total a b) L
  exact this.imp fun h => le_cmp.1 (of_decide_eq_true h)
theorem msort_perm (L : List Str') : (msort L).Perm L := List.mergeSort_perm L _
theorem msort_len (L : List Str') : (msort L).length = L.length := List.length_mergeSort L

theorem sorted_eq {l l' : List Str'} (h : l.Pairwise fun x y => cmpStr x y ≤ 0) (h' : l'.Pairwise fun x y => cmpStr x y ≤ 0) (hp : l.Perm l') : l = l' :=
  List.Perm.eq_of_pairwise (fun a b _ _ h1 h2 => cmpStr_zero.1 (cmpStr_cmp.le_antisymm h1 h2)) h h' hp

theorem msort_zip {ns : List Str'} {ps : List T} (h : ns.length = ps.length) : msort ns = (ssort cP (ns.zip ps)).map Prod.fst := by
  refine sorted_eq (msort_sorted ns) ?_ ?_
  · exact List.pairwise_map.2 (ssort_spec cP_cmp (ns.zip ps)).1
  · have h1 : ((ns.zip ps).map Prod.fst).Perm ((ssort cP (ns.zip ps)).map Prod.fst) := (ssort_perm cP_cmp (ns.zip ps)).map _
    rw [List.map_fst_zip (by omega)] at h1
    exact (msort_perm ns).trans h1

theorem filter_len {α : Type} {p : α → Bool} : ∀ {l : List α}, (l.filter p).length = l.length ↔ ∀ x ∈ l, p x = true
  | [] => by simp
  | a :: l => by
    rw [List.filter_cons]
    split
    · rename_i h
      rw [List.length_cons, List.length_cons, Nat.add_right_cancel_iff, filter_len (l := l)]
      simp [h]
    · rename_i h
      constructor
      · intro e
        have := List.length_filter_le p l
        simp only [List.length_cons] at e
        omega
      · intro hh; exact absurd (hh a (by simp)) h

theorem compact_dup (S : List Lt) : (Lib.compact (S.map Prod.fst)).length = S.length ↔ ¬ Dup S := by
  have h1 : (Lib.compact (S.map Prod.fst)).length = ((List.range (S.map Prod.fst).length).filter (Lib.keeps (S.map Prod.fst).toArray)).length := by
    unfold Lib.compact Lib.compactUpTo
    rw [List.length_map]
  rw [h1]
  have h2 : S.length = (List.range (S.map Prod.fst).length).length := by simp
  rw [h2, filter_len]
  have hget : ∀ (j : Nat) (a : Lt), S[j]? = some a → (S.map Prod.fst).toArray[j]! = a.1 := fun j a ha => by
    obtain ⟨hj, e⟩ := List.getElem?_eq_some_iff.1 ha
    rw [getElem!_pos _ j (by simpa using hj)]
    simp [e]
  constructor
  · rintro h ⟨j, a, b, ha, hb, e⟩
    have hj : j + 1 < S.length := (List.getElem?_eq_some_iff.1 hb).1
    have := h (j + 1) (List.mem_range.2 (by simpa using hj))
    simp only [Lib.keeps, decide_eq_true_eq] at this
    rcases this with h0 | h0
    · omega
    · rw [hget _ _ hb, Nat.add_sub_cancel, hget _ _ ha] at h0
      exact h0 e.symm
  · intro h j hj
    have hj' : j < S.length := by simpa using List.mem_range.1 hj
    simp only [Lib.keeps, decide_eq_true_eq]
    by_cases h0 : j = 0
    · exact .inl h0
    · refine .inr fun e => h ⟨j - 1, S[j - 1]'(by omega), S[j], List.getElem?_eq_getElem _, ?_, ?_⟩
      · rw [show j - 1 + 1 = j by omega]; exact List.getElem?_eq_getElem _
      · rw [hget _ _ (List.getElem?_eq_getElem hj'), hget _ _ (List.getElem?_eq_getElem (by omega))] at e
        exact e.symm

/-- the part of a label that stands once -/
theorem idx_part {ns : List Str'} {ps : List T} (hl : ns.length = ps.length) (hd : ¬ Dup (ssort cP (ns.zip ps))) {j : Nat} {x : Lt} (hx : (ssort cP (ns.zip ps))[j]? = some x) : x.1 ∈ ns ∧ ps[ns.idxOf x.1]? = some x.2 := by
  have hm : x ∈ ns.zip ps := (ssort_perm cP_cmp (ns.zip ps)).mem_iff.2 (List.mem_of_getElem? hx)
  have hnd : ((ns.zip ps).map Prod.fst).Nodup := Classical.byContradiction fun h => hd ((dup_iff _).2 h)
  rw [List.map_fst_zip (by omega)] at hnd
  obtain ⟨i, hi⟩ := List.getElem?_of_mem hm
  have hi' := List.getElem?_zip_eq_some.1 hi
  obtain ⟨h1, h2⟩ := hi'
  have hmem := List.mem_of_getElem? h1
  have hlt := List.idxOf_lt_length_iff.2 hmem
  have hget : ns[ns.idxOf x.1]? = some x.1 := by rw [List.getElem?_eq_getElem hlt]; simp
  have : ns.idxOf x.1 = i := by
    obtain ⟨a1, b1⟩ := List.getElem?_eq_some_iff.1 hget
    obtain ⟨a2, b2⟩ := List.getElem?_eq_some_iff.1 h1
    rcases Nat.lt_trichotomy (ns.idxOf x.1) i with h | h | h
    · exact absurd (b1.trans b2.symm) (List.pairwise_iff_getElem.1 hnd _ _ a1 a2 h)
    · exact h
    · exact absurd (b2.trans b1.symm) (List.pairwise_iff_getElem.1 hnd _ _ a2 a1 h)
  rw [this]
  exact ⟨hmem, h2⟩

/-! flags that don't matter -/
theorem DR.flag {σ : St} {v : Value} {z z' : Bool} {sz : Nat} {rows : List (List D)} (h : DR σ v (.sl z sz rows)) (hz : rows = [] → z = z') : DR σ v (.sl z' sz rows) := by
  by_cases hr : rows = []
  · rw [← hz hr]; exact h
  · rcases h.sl_inv with ⟨-, -, e⟩ | ⟨_, _, -, -, e⟩ | ⟨b, o, cap, f, rfl, -, hcap, hrow, hc, hd⟩
    · exact absurd e hr
    · exact absurd e hr
    · exact .sl z' sz rows b o cap f (fun _ => hr) hcap hrow hc hd

theorem nrm_T {k : Int} {z z' : Bool} {ns : List Str'} {y y' : Bool} {ps : List T} (hz : ns = [] → z = z') (hy : ps = [] → y = y') : Nrm (T.mk k z ns y ps).a (T.mk k z' ns y' ps).a := by
  intro κ v h
  rw [T.a_mk] at h ⊢
  cases h with
  | agg vs _ hl hh =>
    refine .agg vs _ (by simpa using hl) fun i v a hv ha => ?_
    match i with
    | 0 => exact hh 0 v _ hv ha
    | 1 =>
      simp at ha
      subst ha
      have := hh 1 v _ hv rfl
      exact .d (this.d_inv.flag fun e => hz (by simpa using e))
    | 2 =>
      simp at ha
      subst ha
      have := hh 2 v _ hv rfl
      exact .d (this.d_inv.flag fun e => hy (by simpa using e))
    | i + 3 => simp at ha

theorem nrm_tup {a a' b : A} (h : Nrm a a') : Nrm (.tup [a, b]) (.tup [a', b]) := by
  intro κ v hv
  cases hv with
  | tup vs _ hl hh =>
    refine .tup vs _ (by simpa using hl) fun i v c hv hc => ?_
    match i with
    | 0 =>
      simp at hc
      subst hc
      exact h κ v (hh 0 v _ hv rfl)
    | 1 => exact hh 1 v _ hv hc
    | i + 2 => simp at hc

end Go.Zam

namespace Go.Zam
set_option linter.all false
set_option maxRecDepth 100000
set_option maxHeartbeats 2000000
open Classical

/-- what is asked of a function that makes records -/
def RecT (P : Program) (f : FuncId) : Prop := ∀ (z y : Bool) (ns : List Str') (ps : List T), ns.length ≤ 1048576 → ps.length ≤ 1048576 → ∀ H,
  ACall P f [.d (.sl z 1 (ns.map encStr)), .d (.sl y 3 (ps.map T.enc))] H (fun r H' => r = .tup [(recT ns ps).1.a, .d (.int .i64 (recT ns ps).2)] ∧ H' = H)

section
variable {P : Program}

theorem Has.tyRecord {f fv fs fc fk fi fa fo fso g : FuncId} {t bt : TypeId} (h : HasT P [28] f (irTyRecord fv fs fc fk fi bt)) (hv : Has P fv (irSlValues g t))
    (hs : ∀ {L : List Str'}, L.length ≤ 1048576 → ∀ {H : Hp} {i bt : Nat} {z : Bool}, H[i]? = some (.box bt [.d (.sl z 1 (L.map encStr))]) → ACall P fs [.fn (.func g) [] [.ptr i 0]] H (fun r H' => r = .d (.sl L.isEmpty 1 ((msort L).map encStr)) ∧ H' = H))
    (hc : HasT P [1000005] fc (irCloneM 1 16 fo)) (hk : CompactStr P fk) (hi : Has P fi irSlIdx) : RecT P f := by
  intro z y ns ps h1 h2 H
  obtain ⟨fn, hf, hcf⟩ := h
  obtain ⟨fnc, hcf1, hcf2⟩ := hc
  by_cases hl : ns.length = ps.length
  case neg =>
    have hl' : ¬ (ns.length : Int) = ps.length := by omega
    refine acall_fin hf hcf (by simp [irTyRecord]) fun hcl _ => ?_
    simp [irTyRecord, hl, hl']
    simp [RetK, cut_app hcl, recT, hl, T.nil, T.a_mk]
  by_cases hn : ns = []
  · subst hn
    have hp : ps = [] := List.eq_nil_of_length_eq_zero (by simpa using hl.symm)
    subst hp
    have hnd : ¬ Dup ([] : List Lt) := by rintro ⟨j, a, b, h, -⟩; simp at h
    refine acall_fin hf hcf (by simp [irTyRecord]) fun hcl _ => ?_
    simp [irTyRecord]
    refine CallK_of' (hv.slValues z [] _) ?_
    simp
    refine CallK_of' (hs (L := []) (by simp) (bt := t) (z := z) (by simp)) ?_
    simp [msort]
    refine CallK_of' (clone0_acall hcf1 hcf2) ?_
    simp
    refine CallK_of' (compact0_acall hk) ?_
    simp
    refine RangeK_of (H.length + 4) 0 (fun i fr H' => fr 4 = .ptr H.length 0 ∧ fr 7 = .ptr (H.length + 3) 0 ∧ H' = H ++ [.box bt [.d (.int .i64 0), .d (.sl true 1 []), .d (.sl true 3 [])], .box t [.d (.sl z 1 [])], .tok 0 3 bt, .box bt [.d (.int .i64 3), .d (.sl true 1 []), .osl true 3 [] (H.length + 2)]]) (by omega) (by decide) (by simp) (by simp) ?_ ?_ ?_
    · simp [cut_appk hcl]
    · rintro i fr H' hi; omega
    · rintro fr H' f31 f30 ⟨f4, f7, rfl⟩
      simp [f4, f7]
      simp [RetK, cut_app hcl, recT, ssort, hnd, T.new, T.a_mk, f4]
  -- some labels
  have hpos := List.length_pos_iff.2 hn
  have he : ns.isEmpty = false := by simpa using hn
  have hS := msort_zip hl
  have hSl : (ssort cP (ns.zip ps)).length = ns.length := by rw [ssort_length cP_cmp]; simp; omega
  have hcd := compact_dup (ssort cP (ns.zip ps))
  have hix := fun (hd : ¬ Dup (ssort cP (ns.zip ps))) (j : Nat) (x : Lt) (hx : (ssort cP (ns.zip ps))[j]? = some x) => idx_part hl hd hx
  have hrec : recT ns ps = if Dup (ssort cP (ns.zip ps)) then (T.nil, 40) else (.new 3 ((ssort cP (ns.zip ps)).map Prod.fst) ((ssort cP (ns.zip ps)).map Prod.snd), 0) := by rw [recT, if_pos hl]
  generalize ssort cP (ns.zip ps) = S at hS hSl hcd hix hrec
  rw [hSl] at hcd
  rw [hrec]
  have hml : (msort ns).length = ns.length := msort_len ns
  have hmne : msort ns ≠ [] := fun e => by rw [e] at hml; simp at hml; omega
  refine acall_norm ?_
  refine acall_fin hf hcf (by simp [irTyRecord]) fun hcl _ => ?_
  simp [irTyRecord, hl]
  refine CallK_of' (hv.slValues z ns _) ?_
  simp
  refine CallK_of' (hs (L := ns) h1 (bt := t) (z := z) (by simp)) ?_
  have hc' := fun H' => cloneM_acall (H := H') (z := false) hcf1 hcf2 (rows := (msort ns).map encStr) (by simpa using hmne) (by simp; omega)
  simp only [List.length_map] at hc'
  simp [he]
  refine CallK_of' (hc' _) ?_
  have hk' := compact_acall hk hmne (by omega) (H := H ++ [.box bt [.d (.int .i64 0), .d (.sl true 1 []), .d (.sl true 3 [])], .box t [.d (.sl z 1 (ns.map encStr))], .arr 1 [], .arr 1 (strRows (msort ns))]) (i := H.length + 3) (by simp)
  have hrr : ((msort ns).map encStr).map (List.map A.d) = strRows (msort ns) := by simp [strRows, encStr]
  simp at hrr hk'
  simp [hrr]
  refine CallK_of hk' ?_
  rintro r H' ⟨rfl, rows, rfl⟩
  rw [hS] at hml ⊢
  by_cases hd : Dup S
  · have hne : ¬ (Lib.compact (S.map Prod.fst)).length = ns.length := fun e => hcd.1 e hd
    have hne2 : ¬ ((Lib.compact (S.map Prod.fst)).length : Int) = ns.length := by omega
    simp [hne, hne2]
    simp [RetK, cut_app hcl, hd]
    rw [T.a_nil]
    exact fun _ _ h => h
  have heq : (Lib.compact (S.map Prod.fst)).length = ns.length := hcd.2 hd
  simp [heq]
  refine RangeK_of (H.length + 6) ns.length (fun i fr H' => fr 0 = .d (.sl z 1 (ns.map encStr)) ∧ fr 1 = .d (.sl y 3 (ps.map T.enc)) ∧ fr 4 = .ptr H.length 0 ∧ fr 7 = .ptr (H.length + 5) 0 ∧ fr 29 = .d (.sl false 1 ((S.map Prod.fst).map encStr)) ∧
    ∃ X, X.length = 3 ∧ H' = H ++ (.box bt [.d (.int .i64 0), .d (.sl true 1 []), .d (.sl true 3 [])] :: (X ++ [.tok i 3 bt, .box bt [.d (.int .i64 3), .d (.sl false 1 ((S.map Prod.fst).map encStr)), .osl true 3 ((S.map (T.enc ∘ Prod.snd)).take i) (H.length + 4)]]))) (by omega) (by decide) (by simp) (by simp [hSl]) ?_ ?_ ?_
  · simp [cut_appk hcl, hml]
    exact ⟨[_, _, _], rfl, rfl⟩
  · rintro i fr H' hilt f31 f30 ⟨f0, f1, f4, f7, f29, X, hXl, rfl⟩
    match X, hXl with
    | [x1, x2, x3], _ =>
    have hiS : i < S.length := by omega
    have hgS : S[i]? = some S[i] := List.getElem?_eq_getElem hiS
    have ta := take_map_succ (T.enc ∘ Prod.snd) hiS
    obtain ⟨hm1, hm2⟩ := hix hd i _ hgS
    have ra : Zam.rowAt ((S.map Prod.fst).map encStr) (i : Int) = some [.str S[i].1] := by simp [Zam.rowAt, hiS, encStr]
    have rb : Zam.rowAt (ps.map T.enc) ((ns.idxOf S[i].1 : Nat) : Int) = some S[i].2.enc := rowAt_get hm2
    generalize S[i] = q at ta hgS hm1 hm2 ra rb
    obtain ⟨x, v⟩ := q
    obtain ⟨k', z', ns', y', ps'⟩ := v
    simp only [T.enc_mk, Function.comp_apply] at ra rb ta
    have hm : min i S.length = i := by omega
    have hcap : (i + 1) * 56 ≤ 140737488355328 := by omega
    simp only [List.map_map] at ra f29
    simp [f31, f29, ra, f7, f0, f1]
    refine CallD_of (hi.idxAt z ns x hm1 h1 _) ?_
    simp [rb, f7, appA, hm, hcap, f31]
    refine NextK_of (H.length + 6) (Nat.le_refl _) (by simp [f31, f30]) ?_
    simp [f0, f1, f4, f7, f29, cut_appk hcl, ta]
    exact ⟨[_, _, _], rfl, rfl⟩
  · rintro fr H' f31 f30 ⟨f0, f1, f4, f7, f29, X, hXl, rfl⟩
    match X, hXl with
    | [x1, x2, x3], _ =>
    have hfull : (S.map (T.enc ∘ Prod.snd)).take ns.length = S.map (T.enc ∘ Prod.snd) := List.take_of_length_le (by simp [hSl])
    simp [f4, f7, hfull]
    have hnl : ¬ H.length + 4 < H.length := by omega
    have hne : S.map Prod.fst ≠ [] := by rw [← hS]; exact hmne
    have := nrm_tup (b := .d (.int .i64 0)) (nrm_T (k := 3) (z := false) (z' := true) (ns := S.map Prod.fst) (y := true) (y' := true) (ps := S.map Prod.snd) (fun e => absurd e hne) (fun _ => rfl))
    rw [T.a_mk, List.map_map, List.map_map] at this
    simp [RetK, cut_app hcl, hd, hnl]
    exact this

end
end Go.Zam

namespace Go.Zam
set_option linter.all false
set_option maxRecDepth 100000
set_option maxHeartbeats 1000000

/-- the first that is wrong -/
def badE : List (T × Int) → Int
  | [] => 0
  | p :: r => if p.2 ≠ 0 then p.2 else badE r
theorem badE_zero : ∀ {l : List (T × Int)}, badE l = 0 ↔ ∀ p ∈ l, p.2 = 0
  | [] => by simp [badE]
  | p :: r => by
    rw [badE]
    split
    · rename_i h
      exact ⟨fun e => absurd e h, fun e => absurd (e p (by simp)) h⟩
    · rename_i h
      rw [badE_zero (l := r)]
      exact ⟨fun e q hq => (List.mem_cons.1 hq).elim (fun g => by subst g; exact Classical.not_not.1 h) (e q), fun e q hq => e q (by simp [hq])⟩
theorem badE_at : ∀ {l : List (T × Int)} {i : Nat} {p : T × Int}, (∀ q ∈ l.take i, q.2 = 0) → l[i]? = some p → p.2 ≠ 0 → badE l = p.2
  | [], i, p, _, h, _ => by simp at h
  | q :: r, 0, p, _, h, hp => by
    simp at h
    subst h
    rw [badE, if_pos hp]
  | q :: r, i + 1, p, h0, h, hp => by
    have hq : q.2 = 0 := h0 q (by simp)
    rw [badE, if_neg (by simp [hq])]
    exact badE_at (i := i) (fun x hx => h0 x (by simp [hx])) (by simpa using h) hp

def N.one : N → Bool
  | .mk k _ _ _ _ _ [_] => decide (k = 33)
  | _ => false

mutual
/-- the type that a tree tells, or why there is none -/
noncomputable def N.ty : N → T × Int
  | .mk k _ _ _ _ _ ks =>
    if k = 0 ∨ k = 31 then (T.nil, 0)
    else if k = 29 then (T.new 1 [] [], 0)
    else if k = 30 then (T.new 2 [] [], 0)
    else if k = 32 then if badE (N.ftys ks) ≠ 0 then (T.nil, badE (N.ftys ks)) else recT (ks.map N.w) ((N.ftys ks).map Prod.fst)
    else if k = 34 then if badE (N.tys ks) ≠ 0 then (T.nil, badE (N.tys ks)) else if ks = [] then (T.nil, 8) else (T.new 4 [] ((N.tys ks).map Prod.fst), 0)
    else (T.nil, 8)
/-- the type of a record's label -/
noncomputable def N.fty : N → T × Int
  | .mk k _ _ _ _ _ ks => if k = 33 ∧ ks.length = 1 then (N.tys ks).headD (T.nil, 8) else (T.nil, 8)
noncomputable def N.tys : List N → List (T × Int)
  | [] => []
  | n :: r => N.ty n :: N.tys r
noncomputable def N.ftys : List N → List (T × Int)
  | [] => []
  | n :: r => N.fty n :: N.ftys r
end
theorem N.tys_map : ∀ l : List N, N.tys l = l.map N.ty
  | [] => by rw [N.tys]; rfl
  | p :: r => by rw [N.tys, N.tys_map r]; rfl
theorem N.ftys_map : ∀ l : List N, N.ftys l = l.map N.fty
  | [] => by rw [N.ftys]; rfl
  | p :: r => by rw [N.ftys, N.ftys_map r]; rfl
theorem N.ty_mk (k f t : Int) (w : Bs) (a : Int) (z : Bool) (ks : List N) : N.ty (.mk k f t w a z ks) =
    if k = 0 ∨ k = 31 then (T.nil, 0)
    else if k = 29 then (T.new 1 [] [], 0)
    else if k = 30 then (T.new 2 [] [], 0)
    else if k = 32 then if badE (ks.map N.fty) ≠ 0 then (T.nil, badE (ks.map N.fty)) else recT (ks.map N.w) ((ks.map N.fty).map Prod.fst)
    else if k = 34 then if badE (ks.map N.ty) ≠ 0 then (T.nil, badE (ks.map N.ty)) else if ks = [] then (T.nil, 8) else (T.new 4 [] ((ks.map N.ty).map Prod.fst), 0)
    else (T.nil, 8) := by rw [N.ty, N.tys_map, N.ftys_map]
theorem N.fty_one {k f t : Int} {w : Bs} {a : Int} {z : Bool} {n : N} (h : k = 33) : N.fty (.mk k f t w a z [n]) = N.ty n := by rw [N.fty, N.tys_map]; simp [h]
theorem N.fty_not {k f t : Int} {w : Bs} {a : Int} {z : Bool} {ks : List N} (h : ¬ (k = 33 ∧ ks.length = 1)) : N.fty (.mk k f t w a z ks) = (T.nil, 8) := by rw [N.fty, if_neg h]

/-! how deep a type is -/
mutual
def T.dep : T → Nat
  | .mk _ _ _ _ ps => T.deps ps + 1
def T.deps : List T → Nat
  | [] => 0
  | p :: r => max (T.dep p) (T.deps r)
end
theorem T.dep_mk (k : Int) (z : Bool) (ns : List Str') (y : Bool) (ps : List T) : T.dep (.mk k z ns y ps) = T.deps ps + 1 := by rw [T.dep]
theorem T.deps_le : ∀ {l : List T} {n : Nat}, T.deps l ≤ n ↔ ∀ p ∈ l, p.dep ≤ n
  | [], n => by simp [T.deps]
  | p :: r, n => by rw [T.deps, Nat.max_le, T.deps_le (l := r)]; simp
theorem T.deps_snoc : ∀ {l : List T} {p : T}, T.deps (l ++ [p]) = max (T.deps l) p.dep
  | [], p => by simp [T.deps]
  | q :: r, p => by rw [List.cons_append, T.deps, T.deps, T.deps_snoc]; omega

/-- term.Of -/
noncomputable def N.typ (n : N) : T × Int := if n.ty.2 ≠ 0 then (T.nil, n.ty.2) else if 12 < n.ty.1.dep then (T.nil, 25) else n.ty

end Go.Zam

namespace Go.Zam
set_option linter.all false
set_option maxRecDepth 100000
set_option maxHeartbeats 2000000
open Classical

/-- a function's type -/
def T.fn (v : T) (z : Bool) (ps : List T) : T := .mk 4 true [] (z && ps.isEmpty) (ps ++ [v])
mutual
/-- a type in new memory -/
def T.twin : T → T
  | .mk k z ns _ ps => .mk k (z && ns.isEmpty) ns true (T.twins ps)
def T.twins : List T → List T
  | [] => []
  | p :: r => T.twin p :: T.twins r
end
theorem T.twins_map : ∀ l : List T, T.twins l = l.map T.twin
  | [] => rfl
  | p :: r => by rw [T.twins, T.twins_map r]; rfl
theorem T.twin_mk (k : Int) (z : Bool) (ns : List Str') (y : Bool) (ps : List T) : T.twin (.mk k z ns y ps) = .mk k (z && ns.isEmpty) ns true (ps.map T.twin) := by rw [T.twin, T.twins_map]
theorem T.deps_take_succ {ps : List T} {i : Nat} (h : i < ps.length) : T.deps (ps.take (i + 1)) = max (T.deps (ps.take i)) ps[i].dep := by
  rw [List.take_succ_eq_append_getElem h, T.deps_snoc]

section
variable {P : Program}

theorem Has.tyTwin {f fc : FuncId} {t fo : TypeId} (h : HasT P [11] f (irTyTwin fc f t)) (hc : HasT P [1000005] fc (irCloneM 1 16 fo)) (v : T) : v.Fit 1048576 → ∀ H, ACall P f [v.a] H (fun r H' => r = v.twin.a ∧ H' = H) := by
  induction v using T.ind with
  | h k z ns y ps ih =>
  rintro (⟨_, _, _, _, _, b2, b3, b4, b5⟩) H
  have h0 := h
  obtain ⟨fn, hf, hcf⟩ := h
  obtain ⟨fnc, hcf1, hcf2⟩ := hc
  have hc' := fun H' => cloneD_acall (H := H') (z := z) hcf1 hcf2 (rows := ns.map encStr) (by simp; omega)
  simp only [List.isEmpty_map] at hc'
  refine acall_fin hf hcf (by simp [irTyTwin]) fun hcl _ => ?_
  rw [T.a_mk, T.twin_mk, T.a_mk]
  simp only [irTyTwin]
  refine Seq_out (fun fr H' => fr 1 = .ptr H.length 0 ∧ fr 2 = .ptr (H.length + 1) 0 ∧ H' = H ++ [.box t [.d (.int .i64 k), .d (.sl z 1 (ns.map encStr)), .d (.sl y 3 (ps.map T.enc))], .box t [.d (.int .i64 0), .d (.sl true 1 []), .d (.sl true 3 [])]]) (fun _ _ => False) (by simp) (fun _ _ h => h.elim) ?_
  rintro fr H' ⟨f1, f2, rfl⟩
  refine Seq_out (fun fr H' => fr 1 = .ptr H.length 0 ∧ fr 2 = .ptr (H.length + 1) 0 ∧
    ((fr 3 = .ptr (H.length + 3) 0 ∧ H' = H ++ [.box t [.d (.int .i64 k), .d (.sl z 1 (ns.map encStr)), .d (.sl y 3 (ps.map T.enc))], .box t [.d (.int .i64 0), .d (.sl true 1 []), .d (.sl true 3 [])],
        .tok 0 3 t, .box t [.d (.int .i64 k), .d (.sl (z && ns.isEmpty) 1 (ns.map encStr)), .osl true 3 [] (H.length + 2)]]) ∨
     (fr 3 = .ptr (H.length + 2) 0 ∧ H' = H ++ [.box t [.d (.int .i64 k), .d (.sl z 1 (ns.map encStr)), .d (.sl y 3 (ps.map T.enc))], .box t [.d (.int .i64 0), .d (.sl true 1 []), .d (.sl true 3 [])],
        .box t [.d (.int .i64 k), .d (.sl (z && ns.isEmpty) 1 (ns.map encStr)), .osl true 3 [] (H.length + 3)], .tok 0 3 t]))) (fun _ _ => False) ?_ (fun _ _ h => h.elim) ?_
  · simp [f1]
    repeat' apply And.intro
    all_goals
      refine CallK_of' (hc' _) ?_
      simp [f1, f2]
  rintro fr H' ⟨f1, f2, hor⟩
  rcases hor with ⟨f3, rfl⟩ | ⟨f3, rfl⟩
  · simp [f1]
    refine RangeK_of (H.length + 4) ps.length (fun i fr H' => fr 2 = .ptr (H.length + 1) 0 ∧ fr 3 = .ptr (H.length + 3) 0 ∧ fr 13 = .d (.sl y 3 (ps.map T.enc)) ∧ H' = H ++ [.box t [.d (.int .i64 k), .d (.sl z 1 (ns.map encStr)), .d (.sl y 3 (ps.map T.enc))], .box t [.d (.int .i64 0), .d (.sl true 1 []), .d (.sl true 3 [])],
        .tok i 3 t, .box t [.d (.int .i64 k), .d (.sl (z && ns.isEmpty) 1 (ns.map encStr)), .osl true 3 ((ps.map (T.enc ∘ T.twin)).take i) (H.length + 2)]]) (by omega) (by decide) (by simp) (by simp) ?_ ?_ ?_
    · simp [f2, f3, cut_appk hcl]
    · rintro i fr H' hi f15 f14 ⟨f2, f3, f13, rfl⟩
      have hr := rowAt_map T.enc hi
      have hx := ih ps[i] (List.getElem_mem hi) (b5 _ (List.getElem_mem hi))
      have ht := take_map_succ (T.enc ∘ T.twin) hi
      generalize ps[i] = p at hr hx ht
      obtain ⟨k', z', ns', y', ps'⟩ := p
      simp only [T.enc_mk, T.a_mk, T.twin_mk, Function.comp_apply] at hr hx ht
      have hm : min i ps.length = i := by omega
      have hcap : (i + 1) * 56 ≤ 140737488355328 := by omega
      simp [f15, f13, hr, f3]
      refine CallD_of (hx _) ?_
      simp [f3, appA, hm, hcap, f15]
      refine NextK_of (H.length + 4) (Nat.le_refl _) (by simp [f15, f14]) ?_
      simp [f2, f3, f13, cut_appk hcl, ht]
    · rintro fr H' f15 f14 ⟨f2, f3, f13, rfl⟩
      have hfull : (ps.map (T.enc ∘ T.twin)).take ps.length = ps.map (T.enc ∘ T.twin) := List.take_of_length_le (by simp)
      simp [f2, f3, hfull]
      simp [RetK, cut_app hcl, f2]
  · simp [f1]
    refine RangeK_of (H.length + 4) ps.length (fun i fr H' => fr 2 = .ptr (H.length + 1) 0 ∧ fr 3 = .ptr (H.length + 2) 0 ∧ fr 13 = .d (.sl y 3 (ps.map T.enc)) ∧ H' = H ++ [.box t [.d (.int .i64 k), .d (.sl z 1 (ns.map encStr)), .d (.sl y 3 (ps.map T.enc))], .box t [.d (.int .i64 0), .d (.sl true 1 []), .d (.sl true 3 [])],
        .box t [.d (.int .i64 k), .d (.sl (z && ns.isEmpty) 1 (ns.map encStr)), .osl true 3 ((ps.map (T.enc ∘ T.twin)).take i) (H.length + 3)], .tok i 3 t]) (by omega) (by decide) (by simp) (by simp) ?_ ?_ ?_
    · simp [f2, f3, cut_appk hcl]
    · rintro i fr H' hi f15 f14 ⟨f2, f3, f13, rfl⟩
      have hr := rowAt_map T.enc hi
      have hx := ih ps[i] (List.getElem_mem hi) (b5 _ (List.getElem_mem hi))
      have ht := take_map_succ (T.enc ∘ T.twin) hi
      generalize ps[i] = p at hr hx ht
      obtain ⟨k', z', ns', y', ps'⟩ := p
      simp only [T.enc_mk, T.a_mk, T.twin_mk, Function.comp_apply] at hr hx ht
      have hm : min i ps.length = i := by omega
      have hcap : (i + 1) * 56 ≤ 140737488355328 := by omega
      simp [f15, f13, hr, f3]
      refine CallD_of (hx _) ?_
      simp [f3, appA, hm, hcap, f15]
      refine NextK_of (H.length + 4) (Nat.le_refl _) (by simp [f15, f14]) ?_
      simp [f2, f3, f13, cut_appk hcl, ht]
    · rintro fr H' f15 f14 ⟨f2, f3, f13, rfl⟩
      have hfull : (ps.map (T.enc ∘ T.twin)).take ps.length = ps.map (T.enc ∘ T.twin) := List.take_of_length_le (by simp)
      simp [f2, f3, hfull]
      simp [RetK, cut_app hcl, f2]

theorem Has.tyDepth {f : FuncId} {t : TypeId} (h : Has P f (irTyDepth f t)) (v : T) : v.Fit 1048576 → v.dep ≤ 1125899906842624 → ∀ H, ACall P f [v.a] H (fun r H' => r = .d (.int .i64 (v.dep : Int)) ∧ H' = H) := by
  induction v using T.ind with
  | h k z ns y ps ih =>
  rintro (⟨_, _, _, _, _, b2, b3, b4, b5⟩) hd H
  have h0 := h
  obtain ⟨fn, hf, hcf⟩ := h
  refine acall_fin hf hcf (by simp [irTyDepth]) fun hcl _ => ?_
  rw [T.a_mk, T.dep_mk]
  rw [T.dep_mk] at hd
  have hdp : ∀ p ∈ ps, p.dep ≤ T.deps ps := T.deps_le.1 (Nat.le_refl _)
  simp [irTyDepth]
  refine RangeK_of (H.length + 1) ps.length (fun i fr H' => fr 3 = .d (.int .i64 (T.deps (ps.take i) : Int)) ∧ fr 7 = .d (.sl y 3 (ps.map T.enc)) ∧ H' = H ++ [.box t [.d (.int .i64 k), .d (.sl z 1 (ns.map encStr)), .d (.sl y 3 (ps.map T.enc))]]) (by omega) (by decide) (by simp) (by simp) ?_ ?_ ?_
  · simp [T.deps, cut_appk hcl]
  · rintro i fr H' hi f9 f8 ⟨f3, f7, rfl⟩
    have hr := rowAt_map T.enc hi
    have hmem := List.getElem_mem hi
    have hx := ih ps[i] hmem (b5 _ hmem) (by have := hdp _ hmem; omega)
    have ht := T.deps_take_succ hi
    generalize ps[i] = p at hr hx ht
    obtain ⟨k', z', ns', y', ps'⟩ := p
    generalize hdd : (T.mk k' z' ns' y' ps').dep = dd at hx ht
    simp only [T.enc_mk, T.a_mk] at hr hx
    simp [f9, f7, hr, f3]
    refine CallK_of' (hx _) ?_
    simp
    refine NextK_of (H.length + 1) (Nat.le_refl _) (by simp [f9, f8]) ?_
    simp [f7, cut_appk hcl, ht]
    omega
  · rintro fr H' f9 f8 ⟨f3, f7, rfl⟩
    rw [List.take_of_length_le (Nat.le_refl _)] at f3
    have hw : IntKind.i64.wrap ((T.deps ps : Int) + 1) = (T.deps ps : Int) + 1 := wrap_i64 (by omega) (by omega)
    simp [f3, hw]
    simp [RetK, cut_app hcl]

end
end Go.Zam

namespace Go.Zam
set_option linter.all false
set_option maxRecDepth 100000
set_option maxHeartbeats 2000000

inductive Utf : Bs → Prop
  | nil : Utf []
  | step {s : Bs} (h : s ≠ []) (hd : decU s ≠ (65533, 1)) (hr : Utf (s.drop (decU s).2)) : Utf s

theorem badF_ge : ∀ (f : Nat) (s : Bs) (n : Nat), badF f s n = -1 ∨ 0 ≤ badF f s n
  | 0, _, _ => .inl rfl
  | f + 1, s, n => by
    rw [badF]
    split
    · exact .inl rfl
    · split
      · exact .inr (by omega)
      · exact badF_ge f _ _

theorem badF_utf : ∀ (f : Nat) (s : Bs) (n : Nat), s.length ≤ f → (badF f s n = -1 ↔ Utf s)
  | 0, s, n, h => by
    have : s = [] := List.eq_nil_of_length_eq_zero (by omega)
    subst this
    exact ⟨fun _ => .nil, fun _ => rfl⟩
  | f + 1, s, n, h => by
    rw [badF]
    by_cases hs : s = []
    · rw [if_pos hs]; subst hs; exact ⟨fun _ => .nil, fun _ => rfl⟩
    rw [if_neg hs]
    by_cases hd : decU s = (65533, 1)
    · rw [if_pos hd]
      constructor
      · intro e; omega
      · intro hu
        cases hu with
        | nil => exact absurd rfl hs
        | step _ h2 _ => exact absurd hd h2
    · rw [if_neg hd]
      have hl := decU_len hs
      rw [badF_utf f _ _ (by simp; omega)]
      constructor
      · exact fun h => .step hs hd h
      · intro hu
        cases hu with
        | nil => exact absurd rfl hs
        | step _ _ h3 => exact h3

theorem badS_utf (s : Bs) : ¬ 0 ≤ badS s ↔ Utf s := by
  rw [← badF_utf s.length s 0 (Nat.le_refl _)]
  have := badF_ge s.length s 0
  unfold badS
  omega

theorem decodeN_w (n b0 b1 b2 b3 : Nat) (hn : 1 ≤ n) : Lib.decodeN n b0 b1 b2 b3 = (65533, 1) ∨ ((Lib.decodeN n b0 b1 b2 b3).2 = 1 ∧ b0 < 128) ∨ ((Lib.decodeN n b0 b1 b2 b3).2 = 2 ∧ 2 ≤ n ∧ 128 ≤ b0 ∧ 128 ≤ b1) ∨ ((Lib.decodeN n b0 b1 b2 b3).2 = 3 ∧ 3 ≤ n ∧ 128 ≤ b0 ∧ 128 ≤ b1 ∧ 128 ≤ b2) ∨ ((Lib.decodeN n b0 b1 b2 b3).2 = 4 ∧ 4 ≤ n ∧ 128 ≤ b0 ∧ 128 ≤ b1 ∧ 128 ≤ b2 ∧ 128 ≤ b3) := by
  unfold Lib.decodeN
  (repeat' split) <;> simp <;> omega

theorem decodeN_1 (n n' b0 b1 b2 b3 c1 c2 c3 : Nat) (h : b0 < 128) : Lib.decodeN n' b0 c1 c2 c3 = Lib.decodeN n b0 b1 b2 b3 := by simp [Lib.decodeN, h]
theorem decodeN_2 (n n' b0 b1 b2 b3 c2 c3 : Nat) (hn : 2 ≤ n) (hn' : 2 ≤ n') (h : (Lib.decodeN n b0 b1 b2 b3).2 = 2) : Lib.decodeN n' b0 b1 c2 c3 = Lib.decodeN n b0 b1 b2 b3 := by
  unfold Lib.decodeN at *
  (repeat' split at h) <;> simp only at h <;> try omega
  all_goals (repeat' split) <;> first | rfl | (exfalso; omega)
theorem decodeN_3 (n n' b0 b1 b2 b3 c3 : Nat) (hn : 3 ≤ n) (hn' : 3 ≤ n') (h : (Lib.decodeN n b0 b1 b2 b3).2 = 3) : Lib.decodeN n' b0 b1 b2 c3 = Lib.decodeN n b0 b1 b2 b3 := by
  unfold Lib.decodeN at *
  (repeat' split at h) <;> simp only at h <;> try omega
  all_goals (repeat' split) <;> first | rfl | (exfalso; omega)
theorem decodeN_4 (n n' b0 b1 b2 b3 : Nat) (hn : 4 ≤ n) (hn' : 4 ≤ n') (h : (Lib.decodeN n b0 b1 b2 b3).2 = 4) : Lib.decodeN n' b0 b1 b2 b3 = Lib.decodeN n b0 b1 b2 b3 := by
  unfold Lib.decodeN at *
  (repeat' split at h) <;> simp only at h <;> try omega
  all_goals (repeat' split) <;> first | rfl | (exfalso; omega)

theorem getD_take_app (s r : Bs) (w i : Nat) (h : i < w) (hw : w ≤ s.length) : (s.take w ++ r).getD i 0 = s.getD i 0 := by
  have h1 : i < s.length := by omega
  simp [List.getD, List.getElem?_append, h, h1, Nat.min_eq_left hw]

theorem decU_ne {s : Bs} (h : s ≠ []) : decU s = Lib.decodeN s.length (s.getD 0 0).toNat (s.getD 1 0).toNat (s.getD 2 0).toNat (s.getD 3 0).toNat := by unfold decU; rw [if_neg h]

theorem Utf.inv {s : Bs} (hu : Utf s) (h : s ≠ []) : decU s ≠ (65533, 1) ∧ Utf (s.drop (decU s).2) := by
  cases hu with
  | nil => exact absurd rfl h
  | step h1 h2 h3 => exact ⟨h2, h3⟩

/-- a character stays what it is, whatever follows -/
theorem decU_loc {s : Bs} (hs : s ≠ []) (hd : decU s ≠ (65533, 1)) (r : Bs) : decU (s.take (decU s).2 ++ r) = decU s ∧ (2 ≤ (decU s).2 → ∀ i, i < (decU s).2 → 128 ≤ (s.getD i 0).toNat) := by
  have hl := decU_len hs
  have hn : 1 ≤ s.length := by omega
  have hE : decU s = Lib.decodeN s.length (s.getD 0 0).toNat (s.getD 1 0).toNat (s.getD 2 0).toNat (s.getD 3 0).toNat := decU_ne hs
  have hne : s.take (decU s).2 ++ r ≠ [] := fun e => by
    have := congrArg List.length e
    simp only [List.length_append, List.length_take, List.length_nil] at this
    omega
  have hlen : (s.take (decU s).2 ++ r).length = (decU s).2 + r.length := by simp only [List.length_append, List.length_take]; omega
  have hF : decU (s.take (decU s).2 ++ r) = Lib.decodeN ((decU s).2 + r.length) ((s.take (decU s).2 ++ r).getD 0 0).toNat ((s.take (decU s).2 ++ r).getD 1 0).toNat ((s.take (decU s).2 ++ r).getD 2 0).toNat ((s.take (decU s).2 ++ r).getD 3 0).toNat := by
    rw [← hlen]; exact decU_ne hne
  have hg := fun i h => getD_take_app s r (decU s).2 i h hl.2
  rw [hF]
  rw [hE] at hd
  rcases decodeN_w s.length (s.getD 0 0).toNat (s.getD 1 0).toNat (s.getD 2 0).toNat (s.getD 3 0).toNat hn with h | ⟨h1, h2⟩ | ⟨h1, h2, h3, h4⟩ | ⟨h1, h2, h3, h4, h5⟩ | ⟨h1, h2, h3, h4, h5, h6⟩
  · exact absurd h hd
  · rw [← hE] at h1
    refine ⟨?_, fun h => by omega⟩
    rw [hg 0 (by omega), hE]
    exact decodeN_1 _ _ _ _ _ _ _ _ _ h2
  · have h1' := h1
    rw [← hE] at h1
    refine ⟨?_, fun _ i hi => ?_⟩
    · rw [hg 0 (by omega), hg 1 (by omega), hE]
      rw [hE] at h1 
      exact decodeN_2 _ _ _ _ _ _ _ _ h2 (by omega) h1'
    · match i, (show i < 2 by omega) with
      | 0, _ => exact h3
      | 1, _ => exact h4
  · have h1' := h1
    rw [← hE] at h1
    refine ⟨?_, fun _ i hi => ?_⟩
    · rw [hg 0 (by omega), hg 1 (by omega), hg 2 (by omega), hE]
      rw [hE] at h1 
      exact decodeN_3 _ _ _ _ _ _ _ h2 (by omega) h1'
    · match i, (show i < 3 by omega) with
      | 0, _ => exact h3
      | 1, _ => exact h4
      | 2, _ => exact h5
  · have h1' := h1
    rw [← hE] at h1
    refine ⟨?_, fun _ i hi => ?_⟩
    · rw [hg 0 (by omega), hg 1 (by omega), hg 2 (by omega), hg 3 (by omega), hE]
      rw [hE] at h1 
      exact decodeN_4 _ _ _ _ _ _ h2 (by omega) h1'
    · match i, (show i < 4 by omega) with
      | 0, _ => exact h3
      | 1, _ => exact h4
      | 2, _ => exact h5
      | 3, _ => exact h6

theorem Utf.app {s t : Bs} (hs : Utf s) (ht : Utf t) : Utf (s ++ t) := by
  induction hs with
  | nil => exact ht
  | @step s h hd hr ih =>
    have hl := decU_len h
    have hloc := (decU_loc h hd (s.drop (decU s).2 ++ t)).1
    rw [← List.append_assoc, List.take_append_drop] at hloc
    refine .step (by simp [h]) (by rw [hloc]; exact hd) ?_
    rw [hloc, List.drop_append_of_le_length hl.2]
    exact ih

theorem Utf.ahead : ∀ (m : Nat) {a b : Bs}, a.length ≤ m → Utf (a ++ b) → (∀ x, a.getLast? = some x → x.toNat < 128) → Utf a
  | m, [], b, _, _, _ => .nil
  | 0, x :: a, b, h, _, _ => by simp at h
  | m + 1, x :: a, b, h, hu, hlast => by
    generalize hA : x :: a = A at *
    have hne : A ≠ [] := by rw [← hA]; simp
    have h1 : A ++ b ≠ [] := by simp [hne]
    obtain ⟨hd, hr⟩ := hu.inv h1
    · have hl := decU_len h1
      have hloc := decU_loc h1 hd
      rcases Nat.lt_or_ge A.length (decU (A ++ b)).2 with hw | hw
      · exfalso
        have hA1 : 1 ≤ A.length := by rw [← hA]; simp
        have := (hloc []).2 (by omega) (A.length - 1) (by omega)
        have hg : A.getLast? = some (A[A.length - 1]'(by omega)) := by rw [List.getLast?_eq_getElem?, List.getElem?_eq_getElem]
        have h2 := hlast _ hg
        have h3 : (A ++ b).getD (A.length - 1) 0 = A[A.length - 1]'(by omega) := by
          simp [List.getD, List.getElem?_append, show A.length - 1 < A.length by omega]
        rw [h3] at this
        omega
      · have e1 : (A ++ b).take (decU (A ++ b)).2 = A.take (decU (A ++ b)).2 := List.take_append_of_le_length hw
        have h3 := (hloc (A.drop (decU (A ++ b)).2)).1
        rw [e1, List.take_append_drop] at h3
        have hA1 := decU_len hne
        refine .step hne (by rw [h3]; exact hd) ?_
        rw [h3]
        rw [List.drop_append_of_le_length hw] at hr
        refine Utf.ahead m (by simp; omega) hr fun y hy => hlast y ?_
        rw [List.getLast?_drop] at hy
        split at hy
        · cases hy
        · exact hy

end Go.Zam

namespace Go.Zam
set_option linter.all false
set_option maxRecDepth 100000
set_option maxHeartbeats 2000000

/-- the tokens of a text that begins at a place -/
inductive Toks : Bs → Nat → List Tk → Prop
  | fin {s : Bs} {n : Nat} (h : (tokN (s.drop (leadS false s))).1 = 0) (h0 : s.drop (leadS false s) = []) : Toks s n [⟨0, n + leadS false s, s.take (leadS false s), []⟩]
  | tok {s : Bs} {n : Nat} {l : List Tk} (h : (tokN (s.drop (leadS false s))).1 = 0) (h0 : s.drop (leadS false s) ≠ []) (hr : Toks ((s.drop (leadS false s)).drop (tokN (s.drop (leadS false s))).2.2) (n + leadS false s + (tokN (s.drop (leadS false s))).2.2) l) :
      Toks s n (⟨(tokN (s.drop (leadS false s))).2.1, n + leadS false s, s.take (leadS false s), (s.drop (leadS false s)).take (tokN (s.drop (leadS false s))).2.2⟩ :: l)

theorem lexF_toks : ∀ (f : Nat) (s : Bs) (n c : Nat), s.length < f → ((lexF f s n c).2.1 = 0 ↔ ∃ l, Toks s n l ∧ c + l.length ≤ 4000) ∧ ((lexF f s n c).2.1 = 0 → Toks s n (lexF f s n c).1 ∧ c + (lexF f s n c).1.length ≤ 4000)
  | 0, s, n, c, h => by omega
  | f + 1, s, n, c, h => by
    have htl := tokN_len (s.drop (leadS false s))
    obtain ⟨t1, t2, t3, t4⟩ := htl
    rw [lexF]
    by_cases he : (tokN (s.drop (leadS false s))).1 = 0
    case neg =>
      rw [if_pos he]
      refine ⟨⟨fun e => absurd e he, ?_⟩, fun e => absurd e he⟩
      rintro ⟨l, hl, -⟩
      cases hl with
      | fin h1 h2 => exact absurd h1 he
      | tok h1 h2 h3 => exact absurd h1 he
    rw [if_neg (by simp [he])]
    by_cases hc : 4000 ≤ c
    case pos =>
      rw [if_pos hc]
      refine ⟨⟨fun e => absurd e (by simp), ?_⟩, fun e => absurd e (by simp)⟩
      rintro ⟨l, hl, hlc⟩
      cases hl with
      | fin h1 h2 => simp at hlc; omega
      | tok h1 h2 h3 => simp at hlc; omega
    rw [if_neg hc]
    by_cases hk : (tokN (s.drop (leadS false s))).2.1 = 0
    · rw [if_pos hk]
      have hnil := t2 he hk
      have hT : Toks s n [⟨(tokN (s.drop (leadS false s))).2.1, n + leadS false s, s.take (leadS false s), (s.drop (leadS false s)).take (tokN (s.drop (leadS false s))).2.2⟩] := by
        have := Toks.fin (n := n) he hnil
        rw [hk, hnil]
        simpa using this
      exact ⟨⟨fun _ => ⟨_, hT, by simp; omega⟩, fun _ => rfl⟩, fun _ => ⟨hT, by simp; omega⟩⟩
    · rw [if_neg hk]
      have hne : s.drop (leadS false s) ≠ [] := fun e => hk (t4 e)
      have hm := t3 he hne
      have hlen : ((s.drop (leadS false s)).drop (tokN (s.drop (leadS false s))).2.2).length < f := by
        simp only [List.length_drop] at t1 ⊢
        have : leadS false s < s.length := by
          rcases Nat.lt_or_ge (leadS false s) s.length with h' | h'
          · exact h'
          · exact absurd (List.drop_eq_nil_of_le h') hne
        omega
      obtain ⟨i1, i2⟩ := lexF_toks f _ (n + leadS false s + (tokN (s.drop (leadS false s))).2.2) (c + 1) hlen
      generalize lexF f ((s.drop (leadS false s)).drop (tokN (s.drop (leadS false s))).2.2) (n + leadS false s + (tokN (s.drop (leadS false s))).2.2) (c + 1) = R at i1 i2
      by_cases hR : R.2.1 = 0
      · rw [if_pos hR]
        obtain ⟨j1, j2⟩ := i2 hR
        have hT := Toks.tok (n := n) he hne j1
        exact ⟨⟨fun _ => ⟨_, hT, by simp; omega⟩, fun _ => rfl⟩, fun _ => ⟨hT, by simp; omega⟩⟩
      · rw [if_neg hR]
        refine ⟨⟨fun e => absurd e hR, ?_⟩, fun e => absurd e hR⟩
        rintro ⟨l, hl, hlc⟩
        exfalso
        cases hl with
        | fin h1 h2 => exact hne h2
        | tok h1 h2 h3 => exact hR (i1.2 ⟨_, h3, by simp at hlc; omega⟩)

/-- what token.Lex answers, where nothing is wrong -/
theorem lexS_ok (s : Bs) : ((lexS s).2.1 = 0 ↔ s.length ≤ 16384 ∧ Utf s ∧ ∃ l, Toks s 0 l ∧ l.length ≤ 4000) ∧ ((lexS s).2.1 = 0 → Toks s 0 (lexS s).1 ∧ (lexS s).1.length ≤ 4000) := by
  have hu := badS_utf s
  unfold lexS
  by_cases h1 : 16384 < s.length
  · rw [if_pos h1]
    exact ⟨⟨fun e => absurd e (by simp), fun e => by omega⟩, fun e => absurd e (by simp)⟩
  rw [if_neg h1]
  by_cases h2 : 0 ≤ badS s
  · rw [if_pos h2]
    exact ⟨⟨fun e => absurd e (by simp), fun e => absurd e.2.1 fun q => hu.2 q h2⟩, fun e => absurd e (by simp)⟩
  rw [if_neg h2]
  obtain ⟨i1, i2⟩ := lexF_toks (s.length + 1) s 0 0 (by omega)
  refine ⟨?_, fun e => by simpa using i2 e⟩
  rw [i1]
  simp only [Nat.zero_add]
  exact ⟨fun ⟨l, a, b⟩ => ⟨by omega, hu.1 h2, l, a, b⟩, fun ⟨_, _, q⟩ => q⟩

/-- what one token is -/
def TkAt (p : Nat) (last : Prop) (t : Tk) : Prop := t.a = p + t.l.length ∧ (t.k = 0 ↔ last) ∧ (t.x = [] ↔ t.k = 0)

theorem Toks.join {s : Bs} {n : Nat} {l : List Tk} (h : Toks s n l) : joinS l = s ∧ (∃ t, l.getLast? = some t ∧ t.k = 0) ∧ ∀ (i : Nat) (t : Tk), l[i]? = some t → TkAt (n + (joinS (l.take i)).length) (i + 1 = l.length) t := by
  induction h with
  | @fin s n h1 h2 =>
    refine ⟨?_, ⟨_, rfl, rfl⟩, fun i t hi => ?_⟩
    · simp only [joinS, List.flatMap_cons, List.flatMap_nil, List.append_nil]
      have := List.take_append_drop (leadS false s) s
      rw [h2, List.append_nil] at this
      exact this
    · cases i with
      | zero =>
        simp at hi; subst hi
        have := lead_le false s
        refine ⟨by simp [joinS]; omega, by simp, by simp⟩
      | succ i => simp at hi
  | @tok s n l h1 h2 h3 ih =>
    obtain ⟨j1, ⟨t0, j2, j3⟩, j4⟩ := ih
    have hl := lead_le false s
    obtain ⟨m1, m2, m3, m4⟩ := tokN_len (s.drop (leadS false s))
    have hne : l ≠ [] := fun e => by subst e; simp at j2
    have hm := m3 h1 h2
    have hx : (s.drop (leadS false s)).take (tokN (s.drop (leadS false s))).2.2 ≠ [] := fun e => by
      have := congrArg List.length e
      simp only [List.length_take, List.length_nil] at this
      omega
    have hk : ¬ (tokN (s.drop (leadS false s))).2.1 = 0 := fun e => h2 (m2 h1 e)
    have hlx : ((s.drop (leadS false s)).take (tokN (s.drop (leadS false s))).2.2).length = (tokN (s.drop (leadS false s))).2.2 := by simp only [List.length_take]; omega
    refine ⟨?_, ⟨t0, ?_, j3⟩, fun i t hi => ?_⟩
    · have e : joinS (⟨(tokN (s.drop (leadS false s))).2.1, n + leadS false s, s.take (leadS false s), (s.drop (leadS false s)).take (tokN (s.drop (leadS false s))).2.2⟩ :: l) = (s.take (leadS false s) ++ (s.drop (leadS false s)).take (tokN (s.drop (leadS false s))).2.2) ++ joinS l := rfl
      rw [e, j1, List.append_assoc, List.take_append_drop, List.take_append_drop]
    · rw [List.getLast?_cons, j2]; rfl
    · cases i with
      | zero =>
        simp at hi; subst hi
        refine ⟨by simp [joinS]; omega, ?_, ?_⟩
        · simp [hk]; exact hne
        · simp only; exact ⟨fun e => absurd e hx, fun e => absurd e hk⟩
      | succ i =>
        simp at hi
        obtain ⟨q1, q2, q3⟩ := j4 i t hi
        refine ⟨?_, ?_, q3⟩
        · rw [q1, List.take_succ_cons]
          have e : joinS (⟨(tokN (s.drop (leadS false s))).2.1, n + leadS false s, s.take (leadS false s), (s.drop (leadS false s)).take (tokN (s.drop (leadS false s))).2.2⟩ :: l.take i) = (s.take (leadS false s) ++ (s.drop (leadS false s)).take (tokN (s.drop (leadS false s))).2.2) ++ joinS (l.take i) := rfl
          rw [e]
          simp only [List.length_append, hlx, List.length_take]
          omega
        · rw [q2]; simp

end Go.Zam

namespace Go.Zam
set_option linter.all false
set_option maxRecDepth 100000
set_option maxHeartbeats 1000000

/-- the last token is an end -/
def EndsL (L : List Tk) : Prop := ∀ i, i + 1 = L.length → kdT L i = 0
theorem kdT_ltE {L : List Tk} {i : Nat} (hE : EndsL L) (h : kdT L i ≠ 0) : i + 1 < L.length := by
  have := kdT_lt h
  rcases Nat.lt_or_ge (i + 1) L.length with h' | h'
  · exact h'
  · exact absurd (hE i (by omega)) h
theorem isT_kd {L : List Tk} {i : Nat} {x : Bs} (h : isT L i x = true) : kdT L i ≠ 0 := by
  unfold isT at h
  unfold kdT
  cases hg : L[i]? with
  | none => rw [hg] at h; cases h
  | some t =>
    rw [hg] at h
    simp at h ⊢
    rcases h.1 with h | h <;> omega
theorem isT_ltE {L : List Tk} {i : Nat} {x : Bs} (hE : EndsL L) (h : isT L i x = true) : i + 1 < L.length := kdT_ltE hE (isT_kd h)

/-- where it ends, or can't go on, there is a token -/
def Bd (L : List Tk) : PR → Prop
  | .ok _ j | .bad j => j < L.length
  | .out => True

section
variable {L : List Tk}
theorem Bd.want (hE : EndsL L) {k : Nat} {x : Bs} {h : Nat → PR} (hk : k < L.length) (hh : k + 1 < L.length → Bd L (h (k + 1))) : Bd L (wantR L k x h) := by
  unfold wantR
  split
  · rename_i e; exact hh (isT_ltE hE e)
  · exact hk
theorem Bd.word (hE : EndsL L) {k : Nat} {h : Bs → Nat → PR} (hk : k < L.length) (hh : k + 1 < L.length → Bd L (h (txT L k) (k + 1))) : Bd L (wordR L k h) := by
  unfold wordR
  split
  · rename_i e; exact hh (kdT_ltE hE (by omega))
  · exact hk
theorem Bd.ifT (hE : EndsL L) {k : Nat} {x : Bs} {a b : PR} (ha : k + 1 < L.length → Bd L a) (hb : Bd L b) : Bd L (if isT L k x then a else b) := by
  split
  · rename_i e; exact ha (isT_ltE hE e)
  · exact hb
theorem Bd.ifK (hE : EndsL L) {k : Nat} {x : Int} {a b : PR} (hx : x ≠ 0) (ha : k + 1 < L.length → Bd L a) (hb : Bd L b) : Bd L (if kdT L k = x then a else b) := by
  split
  · rename_i e; exact ha (kdT_ltE hE (by omega))
  · exact hb
theorem Bd.if0 {k : Nat} {a b : PR} (ha : Bd L a) (hb : Bd L b) : Bd L (if kdT L k = 0 then a else b) := by
  split
  · exact ha
  · exact hb
theorem Bd.ifS (hE : EndsL L) {k : Nat} {x : Bs} {a b : PR} (ha : k + 2 < L.length → Bd L a) (hb : Bd L b) : Bd L (if kdT L k = 1 ∧ isT L (k + 1) x = true then a else b) := by
  split
  · rename_i e; exact ha (by have := isT_ltE hE e.2; omega)
  · exact hb
theorem Bd.thenG {r : PR} {h : N → Nat → PR} (hr : Bd L r) (hh : ∀ m j, j < L.length → Bd L (h m j)) : Bd L (r.then h) := by
  cases r with
  | out => trivial
  | bad j => exact hr
  | ok m j => exact hh m j hr

end

/-! what a text's tokens are like -/

theorem tokN_key (s : Bs) : (tokN s).1 = 0 → (tokN s).2.1 = 2 → s.take (tokN s).2.2 ∈ keysL := by
  cases s with
  | nil => intro _ h; cases h
  | cons b r =>
    rw [tokN]
    (repeat' split) <;> simp_all

theorem Toks.like {s : Bs} {n : Nat} {l : List Tk} (h : Toks s n l) : l ≠ [] ∧ EndsL l ∧ (∀ i, i + 1 < l.length → kdT l i ≠ 0) ∧ ∀ t ∈ l, t.k = 2 → t.x ∈ keysL := by
  induction h with
  | fin h h0 =>
    refine ⟨by simp, fun i hi => ?_, fun i hi => by simp at hi, ?_⟩
    · have : i = 0 := by simp at hi; omega
      subst this; rfl
    · intro t ht hk
      simp at ht; subst ht
      simp at hk
  | @tok s n l h h0 hr ih =>
    obtain ⟨i1, i2, i3, i4⟩ := ih
    have htl := tokN_len (s.drop (leadS false s))
    obtain ⟨t1, t2, t3, t4⟩ := htl
    have hl : 0 < l.length := List.length_pos_iff.2 i1
    refine ⟨by simp, fun i hi => ?_, fun i hi => ?_, ?_⟩
    · cases i with
      | zero => exact absurd hi (by simp only [List.length_cons]; omega)
      | succ i => exact i2 i (by simpa using hi)
    · cases i with
      | zero =>
        show (tokN (s.drop (leadS false s))).2.1 ≠ 0
        exact fun e => h0 (t2 h e)
      | succ i => exact i3 i (by simpa using hi)
    · intro t ht hk
      rcases List.mem_cons.1 ht with rfl | ht
      · exact tokN_key _ h hk
      · exact i4 t ht hk

theorem noEq_of {l : List Tk} (h : ∀ t ∈ l, t.k = 2 → t.x ∈ keysL) (i : Nat) (hi : isT l i [61] = true) : kdT l i = 5 := by
  unfold isT at hi
  unfold kdT
  cases hg : l[i]? with
  | none => rw [hg] at hi; cases hi
  | some t =>
    rw [hg] at hi
    simp at hi ⊢
    rcases hi.1 with e | e
    · have := h t (List.mem_of_getElem? hg) e
      rw [hi.2] at this
      exact absurd this (by decide)
    · exact e

theorem lexS_like {s : Bs} (h : (lexS s).2.1 = 0) : (lexS s).1 ≠ [] ∧ EndsL (lexS s).1 ∧ (∀ i, i + 1 < (lexS s).1.length → kdT (lexS s).1 i ≠ 0) ∧ (∀ i, isT (lexS s).1 i [61] = true → kdT (lexS s).1 i = 5) ∧ (lexS s).1.length ≤ 4000 := by
  obtain ⟨h1, h2⟩ := (lexS_ok s).2 h
  obtain ⟨a1, a2, a3, a4⟩ := h1.like
  exact ⟨a1, a2, a3, noEq_of a4, h2⟩

section
variable {P : Program}

end
end Go.Zam

namespace Go.Zam
set_option linter.all false
set_option maxRecDepth 100000
set_option maxHeartbeats 1000000

def typeF (L : List Tk) : PR := pp L (16 * L.length + 8) .kind 0
/-- the tree of a type's tokens, or why there is none -/
def typeP (L : List Tk) : N × Int := match typeF L with
  | .ok n k => if kdT L k = 0 then if 60 < n.depth then (N.none, 25) else (n, 0) else (N.none, 24)
  | _ => (N.none, 24)
/-- the tree of a type's text, or why there is none -/
def typeO (s : Bs) : N × Int := if (lexS s).2.1 ≠ 0 then (N.none, (lexS s).2.1) else typeP (lexS s).1

section
variable {P : Program} {F : PF}

/-- kinds alone -/
theorem KHas.kinds (hF : KHas P F) {z : Bool} {L : List Tk} (hL : L.length ≤ 1048576) : ∀ n, n ≤ 1099511627776 → UC P F.tp z L n .kind F.kind ∧ UCc P F.tp F.tb z L n .tfield F.tfield := by
  intro n
  induction n using Nat.strongRecOn with
  | ind n ih =>
  intro hn
  cases n with
  | zero => exact ⟨UC_zero (by decide), UCc_zero (by decide)⟩
  | succ n =>
    exact ⟨hF.kind' hL n (by omega) (fun m hm => (ih m (by omega) (by omega)).2) (fun m hm => (ih m hm (by omega)).1), hF.tfield' hL n (by omega) (ih n (by omega) (by omega)).1⟩

theorem Has.type_ {f fl fd} (h : Has P f (irPType fl F.kind F.now F.fail fd F.tn F.tp)) (hF : KHas P F) (hd : Has P fd (irTDepth fd F.tn)) {H0 : Hp}
    (hl : ∀ (s : Bs), s.length ≤ 1048576 → ∀ H, Pre0 H0 H → ACall P fl [.d (.str s)] H (fun r H' => r = .tup [.d (.sl true 4 ((lexS s).1.map encTk)), .d (.int .i64 (lexS s).2.1), .d (.int .i64 (lexS s).2.2)] ∧ H' = H))
    (s : Bs) (hs : s.length ≤ 1048576) (H : Hp) (hH : Pre0 H0 H) : ACall P f [.d (.str s)] H (fun r H' => r = .tup [(typeO s).1.v, .d (.int .i64 (typeO s).2)] ∧ H' = H) := by
  obtain ⟨fn, hf, hcf⟩ := h
  refine acall_fin hf hcf (by simp [irPType]) fun hcl _ => ?_
  obtain ⟨Q, hQ⟩ : ∃ Q : A → Hp → Prop, Q = fun r H' => r = .tup [(typeO s).1.v, .d (.int .i64 (typeO s).2)] ∧ H' = H := ⟨_, rfl⟩
  rw [← hQ]
  have hnone : ∀ e : Int, typeO s = (N.none, e) → Q (.tup [.agg [.d (.int .i64 0), .d (.int .i64 0), .d (.int .i64 0), .d (.str []), .d (.int .i64 0), .d (.sl true 6 [])], .d (.int .i64 e)]) H := fun e h => by
    subst hQ
    rw [h]
    exact ⟨rfl, rfl⟩
  have hO : typeO s = if (lexS s).2.1 ≠ 0 then (N.none, (lexS s).2.1) else typeP (lexS s).1 := rfl
  have hlk := lexS_like (s := s)
  obtain ⟨r0, hr0⟩ : ∃ r0 : Ob, r0 = .box F.tn [.d (.int .i64 0), .d (.int .i64 0), .d (.int .i64 0), .d (.str []), .d (.int .i64 0), .d (.sl true 6 [])] := ⟨_, rfl⟩
  have g1 := hl s hs _ (hH.app [r0])
  generalize lexS s = LS at hO hlk g1
  obtain ⟨L, e, b⟩ := LS
  simp only at hO hlk g1
  rw [hr0] at g1
  simp [irPType]
  refine CallK_of' g1 ?_
  by_cases he : e = 0
  case neg =>
    rw [if_pos he] at hO
    simp [he]
    simp [RetK, cut_app hcl]
    exact hnone e hO
  rw [if_neg (by simp [he])] at hO
  obtain ⟨l1, l2, l3, l4, l5⟩ := hlk he
  simp [he]
  have hA := (hF.kinds (z := true) (L := L) (by omega) (16 * L.length + 8) (by omega)).1
  have g := hA (H ++ [r0, pst F.tp true L (0, none)]) [] (H.length + 1) (0, none) (by simp) ⟨by simp only [G.c]; omega, by simp only [G.c]; omega, fun _ => ⟨Nat.zero_le _, by simp only [G.c]; omega⟩⟩
  have e1 : ∀ s, (H ++ [r0, pst F.tp true L (0, none)]).set (H.length + 1) (pst F.tp true L s) ++ [] = H ++ [r0, pst F.tp true L s] := fun s => by simp
  rw [e1] at g
  rw [hr0] at g
  refine CallK_of g ?_
  rintro _ _ ⟨m, s', rfl, rfl, hrel⟩
  rw [← hr0, e1]
  rcases hrel.none' with ⟨q, b, hq, rfl, e3⟩ | ⟨k', hk, rfl⟩
  · have hq' : typeF L = .bad q := hq
    have hP : typeP L = (N.none, 24) := by unfold typeP; rw [hq']
    rw [hP] at hO
    obtain ⟨k2, f2, t2, w2, a2, z2, ks2⟩ := m
    rw [N.v_mk, hr0]
    simp [pst]
    repeat' apply And.intro
    all_goals
      simp [RetK, cut_app hcl]
      try exact hnone 24 hO
  have hk' : typeF L = .ok m k' := hk
  have hsz := pp_size (L := L) (16 * L.length + 8) .kind 0 trivial
  rw [show pp L (16 * L.length + 8) .kind 0 = .ok m k' from hk] at hsz
  simp only [Sz, G.k1, G.sz, N.sizes_nil] at hsz
  have hadv := pp_adv (L := L) (16 * L.length + 8) .kind 0
  rw [show pp L (16 * L.length + 8) .kind 0 = .ok m k' from hk] at hadv
  obtain ⟨v1, -, v3⟩ := hadv
  have hdep := N.depth_size m
  have hd' := hd.depth m (by omega)
  have hnow : ∀ X, ACall P F.now [.ptr (H.length + 1) 0] (H ++ (r0 :: pst F.tp true L (k', none) :: X)) (fun r H' => r = tokA_ L k' ∧ H' = H ++ (r0 :: pst F.tp true L (k', none) :: X)) := fun X => hF.now' (z := true) (s := (k', none)) (by simp)
  have hfail : ∀ X, ACall P F.fail [.ptr (H.length + 1) 0, .d (.int .i64 24)] (H ++ (r0 :: pst F.tp true L (k', none) :: X)) (fun r H' => r = .tup [] ∧ H' = H ++ (r0 :: pst F.tp true L (k', some k') :: X)) := fun X => by
    have := hF.fail' (z := true) (L := L) (H := H ++ (r0 :: pst F.tp true L (k', none) :: X)) (i := H.length + 1) (s := (k', none)) (by simp)
    simpa [failS] using this
  obtain ⟨k2, f2, t2, w2, a2, z2, ks2⟩ := m
  rw [N.v_mk] at hd'
  have hnk := hnow [.box F.tn [.d (.int .i64 k2), .d (.int .i64 f2), .d (.int .i64 t2), .d (.str w2), .d (.int .i64 a2), .d (.sl z2 6 (ks2.map N.enc))]]
  have hfk := hfail [.box F.tn [.d (.int .i64 k2), .d (.int .i64 f2), .d (.int .i64 t2), .d (.str w2), .d (.int .i64 a2), .d (.sl z2 6 (ks2.map N.enc))]]
  rw [hr0] at hnk hfk
  rw [N.v_mk, hr0]
  simp only [pst] at hnk hfk
  simp [pst]
  simp at hnk hfk
  obtain ⟨ta, tl, htk⟩ := tokA_k L k'
  rw [htk] at hnk
  refine CallK_of' hnk ?_
  by_cases hkd : kdT L k' = 0
  · simp [hkd]
    refine CallK_of' (hd' _) ?_
    by_cases hdp : 60 < (N.mk k2 f2 t2 w2 a2 z2 ks2).depth
    · have hP : typeP L = (N.none, 25) := by unfold typeP; rw [hk']; simp [hkd, hdp]
      rw [hP] at hO
      have hdi : (60 : Int) < ((N.mk k2 f2 t2 w2 a2 z2 ks2).depth : Int) := by omega
      simp [hdi]
      simp [RetK, cut_app hcl]
      exact hnone 25 hO
    · have hP : typeP L = (N.mk k2 f2 t2 w2 a2 z2 ks2, 0) := by unfold typeP; rw [hk']; simp [hkd, hdp]
      rw [hP] at hO
      have hdi : ¬ (60 : Int) < ((N.mk k2 f2 t2 w2 a2 z2 ks2).depth : Int) := by omega
      simp [hdi]
      simp [RetK, cut_app hcl]
      subst hQ
      rw [hO, N.v_mk]
      exact ⟨rfl, rfl⟩
  · have hP : typeP L = (N.none, 24) := by unfold typeP; rw [hk']; simp [hkd]
    rw [hP] at hO
    simp [hkd]
    refine CallK_of' hfk ?_
    simp
    repeat' apply And.intro
    all_goals
      simp [RetK, cut_app hcl]
      try exact hnone 24 hO

end
end Go.Zam

namespace Go.Zam
set_option linter.all false
set_option maxRecDepth 100000
set_option maxHeartbeats 2000000
open Classical

theorem N.sizes_get {k f t : Int} {w : Bs} {a : Int} {z : Bool} {ks : List N} {i : Nat} {p : N} (h : ks[i]? = some p) : p.size < (N.mk k f t w a z ks).size := by
  have := N.sizes_mem (List.mem_of_getElem? h)
  rw [N.size_mk]; omega

/-- what is asked of a function that tells a tree's type -/
def OfT (P : Program) (f : FuncId) (n : N) : Prop := ∀ (H : Hp), ACall P f [n.v] H (fun r H' => r = .tup [n.ty.1.a, .d (.int .i64 n.ty.2)] ∧ H' = H)

/-- what a record's tree comes to -/
noncomputable def recNR (ks : List N) : T × Int := if badE (ks.map N.fty) ≠ 0 then (T.nil, badE (ks.map N.fty)) else recT (ks.map N.w) ((ks.map N.fty).map Prod.fst)

section
variable {P : Program}

/-- a record's tree -/
theorem Has.tyRecN {f fo fr_ : FuncId} {t1 t2 t3 : TypeId} (h : HasT P [4, 5] f (irTyRecN fo fr_ t1 t2 t3)) (hR : RecT P fr_) (n : N) (hs : n.size ≤ 1048576) (hO : ∀ p ∈ n.ks, ∀ q ∈ p.ks, OfT P fo q) (H : Hp) :
    ACall P f [n.v] H (fun r H' => r = .tup [(recNR n.ks).1.a, .d (.int .i64 (recNR n.ks).2)] ∧ H' = H) := by
  obtain ⟨fn, hf, hcf⟩ := h
  obtain ⟨k, f0, t0, w, a, z, ks⟩ := n
  have hlen : ks.length ≤ 1048576 := by
    have := N.sizes_len ks
    rw [N.size_mk] at hs; omega
  simp only [N.ks] at hO ⊢
  refine acall_fin hf hcf (by simp [irTyRecN]) fun hcl _ => ?_
  obtain ⟨Q, hQ⟩ : ∃ Q : A → Hp → Prop, Q = fun r H' => r = .tup [(recNR ks).1.a, .d (.int .i64 (recNR ks).2)] ∧ H' = H := ⟨_, rfl⟩
  rw [← hQ]
  have hbad : ∀ (i : Nat) (p : T × Int), (∀ q ∈ (ks.map N.fty).take i, q.2 = 0) → (ks.map N.fty)[i]? = some p → p.2 ≠ 0 → Q (.tup [.agg [.d (.int .i64 0), .d (.sl true 1 []), .d (.sl true 3 [])], .d (.int .i64 p.2)]) H := fun i p h1 h2 h3 => by
    have := badE_at h1 h2 h3
    subst hQ
    have e : recNR ks = (T.nil, p.2) := by rw [recNR, if_pos (by rw [this]; exact h3), this]
    rw [e]
    exact ⟨rfl, rfl⟩
  rw [N.v_mk]
  simp [irTyRecN]
  refine RangeK_of (H.length + 4) ks.length (fun i fr H' => fr 2 = .ptr (H.length + 1) 0 ∧ fr 11 = .d (.sl z 6 (ks.map N.enc)) ∧ fr 4 = .osl true 1 ((ks.map (encStr ∘ N.w)).take i) (H.length + 2) ∧ fr 5 = .osl true 3 ((ks.map (T.enc ∘ (Prod.fst ∘ N.fty))).take i) (H.length + 3) ∧
    (∀ q ∈ (ks.map N.fty).take i, q.2 = 0) ∧
    H' = H ++ [.box t1 [.d (.int .i64 k), .d (.int .i64 f0), .d (.int .i64 t0), .d (.str w), .d (.int .i64 a), .d (.sl z 6 (ks.map N.enc))], .box t2 [.d (.int .i64 0), .d (.sl true 1 []), .d (.sl true 3 [])], .tok i 1 t3, .tok i 3 t2]) (by omega) (by decide) (by simp) (by simp) ?_ ?_ ?_
  · simp [cut_appk hcl, A.lo]
  · rintro i fr H' hi f13 f12 ⟨f2, f11, f4, f5, hz, rfl⟩
    have hr := rowAt_map N.enc hi
    have hg : ks[i]? = some ks[i] := List.getElem?_eq_getElem hi
    have hmem := List.getElem_mem hi
    have ta := take_map_succ (encStr ∘ N.w) hi
    have tb := take_map_succ (T.enc ∘ (Prod.fst ∘ N.fty)) hi
    have tc := take_map_succ N.fty hi
    have hm : min i ks.length = i := by omega
    have hc1 : (i + 1) * 16 ≤ 140737488355328 := by omega
    have hc2 : (i + 1) * 56 ≤ 140737488355328 := by omega
    have hO' := hO _ hmem
    generalize ks[i] = p at hr hg hmem ta tb tc hO'
    have hgf : (ks.map N.fty)[i]? = some p.fty := by simp [hg]
    obtain ⟨k1, f1, t1', w1, a1, z1, ks1⟩ := p
    rw [N.enc_mk] at hr
    by_cases hk : k1 = 33
    case neg =>
      have hno : (N.mk k1 f1 t1' w1 a1 z1 ks1).fty = (T.nil, 8) := N.fty_not fun h => hk h.1
      rw [hno] at hgf
      simp [f13, f11, hr, hk, f2]
      simp [RetK, cut_app hcl, f2]
      exact hbad i _ hz hgf (by decide)
    by_cases hl : ks1.length = 1
    case neg =>
      have hno : (N.mk k1 f1 t1' w1 a1 z1 ks1).fty = (T.nil, 8) := N.fty_not fun h => hl h.2
      rw [hno] at hgf
      have hl' : ¬ (ks1.length : Int) = 1 := by omega
      simp [f13, f11, hr, hk, f2, hl, hl']
      simp [RetK, cut_app hcl, f2]
      exact hbad i _ hz hgf (by decide)
    obtain ⟨m, rfl⟩ := List.length_eq_one_iff.1 hl
    have hyes : (N.mk k1 f1 t1' w1 a1 z1 [m]).fty = m.ty := N.fty_one hk
    have hx := hO' m (by simp [N.ks])
    simp only [Function.comp_apply, hyes] at tb tc
    rw [hyes] at hgf
    have hwd : N.w (.mk k1 f1 t1' w1 a1 z1 [m]) = w1 := rfl
    simp only [Function.comp_apply, hwd, encStr] at ta
    unfold OfT at hx
    generalize m.ty = ty at hx hgf tb tc
    obtain ⟨v, e⟩ := ty
    obtain ⟨k2, f2', t2', w2, a2, z2, ks2⟩ := m
    have hr0 : Zam.rowAt [(N.mk k2 f2' t2' w2 a2 z2 ks2).enc] 0 = some [.int .i64 k2, .int .i64 f2', .int .i64 t2', .str w2, .int .i64 a2, .sl z2 6 (ks2.map N.enc)] := by rw [N.enc_mk]; rfl
    obtain ⟨kv, zv, nv, yv, pv⟩ := v
    rw [N.v_mk] at hx
    simp only [T.a_mk] at hx
    simp [f13, f11, hr, hk, f2, hr0]
    refine CallK_of' (hx _) ?_
    by_cases he : e = 0
    case neg =>
      simp [he, f2]
      simp [RetK, cut_app hcl, f2]
      exact hbad i _ hz hgf he
    subst he
    simp only [T.enc_mk] at tb
    simp [f4, f5, appA, hm, hc1, hc2, f13]
    refine NextK_of (H.length + 4) (Nat.le_refl _) (by simp [f13, f12]) ?_
    simp [f2, f11, cut_appk hcl, ta, tb, A.lo]
    rw [tc]
    intro q q2 hq
    rcases List.mem_append.1 hq with h | h
    · exact hz _ h
    · simp at h; exact h.2
  · rintro fr H' f13 f12 ⟨f2, f11, f4, f5, hz, rfl⟩
    have fa : (ks.map (encStr ∘ N.w)).take ks.length = ks.map (encStr ∘ N.w) := List.take_of_length_le (by simp)
    have fb : (ks.map (T.enc ∘ (Prod.fst ∘ N.fty))).take ks.length = ks.map (T.enc ∘ (Prod.fst ∘ N.fty)) := List.take_of_length_le (by simp)
    have fc : (ks.map N.fty).take ks.length = ks.map N.fty := List.take_of_length_le (by simp)
    rw [fa] at f4
    rw [fb] at f5
    rw [fc] at hz
    have hb0 : badE (ks.map N.fty) = 0 := badE_zero.2 hz
    have hrec := fun H => hR true true (ks.map N.w) ((ks.map N.fty).map Prod.fst) (by simpa using hlen) (by simpa using hlen) H
    simp only [List.map_map] at hrec
    have hfin : ∀ (v : T) (e : Int), (v, e) = recT (ks.map N.w) ((ks.map N.fty).map Prod.fst) → Q (.tup [v.a, .d (.int .i64 e)]) H := fun v e he => by
      subst hQ
      have e2 : recNR ks = (v, e) := by rw [recNR, if_neg (by simp [hb0]), he]
      rw [e2]
      exact ⟨rfl, rfl⟩
    simp only [List.map_map] at hfin
    generalize recT (ks.map N.w) (ks.map (Prod.fst ∘ N.fty)) = rt at hrec hfin
    obtain ⟨v, e⟩ := rt
    have hfin := hfin v e rfl
    obtain ⟨kv, zv, nv, yv, pv⟩ := v
    simp only [T.a_mk] at hrec hfin
    simp [f4, f5]
    refine CallK_shut (by simpa [A.shut] using hrec _) ?_
    simp [f2]
    simp [RetK, cut_app hcl, f2]
    exact hfin

/-- the type of a tree, however deep -/
theorem Has.tyOfN {f fr_ fR : FuncId} {t1 t2 t3 u1 u2 u3 : TypeId} (h : HasT P [29] f (irTyOfN fr_ f t1 t2 t3)) (hr : HasT P [4, 5] fr_ (irTyRecN f fR u1 u2 u3)) (hR : RecT P fR) (n : N) : n.size ≤ 1048576 → OfT P f n ∧ ∀ p ∈ n.ks, OfT P f p := by
  refine N.ind (Q := fun n => n.size ≤ 1048576 → OfT P f n ∧ ∀ p ∈ n.ks, OfT P f p) (fun k f0 t0 w a z ks ih => ?_) n
  intro hs
  have hsz : ∀ p ∈ ks, p.size ≤ 1048576 := fun p hp => by
    obtain ⟨i, hi⟩ := List.getElem?_of_mem hp
    have := N.sizes_get (k := k) (f := f0) (t := t0) (w := w) (a := a) (z := z) hi
    omega
  have hkids : ∀ p ∈ ks, OfT P f p := fun p hp => (ih p hp (hsz p hp)).1
  have hgrand : ∀ p ∈ ks, ∀ q ∈ p.ks, OfT P f q := fun p hp => (ih p hp (hsz p hp)).2
  refine ⟨?_, hkids⟩
  have hlen : ks.length ≤ 1048576 := by
    have := N.sizes_len ks
    rw [N.size_mk] at hs; omega
  intro H
  have hrec := fun H => Has.tyRecN hr hR (.mk k f0 t0 w a z ks) hs hgrand H
  obtain ⟨fn, hf, hcf⟩ := h
  refine acall_fin hf hcf (by simp [irTyOfN]) fun hcl _ => ?_
  have hty := N.ty_mk k f0 t0 w a z ks
  have hty2 : k = 32 → (N.mk k f0 t0 w a z ks).ty = recNR ks := fun hk => by
    rw [hty, if_neg (by omega), if_neg (by omega), if_neg (by omega), if_pos hk]; rfl
  obtain ⟨Q, hQ⟩ : ∃ Q : A → Hp → Prop, Q = fun r H' => r = .tup [(N.mk k f0 t0 w a z ks).ty.1.a, .d (.int .i64 (N.mk k f0 t0 w a z ks).ty.2)] ∧ H' = H := ⟨_, rfl⟩
  rw [← hQ]
  have hfin : ∀ (v : T) (e : Int), (N.mk k f0 t0 w a z ks).ty = (v, e) → Q (.tup [v.a, .d (.int .i64 e)]) H := fun v e he => by
    subst hQ
    rw [he]; exact ⟨rfl, rfl⟩
  rw [N.v_mk] at hrec ⊢
  by_cases c1 : k = 0
  · have := hfin T.nil 0 (by rw [hty, if_pos (.inl c1)])
    rw [T.a_nil] at this
    simp [irTyOfN, c1]
    simp [RetK, cut_app hcl]
    exact this
  by_cases c2 : k = 31
  · have := hfin T.nil 0 (by rw [hty, if_pos (.inr c2)])
    rw [T.a_nil] at this
    simp [irTyOfN, c2]
    simp [RetK, cut_app hcl]
    exact this
  by_cases c3 : k = 29
  · have := hfin (T.new 1 [] []) 0 (by rw [hty, if_neg (by omega), if_pos c3])
    rw [T.new, T.a_mk] at this
    simp [irTyOfN, c3]
    simp [RetK, cut_app hcl]
    simpa using this
  by_cases c4 : k = 30
  · have := hfin (T.new 2 [] []) 0 (by rw [hty, if_neg (by omega), if_neg c3, if_pos c4])
    rw [T.new, T.a_mk] at this
    simp [irTyOfN, c4]
    simp [RetK, cut_app hcl]
    simpa using this
  by_cases c5 : k = 32
  · have := fun v e (he : recNR ks = (v, e)) => hfin v e ((hty2 c5).trans he)
    simp only [N.ks] at hrec
    generalize recNR ks = rk at hrec this
    obtain ⟨v, e⟩ := rk
    have := this v e rfl
    obtain ⟨kv, zv, nv, yv, pv⟩ := v
    simp only [T.a_mk] at hrec this
    subst c5
    simp [irTyOfN]
    refine CallK_of' (hrec _) ?_
    simp
    simp [RetK, cut_app hcl]
    exact this
  by_cases c6 : k = 34
  case neg =>
    have := hfin T.nil 8 (by rw [hty, if_neg (by omega), if_neg c3, if_neg c4, if_neg c5, if_neg c6])
    rw [T.a_nil] at this
    simp [irTyOfN, c1, c2, c3, c4, c5, c6]
    simp [RetK, cut_app hcl]
    exact this
  -- a function's
  have hty3 : (N.mk k f0 t0 w a z ks).ty = if badE (ks.map N.ty) ≠ 0 then (T.nil, badE (ks.map N.ty)) else if ks = [] then (T.nil, 8) else (T.new 4 [] ((ks.map N.ty).map Prod.fst), 0) := by
    rw [hty, if_neg (by omega), if_neg c3, if_neg c4, if_neg c5, if_pos c6]
  have hbad : ∀ (i : Nat) (p : T × Int), (∀ q ∈ (ks.map N.ty).take i, q.2 = 0) → (ks.map N.ty)[i]? = some p → p.2 ≠ 0 → Q (.tup [.agg [.d (.int .i64 0), .d (.sl true 1 []), .d (.sl true 3 [])], .d (.int .i64 p.2)]) H := fun i p h1 h2 h3 => by
    have := badE_at h1 h2 h3
    exact hfin T.nil p.2 (by rw [hty3, if_pos (by rw [this]; exact h3), this])
  subst c6
  simp [irTyOfN]
  refine RangeK_of (H.length + 5) ks.length (fun i fr H' => fr 2 = .ptr (H.length + 1) 0 ∧ fr 31 = .d (.sl z 6 (ks.map N.enc)) ∧ fr 4 = .ptr (H.length + 4) 0 ∧
    (∀ q ∈ (ks.map N.ty).take i, q.2 = 0) ∧
    H' = H ++ [.box t1 [.d (.int .i64 34), .d (.int .i64 f0), .d (.int .i64 t0), .d (.str w), .d (.int .i64 a), .d (.sl z 6 (ks.map N.enc))], .box t2 [.d (.int .i64 0), .d (.sl true 1 []), .d (.sl true 3 [])], .tok 0 1 t3, .tok i 3 t2,
      .box t2 [.d (.int .i64 4), .osl true 1 [] (H.length + 2), .osl true 3 ((ks.map (T.enc ∘ (Prod.fst ∘ N.ty))).take i) (H.length + 3)]]) (by omega) (by decide) (by simp) (by simp) ?_ ?_ ?_
  · simp [cut_appk hcl]
  · rintro i fr H' hi f33 f32 ⟨f2, f31, f4, hz, rfl⟩
    have hr := rowAt_map N.enc hi
    have hg : ks[i]? = some ks[i] := List.getElem?_eq_getElem hi
    have hmem := List.getElem_mem hi
    have tb := take_map_succ (T.enc ∘ (Prod.fst ∘ N.ty)) hi
    have tc := take_map_succ N.ty hi
    have hm : min i ks.length = i := by omega
    have hc2 : (i + 1) * 56 ≤ 140737488355328 := by omega
    have hx := hkids _ hmem
    generalize ks[i] = p at hr hg hmem tb tc hx
    have hgf : (ks.map N.ty)[i]? = some p.ty := by simp [hg]
    unfold OfT at hx
    simp only [Function.comp_apply] at tb
    generalize p.ty = ty at hx hgf tb tc
    obtain ⟨v, e⟩ := ty
    obtain ⟨k1, f1, t1', w1, a1, z1, ks1⟩ := p
    obtain ⟨kv, zv, nv, yv, pv⟩ := v
    rw [N.enc_mk] at hr
    rw [N.v_mk] at hx
    simp only [T.a_mk] at hx
    simp [f33, f31, hr]
    refine CallK_of' (hx _) ?_
    by_cases he : e = 0
    case neg =>
      simp [he, f2]
      simp [RetK, cut_app hcl, f2]
      exact hbad i _ hz hgf he
    subst he
    simp only [T.enc_mk] at tb
    simp [f4, appA, hm, hc2, f33]
    refine NextK_of (H.length + 5) (Nat.le_refl _) (by simp [f33, f32]) ?_
    simp [f2, f4, f31, cut_appk hcl, tb]
    rw [tc]
    intro q q2 hq
    rcases List.mem_append.1 hq with h | h
    · exact hz _ h
    · simp at h; exact h.2
  · rintro fr H' f33 f32 ⟨f2, f31, f4, hz, rfl⟩
    have fb : (ks.map (T.enc ∘ (Prod.fst ∘ N.ty))).take ks.length = ks.map (T.enc ∘ (Prod.fst ∘ N.ty)) := List.take_of_length_le (by simp)
    have fc : (ks.map N.ty).take ks.length = ks.map N.ty := List.take_of_length_le (by simp)
    rw [fc] at hz
    have hb0 : badE (ks.map N.ty) = 0 := badE_zero.2 hz
    by_cases hks : ks = []
    · have := hfin T.nil 8 (by rw [hty3, if_neg (by simp [hb0]), if_pos hks])
      rw [T.a_nil] at this
      simp [f4, fb, hks, f2]
      simp [RetK, cut_app hcl, f2]
      exact this
    · have := hfin (T.new 4 [] ((ks.map N.ty).map Prod.fst)) 0 (by rw [hty3, if_neg (by simp [hb0]), if_neg hks])
      have hkl : ¬ ks.length = 0 := by simpa using hks
      rw [T.new, T.a_mk, List.map_map, List.map_map] at this
      have n2 : ¬ H.length + 2 < H.length := by omega
      have n3 : ¬ H.length + 3 < H.length := by omega
      simp [f4, fb, hks, f2]
      simp [RetK, cut_app hcl, f2, n2, n3]
      exact this

/-- term.Of -/
theorem Has.tyOf {f fo fd : FuncId} {t1 t2 : TypeId} (h : Has P f (irTyOf fo fd t1 t2)) (n : N) (ho : OfT P fo n) (hd : ∀ H, ACall P fd [n.ty.1.a] H (fun r H' => r = .d (.int .i64 (n.ty.1.dep : Int)) ∧ H' = H)) (H : Hp) :
    ACall P f [n.v] H (fun r H' => r = .tup [n.typ.1.a, .d (.int .i64 n.typ.2)] ∧ H' = H) := by
  obtain ⟨fn, hf, hcf⟩ := h
  refine acall_fin hf hcf (by simp [irTyOf]) fun hcl _ => ?_
  unfold OfT at ho
  have ht : n.typ = if n.ty.2 ≠ 0 then (T.nil, n.ty.2) else if 12 < n.ty.1.dep then (T.nil, 25) else n.ty := rfl
  generalize n.typ = ny at ht
  generalize n.ty = ty at ho hd ht
  obtain ⟨v, e⟩ := ty
  generalize hdd : v.dep = dd at hd ht
  simp only at ho hd ht hdd
  obtain ⟨kv, zv, nv, yv, pv⟩ := v
  obtain ⟨k1, f1, t1', w1, a1, z1, ks1⟩ := n
  rw [N.v_mk] at ho ⊢
  simp only [T.a_mk] at ho hd
  subst ht
  simp [irTyOf]
  refine CallK_of' (ho _) ?_
  by_cases he : e = 0
  case neg =>
    simp [he]
    simp [RetK, cut_app hcl, he, T.a_nil]
  subst he
  simp
  refine CallK_of' (hd _) ?_
  by_cases hd12 : 12 < dd
  · have : (12 : Int) < (dd : Int) := by omega
    simp [hd12, this]
    simp [RetK, cut_app hcl, hd12, T.a_nil]
  · have : ¬ (12 : Int) < (dd : Int) := by omega
    simp [hd12, this]
    simp [RetK, cut_app hcl, hd12, T.a_mk]

/-- the type of a text, or why there is none -/
noncomputable def typO (s : Bs) : T × Int := if (typeO s).2 ≠ 0 then (T.nil, (typeO s).2) else (typeO s).1.typ

theorem Has.tyParse {f fp fo : FuncId} {t1 t2 : TypeId} (h : Has P f (irTyParse fp fo t1 t2)) (s : Bs) (H : Hp) {H0 : Hp} (hH : Pre0 H0 H) (hp : ∀ H, Pre0 H0 H → ACall P fp [.d (.str s)] H (fun r H' => r = .tup [(typeO s).1.v, .d (.int .i64 (typeO s).2)] ∧ H' = H))
    (ho : ∀ H, ACall P fo [(typeO s).1.v] H (fun r H' => r = .tup [(typeO s).1.typ.1.a, .d (.int .i64 (typeO s).1.typ.2)] ∧ H' = H)) : ACall P f [.d (.str s)] H (fun r H' => r = .tup [(typO s).1.a, .d (.int .i64 (typO s).2)] ∧ H' = H) := by
  obtain ⟨fn, hf, hcf⟩ := h
  refine acall_fin hf hcf (by simp [irTyParse]) fun hcl _ => ?_
  have ht : typO s = if (typeO s).2 ≠ 0 then (T.nil, (typeO s).2) else (typeO s).1.typ := rfl
  generalize typO s = ty at ht
  generalize typeO s = ts at hp ho ht
  obtain ⟨n, e⟩ := ts
  simp only at hp ho ht
  generalize n.typ = ny at ho ht
  obtain ⟨v, e2⟩ := ny
  obtain ⟨kv, zv, nv, yv, pv⟩ := v
  obtain ⟨k1, f1, t1', w1, a1, z1, ks1⟩ := n
  rw [N.v_mk] at hp ho
  simp only [T.a_mk] at ho
  subst ht
  have hp' := hp _ (hH.app [.box t1 [.d (.int .i64 0), .d (.sl true 1 []), .d (.sl true 3 [])]])
  simp [irTyParse]
  refine CallK_of' hp' ?_
  by_cases he : e = 0
  case neg =>
    simp [he]
    simp [RetK, cut_app hcl, he, T.a_nil]
  subst he
  simp
  refine CallK_of' (ho _) ?_
  simp
  simp [RetK, cut_app hcl, T.a_mk]

end
end Go.Zam

namespace Go.Zam
open Go.Proofs
set_option linter.all false
set_option maxRecDepth 100000
set_option maxHeartbeats 1000000
open Classical

theorem T.nil_fit (b : Nat) : T.nil.Fit b := .mk _ _ _ _ _ (Nat.zero_le _) (Nat.zero_le _) (by simp) (by simp)
theorem T.nil_dep : T.nil.dep = 1 := rfl

/-- a node's words are no longer than a number -/
inductive N.Wd (b : Nat) : N → Prop
  | mk {k f t : Int} {w : Bs} {a : Int} {z : Bool} {ks : List N} (hw : w.length ≤ b) (h : ∀ p ∈ ks, N.Wd b p) : N.Wd b (.mk k f t w a z ks)

theorem recT_fit {b : Nat} {ns : List Str'} {ps : List T} (h1 : ns.length ≤ b) (h2 : ∀ x ∈ ns, x.length ≤ b) (h3 : ∀ p ∈ ps, p.Fit b) : (recT ns ps).1.Fit b := by
  unfold recT
  split
  · rename_i hl
    split
    · exact T.nil_fit b
    · have hp := ssort_perm cP_cmp (ns.zip ps)
      have hlen := ssort_length cP_cmp (ns.zip ps)
      refine .mk _ _ _ _ _ (by simp [hlen]; omega) (by simp [hlen]; omega) (fun x hx => ?_) (fun p hq => ?_)
      · obtain ⟨y, hy, rfl⟩ := List.mem_map.1 hx
        exact h2 _ (List.of_mem_zip (hp.mem_iff.2 hy)).1
      · obtain ⟨y, hy, rfl⟩ := List.mem_map.1 hq
        exact h3 _ (List.of_mem_zip (hp.mem_iff.2 hy)).2
  · exact T.nil_fit b

theorem recT_dep {ns : List Str'} {ps : List T} {d : Nat} (h : ∀ p ∈ ps, p.dep ≤ d) : (recT ns ps).1.dep ≤ d + 1 := by
  unfold recT
  split
  · split
    · rw [T.nil_dep]; omega
    · rw [T.new, T.dep_mk]
      have := T.deps_le (l := (ssort cP (ns.zip ps)).map Prod.snd) (n := d)
      have := this.2 fun p hq => by
        obtain ⟨y, hy, rfl⟩ := List.mem_map.1 hq
        exact h _ (List.of_mem_zip ((ssort_perm cP_cmp (ns.zip ps)).mem_iff.2 hy)).2
      omega
  · rw [T.nil_dep]; omega

theorem N.ty_ok (n : N) : n.size ≤ 1048576 → n.Wd 1048576 → (n.ty.1.Fit 1048576 ∧ n.ty.1.dep ≤ n.size) ∧ ∀ p ∈ n.ks, p.ty.1.Fit 1048576 ∧ p.ty.1.dep ≤ p.size := by
  refine N.ind (Q := fun n => n.size ≤ 1048576 → n.Wd 1048576 → (n.ty.1.Fit 1048576 ∧ n.ty.1.dep ≤ n.size) ∧ ∀ p ∈ n.ks, p.ty.1.Fit 1048576 ∧ p.ty.1.dep ≤ p.size) (fun k f t w a z ks ih => ?_) n
  intro hs hw
  have hsz : ∀ p ∈ ks, p.size < (N.mk k f t w a z ks).size := fun p hp => by
    obtain ⟨i, hi⟩ := List.getElem?_of_mem hp
    exact N.sizes_get hi
  have hwk : ∀ p ∈ ks, p.Wd 1048576 := fun p hp => by cases hw with | mk _ h => exact h p hp
  have hk : ∀ p ∈ ks, p.ty.1.Fit 1048576 ∧ p.ty.1.dep ≤ p.size := fun p hp => (ih p hp (by have := hsz p hp; omega) (hwk p hp)).1
  have hg : ∀ p ∈ ks, ∀ q ∈ p.ks, q.ty.1.Fit 1048576 ∧ q.ty.1.dep ≤ q.size := fun p hp => (ih p hp (by have := hsz p hp; omega) (hwk p hp)).2
  have hlen : ks.length ≤ 1048576 := by
    have := N.sizes_len ks
    rw [N.size_mk] at hs; omega
  have h1 : 1 ≤ (N.mk k f t w a z ks).size := by rw [N.size_mk]; omega
  refine ⟨?_, hk⟩
  rw [N.ty_mk]
  split
  · exact ⟨T.nil_fit _, by rw [T.nil_dep]; exact h1⟩
  split
  · exact ⟨.mk _ _ _ _ _ (Nat.zero_le _) (Nat.zero_le _) (by simp) (by simp), h1⟩
  split
  · exact ⟨.mk _ _ _ _ _ (Nat.zero_le _) (Nat.zero_le _) (by simp) (by simp), h1⟩
  split
  · split
    · exact ⟨T.nil_fit _, by rw [T.nil_dep]; exact h1⟩
    · have hf : ∀ p ∈ ks, p.fty.1.Fit 1048576 ∧ p.fty.1.dep + 1 ≤ (N.mk k f t w a z ks).size := fun p hp => by
        have hpz := hsz p hp
        obtain ⟨k1, f1, t1, w1, a1, z1, ks1⟩ := p
        have h1' : 1 ≤ (N.mk k1 f1 t1 w1 a1 z1 ks1).size := by rw [N.size_mk]; omega
        by_cases hc : k1 = 33 ∧ ks1.length = 1
        · obtain ⟨m, rfl⟩ := List.length_eq_one_iff.1 hc.2
          rw [N.fty_one hc.1]
          have := hg _ hp m (by simp [N.ks])
          have hmz : m.size < (N.mk k1 f1 t1 w1 a1 z1 [m]).size := N.sizes_get (i := 0) rfl
          exact ⟨this.1, by omega⟩
        · rw [N.fty_not hc]
          exact ⟨T.nil_fit _, by show 1 + 1 ≤ _; omega⟩
      refine ⟨recT_fit (by simpa using hlen) (fun x hx => ?_) (fun p hp => ?_), ?_⟩
      · obtain ⟨p, hp, rfl⟩ := List.mem_map.1 hx
        have := hwk p hp
        cases this with | mk h _ => exact h
      · obtain ⟨q, hq, rfl⟩ := List.mem_map.1 hp
        obtain ⟨r, hr, rfl⟩ := List.mem_map.1 hq
        exact (hf r hr).1
      · have := recT_dep (ns := ks.map N.w) (ps := (ks.map N.fty).map Prod.fst) (d := (N.mk k f t w a z ks).size - 1) fun p hp => by
          obtain ⟨q, hq, rfl⟩ := List.mem_map.1 hp
          obtain ⟨r, hr, rfl⟩ := List.mem_map.1 hq
          have := (hf r hr).2; omega
        omega
  split
  · split
    · exact ⟨T.nil_fit _, by rw [T.nil_dep]; exact h1⟩
    split
    · exact ⟨T.nil_fit _, by rw [T.nil_dep]; exact h1⟩
    · refine ⟨.mk _ _ _ _ _ (Nat.zero_le _) (by simpa using hlen) (by simp) (fun p hp => ?_), ?_⟩
      · obtain ⟨q, hq, rfl⟩ := List.mem_map.1 hp
        obtain ⟨r, hr, rfl⟩ := List.mem_map.1 hq
        exact (hk r hr).1
      · rw [T.new, T.dep_mk]
        have := (T.deps_le (l := (ks.map N.ty).map Prod.fst) (n := (N.mk k f t w a z ks).size - 1)).2 fun p hp => by
          obtain ⟨q, hq, rfl⟩ := List.mem_map.1 hp
          obtain ⟨r, hr, rfl⟩ := List.mem_map.1 hq
          have h1 := (hk r hr).2
          have h2 := hsz r hr
          omega
        omega
  · exact ⟨T.nil_fit _, by rw [T.nil_dep]; exact h1⟩

/-! words of trees -/
def WdR (b : Nat) : PR → Prop
  | .ok m _ => m.Wd b
  | _ => True
def G.Wd (b : Nat) : G → Prop
  | .file ks | .stmts ks => ∀ p ∈ ks, N.Wd b p
  | .list o _ => G.Wd b o
  | .listL o _ ks => G.Wd b o ∧ ∀ p ∈ ks, N.Wd b p
  | .sumL a | .termL a | .postL a => N.Wd b a
  | _ => True
section
variable {L : List Tk} {b : Nat}
theorem WdR.want {k : Nat} {x : Bs} {h : Nat → PR} (hh : WdR b (h (k + 1))) : WdR b (wantR L k x h) := by
  unfold wantR
  split
  · exact hh
  · trivial
theorem WdR.word (hL : ∀ t ∈ L, t.x.length ≤ b) {k : Nat} {h : Bs → Nat → PR} (hh : ∀ w : Bs, w.length ≤ b → WdR b (h w (k + 1))) : WdR b (wordR L k h) := by
  unfold wordR
  split
  · refine hh _ ?_
    unfold txT
    cases hg : L[k]? with
    | none => simp
    | some t => exact hL t (List.mem_of_getElem? hg)
  · trivial
theorem WdR.ite {c : Prop} [Decidable c] {x y : PR} (hx : WdR b x) (hy : WdR b y) : WdR b (if c then x else y) := by
  split
  · exact hx
  · exact hy
theorem WdR.thenG {r : PR} {h : N → Nat → PR} (hr : WdR b r) (hh : ∀ m j, m.Wd b → WdR b (h m j)) : WdR b (r.then h) := by
  cases r with
  | out => trivial
  | bad j => trivial
  | ok m j => exact hh m j hr
theorem txT_len (hL : ∀ t ∈ L, t.x.length ≤ b) (k : Nat) : (txT L k).length ≤ b := by
  unfold txT
  cases hg : L[k]? with
  | none => simp
  | some t => exact hL t (List.mem_of_getElem? hg)
theorem N.Wd.new {k f t : Int} {w : Bs} {a : Int} {ks : List N} (hw : w.length ≤ b) (h : ∀ p ∈ ks, N.Wd b p) : WdR b (.ok (N.new k f t w a ks) 0) := .mk hw h
theorem N.Wd.ks {n : N} (h : n.Wd b) : ∀ p ∈ n.ks, N.Wd b p := by cases h with | mk _ h => exact h
theorem N.Wd.nil {k f t a : Int} {z : Bool} : N.Wd b (.mk k f t [] a z []) := .mk (Nat.zero_le _) (by simp)
theorem wd_snoc {ks : List N} {m : N} (h : ∀ p ∈ ks, N.Wd b p) (hm : m.Wd b) : ∀ p ∈ ks ++ [m], N.Wd b p := fun p hp => by
  rcases List.mem_append.1 hp with h1 | h1
  · exact h p h1
  · simp at h1; subst h1; exact hm
theorem wd_cons {ks : List N} {m : N} (hm : m.Wd b) (h : ∀ p ∈ ks, N.Wd b p) : ∀ p ∈ m :: ks, N.Wd b p := fun p hp => by
  rcases List.mem_cons.1 hp with h1 | h1
  · subst h1; exact hm
  · exact h p h1
theorem wd_nil : ∀ p ∈ ([] : List N), N.Wd b p := fun p hp => by cases hp

theorem pp_wd (hL : ∀ t ∈ L, t.x.length ≤ b) : ∀ (n : Nat) (g : G) (i : Nat), g.Wd b → WdR b (pp L n g i)
  | 0, g, i, _ => trivial
  | n + 1, g, i, hg => by
    have ih := pp_wd hL n
    have hx := txT_len hL
    have h0 : ([] : Bs).length ≤ b := Nat.zero_le _
    cases g
    all_goals simp only [pp, G.Wd] at hg ⊢
    all_goals
      repeat' first
        | trivial
        | assumption
        | (refine WdR.want ?_)
        | (refine WdR.word hL fun w hw => ?_)
        | (refine WdR.ite ?_ ?_)
        | (refine WdR.thenG (ih _ _ ?_) fun m j hm => ?_)
        | (refine ih _ _ ?_)
        | (exact N.Wd.nil)
        | (exact wd_nil)
        | (exact N.Wd.ks (by assumption))
        | (exact hx _)
        | (refine wd_snoc ?_ ?_)
        | (refine wd_cons ?_ ?_)
        | (exact (by assumption : N.Wd b _))
        | (exact hg.1)
        | (exact hg.2)
        | (exact ⟨hg, wd_nil⟩)
        | (refine ⟨hg.1, wd_snoc hg.2 ?_⟩)
        | (refine N.Wd.mk ?_ ?_)

end

theorem Toks.wd {s : Bs} {n : Nat} {l : List Tk} (h : Toks s n l) : ∀ t ∈ l, t.x.length ≤ s.length := by
  induction h with
  | fin h h0 => intro t ht; simp at ht; subst ht; simp
  | @tok s n l h h0 hr ih =>
    intro t ht
    rcases List.mem_cons.1 ht with rfl | ht
    · simp; omega
    · have := ih t ht
      simp at this; omega

theorem lexS_wd (s : Bs) (h : (lexS s).2.1 = 0) : ∀ t ∈ (lexS s).1, t.x.length ≤ s.length := ((lexS_ok s).2 h).1.wd

theorem N.none_wd (b : Nat) : N.none.Wd b := N.Wd.nil

/-- a type's text's tree isn't too great -/
theorem typeO_ok (s : Bs) (hs : s.length ≤ 1048576) : (typeO s).1.size ≤ 1048576 ∧ (typeO s).1.Wd 1048576 := by
  unfold typeO
  split
  · exact ⟨by rw [N.size_none]; decide, N.none_wd _⟩
  · rename_i h
    have h0 : (lexS s).2.1 = 0 := by simpa using h
    have hwd := lexS_wd s h0
    have hl := (lexS_like h0).2.2.2.2
    unfold typeP
    cases hF : typeF (lexS s).1 with
    | out => exact ⟨by simp [N.size_none], N.none_wd _⟩
    | bad q => exact ⟨by simp [N.size_none], N.none_wd _⟩
    | ok m j =>
      simp only
      split
      · split
        · exact ⟨by simp [N.size_none], N.none_wd _⟩
        · have hsz := pp_size (L := (lexS s).1) (16 * (lexS s).1.length + 8) .kind 0 trivial
          have hw := pp_wd (b := 1048576) (L := (lexS s).1) (fun t ht => by have := hwd t ht; omega) (16 * (lexS s).1.length + 8) .kind 0 trivial
          have hadv := pp_adv (L := (lexS s).1) (16 * (lexS s).1.length + 8) .kind 0
          rw [show pp (lexS s).1 (16 * (lexS s).1.length + 8) .kind 0 = .ok m j from hF] at hsz hw hadv
          simp only [Sz, G.k1, G.sz, N.sizes_nil] at hsz
          obtain ⟨v1, -, v3⟩ := hadv
          exact ⟨by simp only; omega, hw⟩
      · exact ⟨by simp [N.size_none], N.none_wd _⟩

/-! the examples -/
def nFld (f t : Int) (w : Bs) (k : Int) : N := N.new 33 f t w f [N.new k (f + 2) (f + 3) [] 0 []]
theorem fld_ty {f t : Int} {w : Bs} {k : Int} : (nFld f t w k).fty = (N.new k (f + 2) (f + 3) [] 0 []).ty := N.fty_one rfl
theorem leaf_ty (f t : Int) : (N.new 29 f t [] 0 []).ty = (T.new 1 [] [], 0) ∧ (N.new 30 f t [] 0 []).ty = (T.new 2 [] [], 0) ∧ (N.new 31 f t [] 0 []).ty = (T.nil, 0) := by
  refine ⟨?_, ?_, ?_⟩ <;> (rw [N.new, N.ty_mk]; simp)
def tI : T := .new 1 [] []
def tS : T := .new 2 [] []
end Go.Zam

namespace Go.Zam
set_option linter.all false
set_option maxRecDepth 100000
set_option maxHeartbeats 2000000
open Classical

/-- what is asked of a function that says whether a type is without any -/
def StaticT (P : Program) (f : FuncId) (v : T) : Prop := ∀ (H : Hp), ACall P f [v.a] H (fun r H' => r = .d (.bool (decide v.st.St)) ∧ H' = H)

section
variable {P : Program} {t : Nat}

theorem Has.rStatic {f : FuncId} (h : Has P f (irRStatic f t)) (v : T) : v.Fit 1048576 → StaticT P f v := by
  induction v using T.ind with
  | h k z ns y ps ih =>
  rintro (⟨_, _, _, _, _, b2, b3, b4, b5⟩) H
  have h0 := h
  obtain ⟨fn, hf, hcf⟩ := h
  refine acall_fin hf hcf (by simp [irRStatic]) fun hcl _ => ?_
  rw [T.st_mk]
  rw [T.a_mk]
  have hst := @Ty.st_iff k ns (ps.map T.st)
  by_cases hk : k = 0
  · have hd : ¬ (Ty.mk k ns (ps.map T.st)).St := fun h => (hst.1 h).1 hk
    simp [irRStatic, hk]
    simp [RetK, cut_app hcl]
    simpa [hk] using hd
  simp [irRStatic, hk]
  generalize hB : H ++ [Ob.box t [A.d (D.int IntKind.i64 k), A.d (D.sl z 1 (List.map encStr ns)), A.d (D.sl y 3 (List.map T.enc ps))]] = B
  have hB0 : B[H.length]? = some (Ob.box t [A.d (D.int IntKind.i64 k), A.d (D.sl z 1 (List.map encStr ns)), A.d (D.sl y 3 (List.map T.enc ps))]) := by rw [← hB]; simp
  have hBl : B.length = H.length + 1 := by rw [← hB]; simp
  have hBc : Hp.cut (H.length + 1) B = B := by rw [← hB, cut_appk hcl]; simp
  have hBz : Hp.cut H.length B = H := by rw [← hB, cut_app hcl]
  refine ForK_of (H.length + 1) ps.length (fun i fr H6 => fr 1 = .ptr H.length 0 ∧ (∀ (j : Nat) (p : T), j < i → ps[j]? = some p → p.st.St) ∧ H6 = B) (by omega) (by decide) (by simp [hBl]) (by simp) ?_ ?_
  · simp [hBc]
  rintro i fr H6 hi f3 ⟨f1, hJ, rfl⟩
  simp [f3, f1, hB0]
  refine BrK_split (fun h => ?_) (fun h => ?_)
  · have hlt : i < ps.length := by simpa using h
    have hr := rowAt_map T.enc hlt
    have hx := ih ps[i] (List.getElem_mem hlt) (b5 _ (List.getElem_mem hlt))
    have hg : ps[i]? = some ps[i] := List.getElem?_eq_getElem hlt
    have hmem := List.getElem_mem hlt
    generalize ps[i] = p at hr hx hg hmem
    have hnR : ¬ p.st.St → ¬ (Ty.mk k ns (ps.map T.st)).St := fun hn hR => hn ((hst.1 hR).2 _ (List.mem_map.2 ⟨p, hmem, rfl⟩))
    have hyR : p.st.St → ∀ (j : Nat) (q : T), j < i + 1 → ps[j]? = some q → q.st.St := fun hp j q hj hq => by
      by_cases e : j = i
      · subst e; rw [hg] at hq; cases hq; exact hp
      · exact hJ j q (by omega) hq
    generalize hRp : p.st.St = RP at hnR hyR
    unfold StaticT at hx
    rw [hRp] at hx
    cases p with | mk k1 z1 ns1 y1 ps1 =>
    simp only [T.a_mk, T.enc_mk] at hr hx
    simp [f3, f1, hB0, hr]
    refine CallK_of' (hx _) ?_
    by_cases hRP : RP
    · simp [hRP]
      refine NextF_of (H.length + 1) (Nat.le_refl _) hlt (by simp [hBl, f3]) ?_
      simp [f1, hBc]
      exact hyR hRP
    · simp [hRP]
      simp [RetK, hBz, hBl, hnR hRP]
  · have hin : i = ps.length := by have : ¬ i < ps.length := by simpa using h
                                   omega
    have hd : (Ty.mk k ns (ps.map T.st)).St := hst.2 ⟨hk, fun p hp => by
      obtain ⟨q, hq, rfl⟩ := List.mem_map.1 hp
      obtain ⟨j, hj⟩ := List.getElem?_of_mem hq
      exact hJ j q (by rw [hin]; exact (List.getElem?_eq_some_iff.1 hj).1) hj⟩
    simp
    simp [RetK, hBz, hBl, hd]

end
end Go.Zam

namespace Go.Zam
set_option linter.all false
set_option maxRecDepth 100000
set_option maxHeartbeats 2000000
open Classical

namespace Ty
end Ty

theorem tI_fit : tI.Fit 1048576 := .mk _ _ _ _ _ (by simp) (by simp) (by simp) (by simp)
theorem nil_fit : T.nil.Fit 1048576 := .mk _ _ _ _ _ (by simp) (by simp) (by simp) (by simp)
theorem two_fit {w w' : Str'} {v v' : T} (hw : w.length ≤ 1048576) (hw' : w'.length ≤ 1048576) (hv : v.Fit 1048576) (hv' : v'.Fit 1048576) : (T.new 3 [w, w'] [v, v']).Fit 1048576 := .mk _ _ _ _ _ (by simp) (by simp) (by simpa using ⟨hw, hw'⟩) (by simpa using ⟨hv, hv'⟩)

section
variable {P : Program} {t : Nat} {H0 : Hp}

/-- what is asked of the sentinel -/
def AwakeT (P : Program) (H0 : Hp) (f : FuncId) : Prop := ∀ H, Pre0 H0 H → ACall P f [] H (fun r H' => r = .d (.bool true) ∧ H' = H)

end
end Go.Zam

namespace Go.Zam
set_option linter.all false
set_option maxRecDepth 100000
set_option maxHeartbeats 2000000
open Classical

section
variable {P : Program} {t : Nat} {H0 : Hp}

end
end Go.Zam

namespace Go.Zam
set_option linter.all false
set_option maxRecDepth 100000
open Classical

def T.kk : T → Int
  | .mk k _ _ _ _ => k
def T.nms : T → List Str'
  | .mk _ _ ns _ _ => ns
def T.prt : T → List T
  | .mk _ _ _ _ ps => ps

mutual
/-- what two types have in common, as the program holds it; the flag: a list of parts cut off keeps its nil flag, or it does not -/
noncomputable def T.join (c : Bool) : T → T → T
  | .mk k z ns y ps, w => if (T.mk k z ns y ps).st = w.st then .mk k z ns y ps else if k = 3 ∧ w.kk = 3 then .mk 3 true (ns.filter fun x => (lookT x w.nms w.prt).isSome) true (T.joinR c ns ps w)
      else if k = 4 ∧ w.kk = 4 ∧ ps.length = w.prt.length ∧ (ps.map T.st).dropLast = (w.prt.map T.st).dropLast then .mk 4 true [] c (T.joinL c ps w.prt) else T.nil
noncomputable def T.joinR (c : Bool) : List Str' → List T → T → List T
  | x :: ns, p :: ps, w => match lookT x w.nms w.prt with
    | some q => T.join c p q :: T.joinR c ns ps w
    | none => T.joinR c ns ps w
  | _, _, _ => []
noncomputable def T.joinL (c : Bool) : List T → List T → List T
  | p :: ps, q :: qs => if ps = [] then [T.join c p q] else p :: T.joinL c ps qs
  | _, _ => []
end

section
variable {c : Bool} {k k' : Int} {z z' y y' : Bool} {ns ns' : List Str'} {ps ps' : List T}
end

end Go.Zam

namespace Go.Zam
open Go.RowKit (Below)
open Go.Proofs Go.Shelf
set_option linter.all false
set_option maxRecDepth 100000
set_option maxHeartbeats 1000000

theorem join_leaf {P : Program} {ρ : Ren} (L : Lays.n156 P ρ) (X : Builder.Extra P ρ) (z : Bool) (xs : List (List UInt8)) (sep : List UInt8) (hN : xs.length ≤ 140737488355328) (hlen : (Lib.join xs sep).length ≤ 140737488355328) (H : Hp) :
    ACall P (ρ.f 156) [.d (.sl z 1 (xs.map Go.Zam.encStr)), .d (.str sep)] H (fun r H' => r = .d (.str (Lib.join xs sep)) ∧ H' = H) := by
  refine leaf (args := [.sl z 1 (xs.map Go.Zam.encStr), .str sep]) (fun w σ vs hσ hl hv => ?_) H
  obtain ⟨v1, v2, rfl⟩ : ∃ v1 v2, vs = [v1, v2] := by
    match vs, hl with
    | [a, b], _ => exact ⟨a, b, rfl⟩
  have h1 := hv 0 v1 _ rfl rfl
  have h2 := (hv 1 v2 _ rfl rfl).str_inv
  subst h2
  have hmap : (xs.map fun l => (⟨l.toArray⟩ : ByteArray)).map (·.data.toList) = xs := by
    rw [List.map_map]
    conv => rhs; rw [← List.map_id xs]
    exact List.map_congr_left fun l _ => by simp
  have none : ∀ (a : Option Addr) (c : Nat), xs = [] → Calls P (ρ.f 156) #[.slice a 0 c, .string ⟨sep.toArray⟩] w fun e w' => ∃ v, e = .returned v ∧ Below w.heap.size w w' ∧ ∀ σ, DR σ v (.str (Lib.join xs sep)) := fun a c e => by
    refine (Any.strings_Join_none L X a c ⟨sep.toArray⟩ w).mono ?_
    rintro e' w' ⟨rfl, rfl⟩
    refine ⟨_, rfl, Below.refl _ _, fun σ => ?_⟩
    subst e
    exact DR.strOf []
  rcases h1.sl_inv with ⟨rfl, -, hx⟩ | ⟨a, cap, rfl, -, hx⟩ | ⟨b, o, cap, f, rfl, -, hcap, -, hc, hd⟩
  · exact none _ _ (by simpa using hx)
  · exact none _ _ (by simpa using hx)
  by_cases e : xs = []
  · subst e
    exact none _ _ rfl
  have hcell : ∀ (j : Nat) x, (xs.map fun l => (⟨l.toArray⟩ : ByteArray))[j]? = some x → w.cell? ⟨b, o + j, .none⟩ = some (.string x) := fun j x hj => by
    rw [List.getElem?_map, Option.map_eq_some_iff] at hj
    obtain ⟨l, hl, rfl⟩ := hj
    have hr : (xs.map Go.Zam.encStr)[j]? = some [.str l] := by simp [hl, Go.Zam.encStr]
    have a1 := hσ _ _ _ (hc j 0 _ _ hr rfl)
    have a2 := (hd j 0 _ _ hr rfl).str_inv
    rw [a2] at a1
    simpa using a1
  have hb : b < w.heap.size := by
    obtain ⟨l, hl⟩ : ∃ l, xs[0]? = some l := by
      cases xs with
      | nil => exact absurd rfl e
      | cons l r => exact ⟨l, rfl⟩
    exact World.block_lt_of_cell? w ⟨b, o + 0, .none⟩ (hcell 0 _ (by rw [List.getElem?_map, hl]; rfl))
  have := Any.strings_Join L X b o cap (xs.map fun l => (⟨l.toArray⟩ : ByteArray)) ⟨sep.toArray⟩ w hcell hb (by simpa using hN) (by simpa using hcap) (by rw [hmap]; simpa using hlen)
  simp only [List.length_map] at this
  rw [hmap] at this
  simp only [List.length_map]
  refine this.mono ?_
  rintro e' w' ⟨rfl, hw⟩
  refine ⟨_, rfl, hw, fun σ => ?_⟩
  simpa using DR.strOf (σ := σ) (Lib.join xs sep)
end Go.Zam

namespace Go.Zam
set_option linter.all false
set_option maxRecDepth 100000

/-- a row of texts with the texts of labels ahead -/
def labs (ns ts : List Bs) : List Bs := List.zipWith (fun n t => n ++ [58, 32] ++ t) ns ts

mutual
/-- a type's text -/
def T.txt : T → Bs
  | .mk k z ns y ps => if k = 1 then [105, 110, 116] else if k = 2 then [115, 116, 114] else if k = 3 then [123] ++ Lib.join (labs ns (T.txts ps)) [44, 32] ++ [125]
      else if k = 4 ∧ ps ≠ [] then [102, 110, 40] ++ Lib.join (T.txts ps).dropLast [44, 32] ++ [41, 58, 32] ++ (T.txts ps).getLastD [] else [100, 121, 110]
def T.txts : List T → List Bs
  | [] => []
  | p :: r => T.txt p :: T.txts r
end
theorem T.txts_map : ∀ l : List T, T.txts l = l.map T.txt
  | [] => rfl
  | p :: r => by rw [T.txts, T.txts_map r]; rfl
theorem T.txt_mk (k : Int) (z : Bool) (ns : List Str') (y : Bool) (ps : List T) : T.txt (.mk k z ns y ps) = if k = 1 then [105, 110, 116] else if k = 2 then [115, 116, 114] else if k = 3 then [123] ++ Lib.join (labs ns (ps.map T.txt)) [44, 32] ++ [125]
      else if k = 4 ∧ ps ≠ [] then [102, 110, 40] ++ Lib.join (ps.map T.txt).dropLast [44, 32] ++ [41, 58, 32] ++ (ps.map T.txt).getLastD [] else [100, 121, 110] := by rw [T.txt, T.txts_map]

mutual
/-- a bound on a type's text -/
def T.wt : T → Nat
  | .mk _ _ ns _ ps => 16 + (ns.map fun n => n.length + 4).sum + T.wts ps
def T.wts : List T → Nat
  | [] => 0
  | p :: r => T.wt p + 4 + T.wts r
end
theorem T.wt_mk (k : Int) (z : Bool) (ns : List Str') (y : Bool) (ps : List T) : T.wt (.mk k z ns y ps) = 16 + (ns.map fun n => n.length + 4).sum + T.wts ps := by rw [T.wt]
theorem T.wts_mem : ∀ {l : List T} {p : T}, p ∈ l → p.wt + 4 ≤ T.wts l
  | [], _, h => by simp at h
  | x :: r, p, h => by
    rw [T.wts]
    rcases List.mem_cons.1 h with rfl | h
    · omega
    · have := T.wts_mem h; omega

theorem join_len (xs : List Bs) (sep : Bs) : (Lib.join xs sep).length ≤ (xs.map fun x => x.length + sep.length).sum := by
  cases xs with
  | nil => simp [Lib.join_nil]
  | cons x r =>
    rw [Lib.join_cons, List.length_append, Lib.joinTail_length, List.map_cons, List.sum_cons]
    have : ∀ r : List Bs, sep.length * r.length + Lib.lens r ≤ (r.map fun x => x.length + sep.length).sum := fun r => by
      induction r with
      | nil => simp [Lib.lens]
      | cons y r ih =>
        simp only [Lib.lens, List.map_cons, List.sum_cons, List.length_cons, Nat.mul_add] at ih ⊢
        omega
    have := this r
    omega
theorem labs_sum : ∀ (ns : List Str') (ts : List Bs), ((labs ns ts).map fun x => x.length + 2).sum ≤ (ns.map fun n => n.length + 4).sum + (ts.map fun t => t.length).sum
  | [], _ => by simp [labs]
  | _ :: _, [] => by simp [labs]
  | n :: ns, t :: ts => by
    have := labs_sum ns ts
    simp only [labs] at this
    simp only [labs, List.zipWith_cons_cons, List.map_cons, List.sum_cons, List.length_append, List.length_cons, List.length_nil]
    omega
theorem sum_txt : ∀ {l : List T}, (∀ p ∈ l, p.txt.length ≤ p.wt) → (l.map fun p => p.txt.length + 4).sum ≤ T.wts l
  | [], _ => by simp [T.wts]
  | p :: r, h => by
    have h1 := h p (by simp)
    have := sum_txt (l := r) fun q hq => h q (by simp [hq])
    simp only [List.map_cons, List.sum_cons, T.wts]
    omega
theorem sum_le {α : Type} {f g : α → Nat} : ∀ {l : List α}, (∀ x ∈ l, f x ≤ g x) → (l.map f).sum ≤ (l.map g).sum
  | [], _ => by simp
  | x :: r, h => by
    have h1 := h x (by simp)
    have := sum_le (l := r) fun y hy => h y (by simp [hy])
    simp only [List.map_cons, List.sum_cons]
    omega

theorem T.txt_len (v : T) : v.txt.length ≤ v.wt := by
  induction v using T.ind with
  | h k z ns y ps ih =>
  rw [T.txt_mk, T.wt_mk]
  have hs := sum_txt ih
  split
  · simp; omega
  split
  · simp; omega
  split
  · have h1 : (Lib.join (labs ns (ps.map T.txt)) [44, 32]).length ≤ ((labs ns (ps.map T.txt)).map fun x => x.length + 2).sum := join_len _ _
    have h2 := labs_sum ns (ps.map T.txt)
    have h3 : ((ps.map T.txt).map fun t => t.length).sum ≤ (ps.map fun p => p.txt.length + 4).sum := by
      rw [List.map_map]
      exact sum_le fun p _ => by simp
    simp only [List.length_append, List.length_cons, List.length_nil] at h1 ⊢
    omega
  split
  · rename_i h
    obtain ⟨l, p, rfl⟩ : ∃ l p, ps = l ++ [p] := ⟨ps.dropLast, ps.getLast h.2, (List.dropLast_concat_getLast h.2).symm⟩
    have h1 : (Lib.join (l.map T.txt) [44, 32]).length ≤ ((l.map T.txt).map fun x => x.length + 2).sum := join_len _ _
    have h3 : ((l.map T.txt).map fun t => t.length + 2).sum ≤ (l.map fun p => p.txt.length + 4).sum := by
      rw [List.map_map]
      exact sum_le fun p _ => by simp
    have e1 : ((l ++ [p]).map T.txt).dropLast = l.map T.txt := by simp
    have e2 : ((l ++ [p]).map T.txt).getLastD [] = p.txt := by simp
    rw [e1, e2]
    simp only [List.map_append, List.sum_append, List.map_cons, List.map_nil, List.sum_cons, List.sum_nil] at hs
    simp only [List.length_append, List.length_cons, List.length_nil] at h1 ⊢
    omega
  · simp; omega

theorem T.wt_part {k : Int} {z : Bool} {ns : List Str'} {y : Bool} {ps : List T} {p : T} (h : p ∈ ps) : p.wt ≤ (T.mk k z ns y ps).wt := by
  rw [T.wt_mk]; have := T.wts_mem h; omega

theorem T.wt_bulk (v : T) : v.wt + 4 ≤ 16 * D.bulkC v.enc := by
  induction v using T.ind with
  | h k z ns y ps ih =>
  rw [T.wt_mk, T.enc_mk]
  have h1 : ∀ ns : List Str', (ns.map fun n => n.length + 4).sum ≤ 16 * D.bulkR (ns.map encStr) := fun ns => by
    induction ns with
    | nil => simp [D.bulkR]
    | cons n ns ih =>
      simp only [List.map_cons, List.sum_cons, D.bulkR, encStr, D.bulkC, D.bulk] at ih ⊢
      omega
  have h2 : ∀ l : List T, (∀ p ∈ l, p.wt + 4 ≤ 16 * D.bulkC p.enc) → T.wts l ≤ 16 * D.bulkR (l.map T.enc) := fun l h => by
    induction l with
    | nil => simp [D.bulkR, T.wts]
    | cons p r ihr =>
      have a := h p (by simp)
      have b := ihr fun q hq => h q (by simp [hq])
      simp only [List.map_cons, D.bulkR, T.wts] at b ⊢
      omega
  have h1 := h1 ns
  have h2 := h2 ps ih
  simp only [D.bulkC, D.bulk]
  omega
end Go.Zam

namespace Go.Zam
set_option linter.all false
set_option maxRecDepth 100000
set_option maxHeartbeats 4000000
open Classical

/-- what is asked of a function that tells a type's text -/
def TextT (P : Program) (f : FuncId) (v : T) : Prop := ∀ (H : Hp), ACall P f [v.a] H (fun r H' => r = .d (.str v.txt) ∧ H' = H)

/-- what is asked of strings.Join -/
def JoinS (P : Program) (f : FuncId) : Prop := ∀ (z : Bool) (xs : List Bs) (sep : Bs), xs.length ≤ 140737488355328 → (Lib.join xs sep).length ≤ 140737488355328 → ∀ H, ACall P f [.d (.sl z 1 (xs.map encStr)), .d (.str sep)] H (fun r H' => r = .d (.str (Lib.join xs sep)) ∧ H' = H)

theorem labs_len (ns ts : List Bs) : (labs ns ts).length = min ns.length ts.length := by simp [labs]
theorem labs_get {ns ts : List Bs} {i : Nat} (h : i < ns.length) (h' : i < ts.length) : (labs ns ts)[i]? = some (ns[i] ++ [58, 32] ++ ts[i]) := by
  simp [labs, List.getElem?_zipWith, h, h']

section
variable {P : Program} {t tS : TypeId}

theorem HasT.tyText {f fj : FuncId} (h : HasT P [3, 6] f (irTyText f fj t tS)) (hJ : JoinS P fj) (v : T) : v.Fit 1048576 → v.wt ≤ 1099511627776 → TextT P f v := by
  induction v using T.ind with
  | h k z ns y ps ih =>
  intro hv hw H
  have hwp : ∀ p ∈ ps, p.wt ≤ 1099511627776 := fun p hp => Nat.le_trans (T.wt_part hp) hw
  have hwl : ∀ n ∈ ns, n.length ≤ 1048576 := by cases hv with | mk _ _ _ _ _ b2 b3 b4 b5 => exact b4
  have htl := T.txt_len (.mk k z ns y ps)
  obtain ⟨Q, hQ⟩ : ∃ Q : A → Hp → Prop, Q = fun r H' => r = .d (.str (T.txt (.mk k z ns y ps))) ∧ H' = H := ⟨_, rfl⟩
  rw [← hQ]
  have hfin : Q (.d (.str (T.txt (.mk k z ns y ps)))) H := by subst hQ; exact ⟨rfl, rfl⟩
  clear hQ
  have hpl : ∀ p ∈ ps, p.txt.length ≤ 1099511627776 := fun p hp => Nat.le_trans (T.txt_len p) (hwp p hp)
  have h0 := h
  obtain ⟨fn, hf, hcf⟩ := h
  refine acall_fin hf hcf (by simp [irTyText]) fun hcl _ => ?_
  cases hv with | mk _ _ _ _ _ b2 b3 b4 b5 =>
  rw [T.txt_mk] at htl hfin
  rw [T.a_mk]
  by_cases k1 : k = 1
  · rw [if_pos k1] at hfin
    simp [irTyText, k1]
    simp [RetK, cut_app hcl]
    exact hfin
  by_cases k2 : k = 2
  · rw [if_neg k1, if_pos k2] at hfin
    simp [irTyText, k2]
    simp [RetK, cut_app hcl]
    exact hfin
  rw [if_neg k1, if_neg k2] at htl hfin
  by_cases k3 : k = 3
  · subst k3
    rw [if_pos rfl] at htl hfin
    have hlab : (labs ns (ps.map T.txt)).length ≤ 1048576 := by rw [labs_len]; omega
    have hjl : (Lib.join (labs ns (ps.map T.txt)) [44, 32]).length + 2 ≤ 1099511627776 := by
      simp only [List.length_append, List.length_cons, List.length_nil] at htl; omega
    simp [irTyText]
    refine RangeK_of (H.length + 2) ns.length (fun i fr H' => fr 1 = .ptr H.length 0 ∧ fr 19 = .d (.sl z 1 (ns.map encStr)) ∧ fr 3 = .osl true 1 (((labs ns (ps.map T.txt)).take i).map encStr) (H.length + 1) ∧
      H' = H ++ [.box t [.d (.int .i64 3), .d (.sl z 1 (ns.map encStr)), .d (.sl y 3 (ps.map T.enc))], .tok ((labs ns (ps.map T.txt)).take i).length 1 tS]) (by omega) (by decide) (by simp) (by simp) ?_ ?_ ?_
    · simp [cut_appk hcl, A.lo]
    · rintro i fr H' hi f21 f20 ⟨f1, f19, f3, rfl⟩
      have ra := rowAt_map encStr hi
      simp only [encStr] at ra
      by_cases hip : i < ps.length
      case neg =>
        have hin : ¬ (i : Int) < (ps.length : Int) := by omega
        have e : (labs ns (ps.map T.txt)).take (i + 1) = (labs ns (ps.map T.txt)).take i := by
          rw [List.take_of_length_le (by rw [labs_len]; simp; omega), List.take_of_length_le (by rw [labs_len]; simp; omega)]
        simp [f21, f19, ra, f1, hin, hip]
        refine NextK_of (H.length + 2) (Nat.le_refl _) (by simp [f21, f20]) ?_
        rw [e]
        simp [f1, f3, f19, cut_appk hcl, A.lo]
      have hin : (i : Int) < (ps.length : Int) := by omega
      have rb := rowAt_map T.enc hip
      have hg := labs_get (ns := ns) (ts := ps.map T.txt) hi (by simpa using hip)
      simp only [List.getElem_map] at hg
      have hil : i < (labs ns (ps.map T.txt)).length := by rw [labs_len]; simp; omega
      have tk : (labs ns (ps.map T.txt)).take (i + 1) = (labs ns (ps.map T.txt)).take i ++ [ns[i] ++ [58, 32] ++ ps[i].txt] := by
        rw [List.take_succ_eq_append_getElem hil]
        congr 2
        exact Option.some.inj ((List.getElem?_eq_getElem hil).symm.trans hg)
      have hx := ih ps[i] (List.getElem_mem hip) (b5 _ (List.getElem_mem hip)) (hwp _ (List.getElem_mem hip))
      have hl1 := hwl _ (List.getElem_mem hi)
      have hl2 := hpl _ (List.getElem_mem hip)
      have hc1 : (((labs ns (ps.map T.txt)).take i).length + 1) * 16 ≤ 140737488355328 := by
        rw [List.length_take]; omega
      generalize (labs ns (ps.map T.txt)).take i = L at *
      generalize ns[i] = x at *
      generalize ps[i] = p at *
      unfold TextT at hx
      generalize p.txt = px at *
      obtain ⟨k4, z4, n4, y4, p4⟩ := p
      simp only [T.a_mk] at hx
      rw [T.enc_mk] at rb
      have a1 : strOp .add x [58, 32] = some (.str (x ++ [58, 32])) := strOp_add' (by simp; omega)
      have a2 : strOp .add (x ++ [58, 32]) px = some (.str (x ++ [58, 32] ++ px)) := strOp_add' (by simp; omega)
      simp [f21, f19, ra, f1, hin, hip, rb, f3, a1, -strOp]
      refine CallK_of' (hx _) ?_
      simp [a1, a2, -strOp, f3]
      simp [appA, hc1]
      refine NextK_of (H.length + 2) (Nat.le_refl _) (by simp [f21, f20]) ?_
      rw [tk]
      simp [f1, f19, cut_appk hcl, A.lo, encStr]
    · rintro fr H' f21 f20 ⟨f1, f19, f3, rfl⟩
      have tk : (labs ns (ps.map T.txt)).take ns.length = labs ns (ps.map T.txt) := List.take_of_length_le (by rw [labs_len]; omega)
      rw [tk] at f3 ⊢
      have hx := hJ true (labs ns (ps.map T.txt)) [44, 32] (by omega) (by omega)
      generalize Lib.join (labs ns (ps.map T.txt)) [44, 32] = J at *
      generalize labs ns (ps.map T.txt) = L at *
      have a1 : strOp .add [123] J = some (.str ([123] ++ J)) := strOp_add' (by simp; omega)
      have a2 : strOp .add ([123] ++ J) [125] = some (.str ([123] ++ J ++ [125])) := strOp_add' (by simp; omega)
      simp [f3]
      refine CallK_of' (ACall.osl1 (hx _)) ?_
      simp only [List.cons_append, List.nil_append] at a1 a2
      simp [a1, a2, -strOp]
      simp [RetK, cut_app hcl]
      simpa using hfin
  rw [if_neg k3] at htl hfin
  by_cases k4 : k = 4
  case neg =>
    rw [if_neg (fun e => k4 e.1)] at hfin
    simp [irTyText, k1, k2, k3, k4]
    simp [RetK, cut_app hcl]
    exact hfin
  subst k4
  simp [irTyText]
  refine RangeK_of (H.length + 2) ps.length (fun i fr H' => fr 1 = .ptr H.length 0 ∧ fr 51 = .d (.sl y 3 (ps.map T.enc)) ∧ fr 6 = .osl true 1 (((ps.map T.txt).take i).map encStr) (H.length + 1) ∧
    H' = H ++ [.box t [.d (.int .i64 4), .d (.sl z 1 (ns.map encStr)), .d (.sl y 3 (ps.map T.enc))], .tok ((ps.map T.txt).take i).length 1 tS]) (by omega) (by decide) (by simp) (by simp) ?_ ?_ ?_
  · simp [cut_appk hcl, A.lo]
  · rintro i fr H' hi f53 f52 ⟨f1, f51, f6, rfl⟩
    have rb := rowAt_map T.enc hi
    have tk := take_map_succ T.txt hi
    have hx := ih ps[i] (List.getElem_mem hi) (b5 _ (List.getElem_mem hi)) (hwp _ (List.getElem_mem hi))
    have hc1 : (((ps.map T.txt).take i).length + 1) * 16 ≤ 140737488355328 := by
      rw [List.length_take]; simp; omega
    generalize (ps.map T.txt).take i = L at *
    generalize ps[i] = p at *
    unfold TextT at hx
    generalize p.txt = px at *
    obtain ⟨k4, z4, n4, y4, p4⟩ := p
    simp only [T.a_mk] at hx
    rw [T.enc_mk] at rb
    simp [f53, f51, rb, f6]
    refine CallK_of' (hx _) ?_
    simp [f6, appA, hc1]
    refine NextK_of (H.length + 2) (Nat.le_refl _) (by simp [f53, f52]) ?_
    rw [tk]
    simp [f1, f51, cut_appk hcl, A.lo, encStr]
  · rintro fr H' f53 f52 ⟨f1, f51, f6, rfl⟩
    rw [List.take_of_length_le (by simp)] at f6 ⊢
    by_cases hp : ps = []
    · subst hp
      rw [if_neg (fun e => e.2 rfl)] at hfin
      simp [f6]
      simp [RetK, cut_app hcl]
      exact hfin
    rw [if_pos (show (4 : Int) = 4 ∧ ps ≠ [] from ⟨rfl, hp⟩)] at htl hfin
    obtain ⟨l, p, rfl⟩ : ∃ l p, ps = l ++ [p] := ⟨ps.dropLast, ps.getLast hp, (List.dropLast_concat_getLast hp).symm⟩
    have e1 : ((l ++ [p]).map T.txt).dropLast = l.map T.txt := by simp
    have e2 : ((l ++ [p]).map T.txt).getLastD [] = p.txt := by simp
    rw [e1, e2] at htl hfin
    have hb3 : l.length + 1 ≤ 1048576 := by simpa using b3
    have hx := hJ false (l.map T.txt) [44, 32] (by simp; omega) (by simp only [List.length_append, List.length_cons, List.length_nil] at htl; omega)
    have hpx := hpl p (by simp)
    have hjl : (Lib.join (l.map T.txt) [44, 32]).length ≤ 1099511627776 := by simp only [List.length_append, List.length_cons, List.length_nil] at htl; omega
    have hw1 : IntKind.i64.wrap (l.length : Int) = (l.length : Int) := wrap_i64 (by omega) (by omega)
    have hn0 : ¬ (l.length : Int) + 1 = 0 := by omega
    simp only [List.map_append, List.map_cons, List.map_nil] at f6 ⊢
    have s1 : subL (l.map (encStr ∘ T.txt) ++ [encStr p.txt]) 0 (l.length : Int) = some (l.map (encStr ∘ T.txt)) := by
      rw [subL_ok (by simp; omega)]
      simp
    have s2 : (l.map (encStr ∘ T.txt) ++ [encStr p.txt]).isEmpty = false := by simp
    have s3 : Zam.rowAt (l.map (encStr ∘ T.txt) ++ [encStr p.txt]) (l.length : Int) = some (encStr p.txt) := by
      have h1 : l.length < (l ++ [p]).length := by simp
      have := rowAt_map (encStr ∘ T.txt) h1
      simpa using this
    have hmm : (l.map T.txt).map encStr = l.map (encStr ∘ T.txt) := List.map_map
    rw [hmm] at hx
    generalize Lib.join (l.map T.txt) [44, 32] = J at *
    generalize p.txt = px at *
    have a1 : strOp .add [102, 110, 40] J = some (.str ([102, 110, 40] ++ J)) := strOp_add' (by simp; omega)
    have a2 : strOp .add ([102, 110, 40] ++ J) [41, 58, 32] = some (.str ([102, 110, 40] ++ J ++ [41, 58, 32])) := strOp_add' (by simp; omega)
    have a3 : strOp .add ([102, 110, 40] ++ J ++ [41, 58, 32]) px = some (.str ([102, 110, 40] ++ J ++ [41, 58, 32] ++ px)) := strOp_add' (by simp; omega)
    simp only [encStr] at s1 s2 s3
    simp [f6, hw1, hn0, encStr, s1, s2, s3]
    refine CallD_of (hx _) ?_
    simp only [List.cons_append, List.nil_append, List.append_assoc] at a1 a2 a3
    simp [f6, a1, a2, a3, -strOp, encStr, s1, s2, s3]
    simp [RetK, cut_app hcl]
    simpa using hfin
end
end Go.Zam

namespace Go.Zam
set_option linter.all false
set_option maxRecDepth 100000
set_option maxHeartbeats 4000000
open Classical

theorem join_succ {L : List Bs} {sep : Bs} {i : Nat} (h : i < L.length) : Lib.join (L.take (i + 1)) sep = if 0 < i then Lib.join (L.take i) sep ++ sep ++ L[i] else L[i] := by
  rw [List.take_succ_eq_append_getElem h]
  by_cases hi : 0 < i
  · rw [if_pos hi]
    obtain ⟨a, r, e⟩ : ∃ a r, L.take i = a :: r := by
      cases hL : L.take i with
      | nil => have := congrArg List.length hL; rw [List.length_take, List.length_nil] at this; omega
      | cons a r => exact ⟨a, r, rfl⟩
    rw [e, List.cons_append, Lib.join_cons, Lib.join_cons]
    simp [Lib.joinTail, List.append_assoc]
  · have : i = 0 := by omega
    subst this
    simp [Lib.join_one]
theorem sum_take_le : ∀ {l : List Nat} {i : Nat}, (l.take i).sum ≤ l.sum
  | [], i => by simp
  | x :: l, 0 => by simp
  | x :: l, i + 1 => by
    have := @sum_take_le l i
    simp only [List.take_succ_cons, List.sum_cons]; omega
theorem join_take_le {L : List Bs} {i B : Nat} (hB : (L.map fun x => x.length + 2).sum ≤ B) : (Lib.join (L.take i) [44, 32]).length ≤ B := by
  have h1 : (Lib.join (L.take i) [44, 32]).length ≤ ((L.take i).map fun x => x.length + 2).sum := join_len _ _
  rw [List.map_take] at h1
  have := @sum_take_le (L.map fun x => x.length + 2) i
  omega

section
variable {P : Program} {t : Nat}

theorem Has.rText {f : FuncId} (h : Has P f (irRText f t)) (v : T) : v.Fit 1048576 → v.wt ≤ 1099511627776 → v.st.Rt → TextT P f v := by
  induction v using T.ind with
  | h k z ns y ps ih =>
  intro hv hw rv H
  have hwp : ∀ p ∈ ps, p.wt ≤ 1099511627776 := fun p hp => Nat.le_trans (T.wt_part hp) hw
  have hwl : ∀ n ∈ ns, n.length ≤ 1048576 := by cases hv with | mk _ _ _ _ _ b2 b3 b4 b5 => exact b4
  have hpl : ∀ p ∈ ps, p.txt.length ≤ 1099511627776 := fun p hp => Nat.le_trans (T.txt_len p) (hwp p hp)
  have hwt := hw
  rw [T.wt_mk] at hwt
  have hsx := sum_txt (l := ps) fun p _ => T.txt_len p
  have h0 := h
  obtain ⟨Q, hQ⟩ : ∃ Q : A → Hp → Prop, Q = fun r H' => r = .d (.str (T.txt (.mk k z ns y ps))) ∧ H' = H := ⟨_, rfl⟩
  rw [← hQ]
  have hfin : Q (.d (.str (T.txt (.mk k z ns y ps)))) H := by subst hQ; exact ⟨rfl, rfl⟩
  clear hQ
  obtain ⟨fn, hf, hcf⟩ := h
  refine acall_fin hf hcf (by simp [irRText]) fun hcl _ => ?_
  cases hv with | mk _ _ _ _ _ b2 b3 b4 b5 =>
  rw [T.st_mk] at rv
  obtain ⟨⟨r1, r1'⟩, r2, r3, r4, -, -, r7⟩ := Ty.rt_iff.1 rv
  have hpr : ∀ p ∈ ps, p.st.Rt := fun p hp => r7 _ (List.mem_map.2 ⟨p, hp, rfl⟩)
  rw [T.txt_mk] at hfin
  rw [T.a_mk]
  have q0 : Zam.rowAt [[D.str [100, 121, 110]], [D.str [105, 110, 116]], [D.str [115, 116, 114]]] 0 = some [D.str [100, 121, 110]] := rfl
  have q1 : Zam.rowAt [[D.str [100, 121, 110]], [D.str [105, 110, 116]], [D.str [115, 116, 114]]] 1 = some [D.str [105, 110, 116]] := rfl
  have q2 : Zam.rowAt [[D.str [100, 121, 110]], [D.str [105, 110, 116]], [D.str [115, 116, 114]]] 2 = some [D.str [115, 116, 114]] := rfl
  by_cases k0 : k = 0
  · subst k0
    simp [irRText, q0]
    simp [RetK, cut_app hcl]
    simpa using hfin
  by_cases k1 : k = 1
  · subst k1
    simp [irRText, q1]
    simp [RetK, cut_app hcl]
    simpa using hfin
  by_cases k2 : k = 2
  · subst k2
    simp [irRText, q2]
    simp [RetK, cut_app hcl]
    simpa using hfin
  rw [if_neg k1, if_neg k2] at hfin
  by_cases k3 : k = 3
  · subst k3
    rw [if_pos rfl] at hfin
    have hlen : ns.length = ps.length := by simpa using r3 rfl
    have hB : ((labs ns (ps.map T.txt)).map fun x => x.length + 2).sum ≤ 1099511627776 := by
      have h2 := labs_sum ns (ps.map T.txt)
      have h3 : ((ps.map T.txt).map fun t => t.length).sum ≤ (ps.map fun p => p.txt.length + 4).sum := by
        rw [List.map_map]
        exact sum_le fun p _ => by simp
      omega
    have hll : (labs ns (ps.map T.txt)).length = ps.length := by rw [labs_len]; simp; omega
    simp [irRText]
    refine ForK_of (H.length + 1) ps.length (fun i fr H' => fr 1 = .ptr H.length 0 ∧ fr 3 = .d (.str ([123] ++ Lib.join ((labs ns (ps.map T.txt)).take i) [44, 32])) ∧ H' = H ++ [.box t [.d (.int .i64 3), .d (.sl z 1 (ns.map encStr)), .d (.sl y 3 (ps.map T.enc))]]) (by omega) (by decide) (by simp) (by simp) ?_ ?_
    · simp [cut_appk hcl, Lib.join_nil]
    rintro i fr H' hi f4 ⟨f1, f3, rfl⟩
    simp [f4, f1]
    refine BrK_split (fun h => ?_) (fun h => ?_)
    case refine_2 =>
      have hii : i = ps.length := by have : ¬ i < ps.length := by simpa using h
                                     omega
      rw [hii, List.take_of_length_le (by omega)] at f3
      have hj := join_take_le (i := ps.length) hB
      rw [List.take_of_length_le (by omega)] at hj
      generalize Lib.join (labs ns (ps.map T.txt)) [44, 32] = J at *
      have a1 : strOp .add ([123] ++ J) [125] = some (.str ([123] ++ J ++ [125])) := strOp_add' (by simp; omega)
      simp only [List.cons_append, List.nil_append] at a1 f3 hfin
      simp [f3, a1, -strOp]
      simp [RetK, cut_app hcl]
      simpa using hfin
    have hlt : i < ps.length := by simpa using h
    have hin : i < ns.length := by omega
    have ra := rowAt_map encStr hin
    have rb := rowAt_map T.enc hlt
    have hg := labs_get (ns := ns) (ts := ps.map T.txt) hin (by simpa using hlt)
    simp only [List.getElem_map] at hg
    have hil : i < (labs ns (ps.map T.txt)).length := by omega
    have hjs := join_succ (sep := [44, 32]) hil
    have hge : (labs ns (ps.map T.txt))[i] = ns[i] ++ [58, 32] ++ ps[i].txt := Option.some.inj ((List.getElem?_eq_getElem hil).symm.trans hg)
    rw [hge] at hjs
    have hjl := join_take_le (i := i) hB
    have hx := ih ps[i] (List.getElem_mem hlt) (b5 _ (List.getElem_mem hlt)) (hwp _ (List.getElem_mem hlt)) (hpr _ (List.getElem_mem hlt))
    have hl1 := hwl _ (List.getElem_mem hin)
    have hl2 := hpl _ (List.getElem_mem hlt)
    generalize hJ0 : Lib.join ((labs ns (ps.map T.txt)).take i) [44, 32] = J at *
    generalize ns[i] = x at *
    generalize ps[i] = p at *
    unfold TextT at hx
    generalize p.txt = px at *
    obtain ⟨k4, z4, n4, y4, p4⟩ := p
    simp only [T.a_mk] at hx
    rw [T.enc_mk] at rb
    simp only [encStr] at ra
    by_cases hp : 0 < i
    · rw [if_pos hp] at hjs
      have a1 : strOp .add ([123] ++ J) [44, 32] = some (.str ([123] ++ J ++ [44, 32])) := strOp_add' (by simp; omega)
      have a2 : strOp .add ([123] ++ J ++ [44, 32]) x = some (.str ([123] ++ J ++ [44, 32] ++ x)) := strOp_add' (by simp; omega)
      have a3 : strOp .add ([123] ++ J ++ [44, 32] ++ x) [58, 32] = some (.str ([123] ++ J ++ [44, 32] ++ x ++ [58, 32])) := strOp_add' (by simp; omega)
      have a4 : strOp .add ([123] ++ J ++ [44, 32] ++ x ++ [58, 32]) px = some (.str ([123] ++ J ++ [44, 32] ++ x ++ [58, 32] ++ px)) := strOp_add' (by simp; omega)
      simp only [List.cons_append, List.nil_append, List.append_assoc] at a1 a2 a3 a4 f3
      simp [f4, hp, f3, a1, a2, a3, f1, ra, rb, -strOp]
      refine CallD_of (hx _) ?_
      simp [a4, -strOp]
      refine NextF_of (H.length + 1) (Nat.le_refl _) hlt (by simp [f4]) ?_
      rw [hjs]
      simp [f1, cut_appk hcl]
    · rw [if_neg hp] at hjs
      have hz : i = 0 := by omega
      have hJ : J = [] := by
        have : ∀ (L : List Bs), Lib.join (L.take i) [44, 32] = [] := fun L => by rw [hz]; simp [Lib.join_nil]
        exact hJ0 ▸ this _
      subst hJ
      have a2 : strOp .add [123] x = some (.str ([123] ++ x)) := strOp_add' (by simp; omega)
      have a3 : strOp .add ([123] ++ x) [58, 32] = some (.str ([123] ++ x ++ [58, 32])) := strOp_add' (by simp; omega)
      have a4 : strOp .add ([123] ++ x ++ [58, 32]) px = some (.str ([123] ++ x ++ [58, 32] ++ px)) := strOp_add' (by simp; omega)
      simp only [List.cons_append, List.nil_append, List.append_assoc, List.append_nil] at a2 a3 a4 f3
      simp [f4, hp, f3, a2, a3, f1, ra, rb, -strOp]
      refine CallD_of (hx _) ?_
      simp [a4, -strOp]
      refine NextF_of (H.length + 1) (Nat.le_refl _) hlt (by simp [f4]) ?_
      rw [hjs]
      simp [f1, cut_appk hcl]
  have k4 : k = 4 := by omega
  subst k4
  have hpne : ps ≠ [] := by simpa using (r4 rfl).2
  rw [if_neg k3, if_pos (show (4 : Int) = 4 ∧ ps ≠ [] from ⟨rfl, hpne⟩)] at hfin
  obtain ⟨l, p, rfl⟩ : ∃ l p, ps = l ++ [p] := ⟨ps.dropLast, ps.getLast hpne, (List.dropLast_concat_getLast hpne).symm⟩
  have e1 : ((l ++ [p]).map T.txt).dropLast = l.map T.txt := by simp
  have e2 : ((l ++ [p]).map T.txt).getLastD [] = p.txt := by simp
  rw [e1, e2] at hfin
  have hb3 : l.length + 1 ≤ 1048576 := by simpa using b3
  have hpx := hpl p (by simp)
  have hB : ((l.map T.txt).map fun x => x.length + 2).sum ≤ 1099511627776 := by
    have h3 : ((l.map T.txt).map fun t => t.length + 2).sum ≤ (l.map fun p => p.txt.length + 4).sum := by
      rw [List.map_map]
      exact sum_le fun p _ => by simp
    simp only [List.map_append, List.sum_append] at hsx
    omega
  have hw1 : IntKind.i64.wrap (l.length : Int) = (l.length : Int) := wrap_i64 (by omega) (by omega)
  have hel : ∀ (i : Nat) (hi : i < l.length), Zam.rowAt (l.map T.enc ++ [p.enc]) (i : Int) = some l[i].enc := fun i hi => by
    have hi1 : i < (l ++ [p]).length := by simp; omega
    have := rowAt_map T.enc hi1
    have e1 : (l ++ [p])[i] = l[i] := List.getElem_append_left hi
    rw [e1] at this
    simpa using this
  have hlast : Zam.rowAt (l.map T.enc ++ [p.enc]) (l.length : Int) = some p.enc := by
    have hi1 : l.length < (l ++ [p]).length := by simp
    have := rowAt_map T.enc hi1
    simpa using this
  simp [irRText, hw1]
  refine ForK_of (H.length + 1) l.length (fun i fr H' => fr 1 = .ptr H.length 0 ∧ fr 6 = .d (.int .i64 l.length) ∧ fr 5 = .d (.str ([102, 110, 40] ++ Lib.join ((l.map T.txt).take i) [44, 32])) ∧ H' = H ++ [.box t [.d (.int .i64 4), .d (.sl z 1 (ns.map encStr)), .d (.sl y 3 (l.map T.enc ++ [p.enc]))]]) (by omega) (by decide) (by simp) (by simp) ?_ ?_
  · simp [cut_appk hcl, Lib.join_nil]
  rintro i fr H' hi f7 ⟨f1, f6, f5, rfl⟩
  simp [f7, f6]
  refine BrK_split (fun h => ?_) (fun h => ?_)
  case refine_2 =>
    have hii : i = l.length := by have : ¬ i < l.length := by simpa using h
                                  omega
    rw [hii, List.take_of_length_le (by simp)] at f5
    have hj := join_take_le (i := l.length) hB
    rw [List.take_of_length_le (by simp)] at hj
    have hx := ih p (by simp) (b5 _ (by simp)) (hwp _ (by simp)) (hpr _ (by simp))
    generalize Lib.join (l.map T.txt) [44, 32] = J at *
    unfold TextT at hx
    generalize p.txt = px at *
    have a1 : strOp .add ([102, 110, 40] ++ J) [41, 58, 32] = some (.str ([102, 110, 40] ++ J ++ [41, 58, 32])) := strOp_add' (by simp; omega)
    have a2 : strOp .add ([102, 110, 40] ++ J ++ [41, 58, 32]) px = some (.str ([102, 110, 40] ++ J ++ [41, 58, 32] ++ px)) := strOp_add' (by simp; omega)
    simp only [List.cons_append, List.nil_append, List.append_assoc] at a1 a2 f5
    obtain ⟨k4, z4, n4, y4, p4⟩ := p
    simp only [T.a_mk] at hx
    rw [T.enc_mk] at hlast ⊢
    simp [f5, a1, f1, f6, hlast, -strOp]
    refine CallK_of' (hx _) ?_
    simp [a2, -strOp]
    simp [RetK, cut_app hcl]
    simpa using hfin
  have hlt : i < l.length := by simpa using h
  have rb := hel i hlt
  have hil : i < (l.map T.txt).length := by simpa using hlt
  have hjs := join_succ (sep := [44, 32]) hil
  simp only [List.getElem_map] at hjs
  have hjl := join_take_le (i := i) hB
  have hmem : l[i] ∈ l ++ [p] := by simp [List.getElem_mem]
  have hx := ih l[i] hmem (b5 _ hmem) (hwp _ hmem) (hpr _ hmem)
  have hl2 := hpl _ hmem
  generalize hJ0 : Lib.join ((l.map T.txt).take i) [44, 32] = J at *
  generalize l[i] = q at *
  unfold TextT at hx
  generalize q.txt = px at *
  obtain ⟨k4, z4, n4, y4, p4⟩ := q
  simp only [T.a_mk] at hx
  rw [T.enc_mk k4 z4 n4 y4 p4] at rb
  by_cases hp : 0 < i
  · rw [if_pos hp] at hjs
    have a1 : strOp .add ([102, 110, 40] ++ J) [44, 32] = some (.str ([102, 110, 40] ++ J ++ [44, 32])) := strOp_add' (by simp; omega)
    have a2 : strOp .add ([102, 110, 40] ++ J ++ [44, 32]) px = some (.str ([102, 110, 40] ++ J ++ [44, 32] ++ px)) := strOp_add' (by simp; omega)
    simp only [List.cons_append, List.nil_append, List.append_assoc] at a1 a2 f5
    simp [f7, hp, f5, a1, f1, rb, -strOp]
    refine CallK_of' (hx _) ?_
    simp [a2, -strOp]
    refine NextF_of (H.length + 1) (Nat.le_refl _) hlt (by simp [f7]) ?_
    rw [hjs]
    simp [f1, f6, cut_appk hcl]
  · rw [if_neg hp] at hjs
    have hz : i = 0 := by omega
    have hJ : J = [] := by
      have : ∀ (L : List Bs), Lib.join (L.take i) [44, 32] = [] := fun L => by rw [hz]; simp [Lib.join_nil]
      exact hJ0 ▸ this _
    subst hJ
    have a2 : strOp .add [102, 110, 40] px = some (.str ([102, 110, 40] ++ px)) := strOp_add' (by simp; omega)
    simp only [List.cons_append, List.nil_append, List.append_assoc, List.append_nil] at a2 f5
    simp [f7, hp, f5, f1, rb, -strOp]
    refine CallK_of' (hx _) ?_
    simp [a2, -strOp]
    refine NextF_of (H.length + 1) (Nat.le_refl _) hlt (by simp [f7]) ?_
    rw [hjs]
    simp [f1, f6, cut_appk hcl]
end
end Go.Zam

namespace Go.Zam
set_option linter.all false
set_option maxRecDepth 100000
open Classical

theorem T.dep_bulk (v : T) : v.dep ≤ D.bulkC v.enc := by
  induction v using T.ind with
  | h k z ns y ps ih =>
  rw [T.dep_mk, T.enc_mk]
  have : T.deps ps ≤ D.bulkR (ps.map T.enc) := T.deps_le.2 fun p hp => Nat.le_trans (ih p hp) (bulkR_mem (List.mem_map_of_mem (f := T.enc) hp))
  simp only [D.bulkC, D.bulk]
  omega

theorem deps_sub {l l' : List T} (h : ∀ p ∈ l, p ∈ l') : T.deps l ≤ T.deps l' := T.deps_le.2 fun p hp => T.deps_le.1 (Nat.le_refl _) p (h p hp)

end Go.Zam

namespace Go.Zam
set_option linter.all false
set_option maxRecDepth 100000
set_option maxHeartbeats 4000000
open Classical

section
variable {P : Program} {t : Nat}

theorem Has.rDepth {f : FuncId} (h : Has P f (irRDepth f t)) (v : T) : v.Fit 1048576 → v.dep ≤ 1125899906842624 → ∀ H, ACall P f [v.a] H (fun r H' => r = .d (.int .i64 (v.dep : Int)) ∧ H' = H) := by
  induction v using T.ind with
  | h k z ns y ps ih =>
  rintro (⟨_, _, _, _, _, b2, b3, b4, b5⟩) hd H
  have h0 := h
  obtain ⟨fn, hf, hcf⟩ := h
  refine acall_fin hf hcf (by simp [irRDepth]) fun hcl _ => ?_
  rw [T.a_mk, T.dep_mk]
  rw [T.dep_mk] at hd
  have hdp : ∀ p ∈ ps, p.dep ≤ T.deps ps := T.deps_le.1 (Nat.le_refl _)
  simp [irRDepth]
  refine ForK_of (H.length + 1) ps.length (fun i fr H' => fr 1 = .ptr H.length 0 ∧ fr 3 = .d (.int .i64 ((T.deps (ps.take i) : Int) + 1)) ∧ H' = H ++ [.box t [.d (.int .i64 k), .d (.sl z 1 (ns.map encStr)), .d (.sl y 3 (ps.map T.enc))]]) (by omega) (by decide) (by simp) (by simp) ?_ ?_
  · simp [T.deps, cut_appk hcl]
  rintro i fr H' hi f4 ⟨f1, f3, rfl⟩
  simp [f4, f1]
  refine BrK_split (fun h => ?_) (fun h => ?_)
  · have hlt : i < ps.length := by simpa using h
    have hr := rowAt_map T.enc hlt
    have hmem := List.getElem_mem hlt
    have hpd := hdp _ hmem
    have hx := ih ps[i] hmem (b5 _ hmem) (by omega)
    have ht := T.deps_take_succ hlt
    have htl : T.deps (ps.take i) ≤ T.deps ps := deps_sub fun p hp => List.mem_of_mem_take hp
    generalize ps[i] = p at hr hx ht hpd
    obtain ⟨k', z', ns', y', ps'⟩ := p
    generalize hdd : (T.mk k' z' ns' y' ps').dep = dd at hx ht hpd
    simp only [T.enc_mk, T.a_mk] at hr hx
    have hw : IntKind.i64.wrap ((dd : Int) + 1) = (dd : Int) + 1 := wrap_i64 (by omega) (by omega)
    simp [f4, f1, hr]
    refine CallK_of' (hx _) ?_
    by_cases hm : T.deps (ps.take i) < dd
    · simp [hw, f3, hm]
      refine NextF_of (H.length + 1) (Nat.le_refl _) hlt (by simp [f4]) ?_
      rw [ht]
      simp [f1, cut_appk hcl]
      omega
    · simp [hw, f3, hm]
      refine NextF_of (H.length + 1) (Nat.le_refl _) hlt (by simp [f4]) ?_
      rw [ht]
      simp [f1, f3, cut_appk hcl]
      omega
  · have hii : i = ps.length := by have : ¬ i < ps.length := by simpa using h
                                   omega
    rw [hii, List.take_of_length_le (Nat.le_refl _)] at f3
    simp [f3]
    simp [RetK, cut_app hcl]

theorem Has.rField {f : FuncId} (h : Has P f (irRField t)) : FieldT P f := by
  intro v hv rv x H
  obtain ⟨k, z, ns, y, ps⟩ := v
  obtain ⟨fn, hf, hcf⟩ := h
  refine acall_fin hf hcf (by simp [irRField]) fun hcl _ => ?_
  obtain ⟨Q, hQ⟩ : ∃ Q : A → Hp → Prop, Q = fun r H' => r = .tup [(((T.mk k z ns y ps).fld x).getD T.nil).a, .d (.bool ((T.mk k z ns y ps).fld x).isSome)] ∧ H' = H := ⟨_, rfl⟩
  rw [← hQ]
  have hfin : ∀ o : Option T, (T.mk k z ns y ps).fld x = o → Q (.tup [(o.getD T.nil).a, .d (.bool o.isSome)]) H := fun o ho => by subst hQ; rw [ho]; exact ⟨rfl, rfl⟩
  clear hQ
  cases hv with | mk _ _ _ _ _ b2 b3 b4 b5 =>
  rw [T.st_mk] at rv
  have hrt := Ty.rt_iff.1 rv
  rw [T.a_mk]
  simp [irRField]
  refine ForK_of (H.length + 2) ns.length (fun i fr H' => fr 1 = .d (.str x) ∧ fr 2 = .ptr H.length 0 ∧ fr 4 = .ptr (H.length + 1) 0 ∧ x ∉ ns.take i ∧ H' = H ++ [.box t [.d (.int .i64 k), .d (.sl z 1 (ns.map encStr)), .d (.sl y 3 (ps.map T.enc))], .box t [.d (.int .i64 0), .d (.sl true 1 []), .d (.sl true 3 [])]]) (by omega) (by decide) (by simp) (by simp) ?_ ?_
  · simp [cut_appk hcl]
  rintro i fr H' hi f6 ⟨f1, f2, f4, hno, rfl⟩
  by_cases hlt : i < ns.length
  case neg =>
    have hii : i = ns.length := by omega
    subst hii
    have hx : x ∉ ns := by rwa [List.take_of_length_le (Nat.le_refl _)] at hno
    have hfin := hfin none (by
      rw [T.fld]
      split
      · exact lookT_none hx
      · rfl)
    simp [f6, f2, f4]
    simp [RetK, f4, cut_app hcl]
    simpa [T.a_nil] using hfin
  have hk3 : k = 3 := by
    have hnn : ns ≠ [] := fun e => by simp [e] at hlt
    obtain ⟨⟨r1, r1'⟩, r2, -, r4, -⟩ := hrt
    by_cases k2 : k ≤ 2
    · exact absurd (r2 k2).1 hnn
    · by_cases k4 : k = 4
      · exact absurd (r4 k4).1 hnn
      · omega
  subst hk3
  have hlen : ns.length = ps.length := by simpa using rv.len rfl
  have hip : i < ps.length := by omega
  have ra := rowAt_map encStr hlt
  have rb := rowAt_map T.enc hip
  have hat := @lookT_at ns[i] ns ps i ps[i] rv.inc (List.getElem?_eq_getElem hlt) (List.getElem?_eq_getElem hip)
  have tk : ns.take (i + 1) = ns.take i ++ [ns[i]] := List.take_succ_eq_append_getElem hlt
  have hlI : (i : Int) < ns.length := by omega
  generalize ns[i] = n at *
  generalize ps[i] = p at *
  simp only [encStr] at ra
  simp [f6, f2, hlt, ra, f1]
  refine BrK_split (fun h => ?_) (fun h => ?_)
  · have hn : n = x := by simpa using h
    have hfin := hfin (some p) (by rw [T.fld, if_pos rfl, ← hn]; exact hat)
    obtain ⟨k4, z4, n4, y4, p4⟩ := p
    rw [T.enc_mk] at rb
    simp [f6, f2, f4, rb]
    simp [RetK, f4, cut_app hcl]
    simpa [T.a_mk] using hfin
  · have hn : ¬ x = n := fun e => by simp [e] at h
    simp
    refine NextF_of (H.length + 2) (Nat.le_refl _) hlt (by simp [f6]) ?_
    rw [tk]
    simp [f1, f2, f4, cut_appk hcl, hno, hn]
end
end Go.Zam

namespace Go.Zam
set_option linter.all false
set_option maxRecDepth 100000
set_option maxHeartbeats 2000000
open Classical

section
variable {P : Program} {t : Nat}

/-- slices.IndexFunc at types -/
theorem Has.tyIdxF {f g : FuncId} (h : Has P f irTyIdxF) (hk : callOk P g = true) (z : Bool) (l : List T) (hl : l.length ≤ 1048576) (Qp : T → Bool) (hG : ∀ v ∈ l, ∀ H, ACall P g [v.a] H (fun r H' => r = .d (.bool (Qp v)) ∧ H' = H)) (H : Hp) :
    ACall P f [.d (.sl z 3 (l.map T.enc)), .d (.fn g)] H (fun r H' => (∃ n : Int, r = .d (.int .i64 n) ∧ (0 ≤ n ↔ l.any Qp = true)) ∧ H' = H) := by
  obtain ⟨fn, hf, hcf⟩ := h
  refine acall_fin hf hcf (by simp [irTyIdxF]) fun hcl _ => ?_
  simp [irTyIdxF]
  refine RangeK_of H.length l.length (fun i fr H' => fr 0 = .d (.sl z 3 (l.map T.enc)) ∧ fr 1 = .d (.fn g) ∧ (l.take i).any Qp = false ∧ H' = H) (by omega) (by decide) (by simp) (by simp) ?_ ?_ ?_
  · simp [cut_self hcl]
  · rintro i fr H' hi f8 f7 ⟨f0, f1, hno, rfl⟩
    have ra := rowAt_map T.enc hi
    have hx := hG l[i] (List.getElem_mem hi)
    have hmem := List.getElem_mem hi
    have tk : l.take (i + 1) = l.take i ++ [l[i]] := List.take_succ_eq_append_getElem hi
    generalize l[i] = p at *
    generalize hq : Qp p = q at *
    obtain ⟨k1, z1, n1, y1, p1⟩ := p
    simp only [T.a_mk] at hx
    rw [T.enc_mk] at ra
    simp [f8, f0, f1, ra]
    refine ⟨hk, CallK_of' (hx _) ?_⟩
    cases q with
    | true =>
      simp
      simp [RetK, cut_self hcl]
      exact ⟨_, hmem, hq⟩
    | false =>
      simp
      refine NextK_of H'.length (Nat.le_refl _) (by simp [f8, f7]) ?_
      rw [tk, List.any_append, hno]
      simp [f0, f1, cut_self hcl, hq]
  · rintro fr H' f8 f7 ⟨f0, f1, hno, rfl⟩
    rw [List.take_of_length_le (Nat.le_refl _)] at hno
    simp
    simp [RetK, cut_self hcl]
    simpa using hno

theorem Has.tyHasF {f fi g : FuncId} (h : Has P f (irTyHasF fi)) (hi : Has P fi irTyIdxF) (hk : callOk P g = true) (z : Bool) (l : List T) (hl : l.length ≤ 1048576) (Qp : T → Bool) (hG : ∀ v ∈ l, ∀ H, ACall P g [v.a] H (fun r H' => r = .d (.bool (Qp v)) ∧ H' = H)) (H : Hp) :
    ACall P f [.d (.sl z 3 (l.map T.enc)), .d (.fn g)] H (fun r H' => r = .d (.bool (l.any Qp)) ∧ H' = H) := by
  obtain ⟨fn, hf, hcf⟩ := h
  refine acall_fin hf hcf (by simp [irTyHasF]) fun hcl _ => ?_
  simp [irTyHasF]
  refine CallK_of (hi.tyIdxF hk z l hl Qp hG _) ?_
  rintro r H2 ⟨⟨n, rfl, hn⟩, rfl⟩
  by_cases h0 : 0 ≤ n
  · have := hn.1 h0
    simp only [this]
    simp [h0]
    simp [RetK, cut_self hcl]
  · have : l.any Qp = false := by
      cases h : l.any Qp with
      | false => rfl
      | true => exact absurd (hn.2 h) h0
    simp only [this]
    simp [h0]
    simp [RetK, cut_self hcl]

theorem Has.tyStatic {f fh fi g : FuncId} (h : Has P f (irTyStatic fh g t)) (hh : Has P fh (irTyHasF fi)) (hi : Has P fi irTyIdxF) (hg : Has P g (irTyStaticN f t)) (hk : callOk P g = true) (v : T) : v.Fit 1048576 → StaticT P f v := by
  induction v using T.ind with
  | h k z ns y ps ih =>
  rintro (⟨_, _, _, _, _, b2, b3, b4, b5⟩) H
  have hG : ∀ v ∈ ps, ∀ H, ACall P g [v.a] H (fun r H' => r = .d (.bool (!decide v.st.St)) ∧ H' = H) := fun v hv H => by
    obtain ⟨fn, hf, hcf⟩ := hg
    have hx := ih v hv (b5 v hv)
    unfold StaticT at hx
    refine acall_fin hf hcf (by simp [irTyStaticN]) fun hcl _ => ?_
    generalize hs : v.st.St = S at *
    obtain ⟨k1, z1, n1, y1, p1⟩ := v
    simp only [T.a_mk] at hx ⊢
    simp [irTyStaticN]
    refine CallK_of' (hx _) ?_
    simp
    simp [RetK, cut_app hcl]
  have hst := @Ty.st_iff k ns (ps.map T.st)
  have h0 := h
  obtain ⟨fn, hf, hcf⟩ := h
  refine acall_fin hf hcf (by simp [irTyStatic]) fun hcl _ => ?_
  rw [T.st_mk]
  rw [T.a_mk]
  by_cases hk0 : k = 0
  · have hd : ¬ (Ty.mk k ns (ps.map T.st)).St := fun h => (hst.1 h).1 hk0
    simp [irTyStatic, hk0]
    simp [RetK, cut_app hcl]
    simpa [hk0] using hd
  have hx := fun H => hh.tyHasF hi hk y ps b3 (fun v => !decide v.st.St) hG H
  have he : decide (Ty.mk k ns (ps.map T.st)).St = !(ps.any fun v => !decide v.st.St) := by
    cases h : ps.any fun v => !decide v.st.St with
    | true =>
      obtain ⟨v, hv, hn⟩ := List.any_eq_true.1 h
      have hn : ¬ v.st.St := by simpa using hn
      have : ¬ (Ty.mk k ns (ps.map T.st)).St := fun hs => hn ((hst.1 hs).2 _ (List.mem_map.2 ⟨v, hv, rfl⟩))
      simp [this]
    | false =>
      have h := List.any_eq_false.1 h
      have : (Ty.mk k ns (ps.map T.st)).St := hst.2 ⟨hk0, fun p hp => by
        obtain ⟨v, hv, rfl⟩ := List.mem_map.1 hp
        simpa using h v hv⟩
      simp [this]
  rw [he]
  generalize (ps.any fun v => !decide v.st.St) = E at *
  simp [irTyStatic, hk0]
  refine CallK_of' (hx _) ?_
  simp
  simp [RetK, cut_app hcl]
end
end Go.Zam

namespace Go.Zam
set_option linter.all false
set_option maxRecDepth 100000
set_option maxHeartbeats 4000000
open Classical

def irLAsks (fa fl tr rr td rd tst rst tsa rs ff rf tx rx t : Nat) : IFn :=
 { nt := 87, res := [.t 6], body := (
  .seq (.ops [
    ⟨(some 3), none, .box t 3 (.t 0)⟩,
    ⟨(some 4), none, .box t 3 (.t 1)⟩,
    ⟨(some 6), none, .mv (.c (.bool false))⟩] false)
  (.seq (.seq (.ops [
     ⟨(some 11), none, .load 3 true (.t 3)⟩,
     ⟨(some 12), none, .call fl [(.t 11)]⟩,
     ⟨(some 13), none, .un .not (.t 12)⟩,
     ⟨(some 14), none, .mv (.t 13)⟩,
     ⟨(some 15), (some (14, false)), .load 3 true (.t 4)⟩,
     ⟨(some 16), (some (14, false)), .call fl [(.t 15)]⟩,
     ⟨(some 17), (some (14, false)), .un .not (.t 16)⟩,
     ⟨(some 18), none, .pick (.t 14) (.c (.bool true)) (.t 17)⟩,
     ⟨(some 19), none, .mv (.t 18)⟩,
     ⟨(some 20), (some (19, false)), .mv (.t 2)⟩,
     ⟨(some 21), (some (19, false)), .lenS (.t 20)⟩,
     ⟨(some 22), (some (19, false)), .bin .gtr (.t 21) (.c (.int .i64 1000))⟩,
     ⟨(some 23), none, .pick (.t 19) (.c (.bool true)) (.t 22)⟩] false)
   (.cond (.t 23) (.seq (.ops [
      ⟨(some 24), none, .call fa []⟩,
      ⟨(some 6), none, .mv (.t 24)⟩] false)
    (.ret))
   (.skip)))
  (.seq (.seq (.ops [
     ⟨(some 25), none, .load 3 true (.t 3)⟩,
     ⟨(some 26), none, .call tr [(.t 25)]⟩,
     ⟨(some 27), none, .load 3 true (.t 3)⟩,
     ⟨(some 28), none, .call rr [(.t 27)]⟩,
     ⟨(some 29), none, .beq true (.t 26) (.t 28)⟩,
     ⟨(some 30), none, .mv (.t 29)⟩,
     ⟨(some 31), (some (30, false)), .load 3 true (.t 3)⟩,
     ⟨(some 32), (some (30, false)), .call td [(.t 31)]⟩,
     ⟨(some 33), (some (30, false)), .load 3 true (.t 3)⟩,
     ⟨(some 34), (some (30, false)), .call rd [(.t 33)]⟩,
     ⟨(some 35), (some (30, false)), .bin .neq (.t 32) (.t 34)⟩,
     ⟨(some 36), none, .pick (.t 30) (.c (.bool true)) (.t 35)⟩,
     ⟨(some 37), none, .mv (.t 36)⟩,
     ⟨(some 38), (some (37, false)), .load 3 true (.t 3)⟩,
     ⟨(some 39), (some (37, false)), .call tst [(.t 38)]⟩,
     ⟨(some 40), (some (37, false)), .load 3 true (.t 3)⟩,
     ⟨(some 41), (some (37, false)), .call rst [(.t 40)]⟩,
     ⟨(some 42), (some (37, false)), .beq true (.t 39) (.t 41)⟩,
     ⟨(some 43), none, .pick (.t 37) (.c (.bool true)) (.t 42)⟩,
     ⟨(some 44), none, .mv (.t 43)⟩,
     ⟨(some 45), (some (44, false)), .load 3 true (.t 3)⟩,
     ⟨(some 46), (some (44, false)), .load 3 true (.t 4)⟩,
     ⟨(some 47), (some (44, false)), .call tsa [(.t 45), (.t 46)]⟩,
     ⟨(some 48), (some (44, false)), .load 3 true (.t 3)⟩,
     ⟨(some 49), (some (44, false)), .load 3 true (.t 4)⟩,
     ⟨(some 50), (some (44, false)), .call rs [(.t 48), (.t 49)]⟩,
     ⟨(some 51), (some (44, false)), .beq true (.t 47) (.t 50)⟩,
     ⟨(some 52), none, .pick (.t 44) (.c (.bool true)) (.t 51)⟩] true)
   (.cond (.t 52) (.seq (.ops [
      ⟨(some 6), none, .mv (.c (.bool false))⟩] false)
    (.ret))
   (.skip)))
  (.seq (.seq (.ops [
     ⟨(some 53), none, .load 3 true (.t 3)⟩,
     ⟨(some 54), none, .call rr [(.t 53)]⟩,
     ⟨(some 55), none, .un .not (.t 54)⟩] false)
   (.cond (.t 55) (.seq (.ops [
      ⟨(some 56), none, .call fa []⟩,
      ⟨(some 6), none, .mv (.t 56)⟩] false)
    (.ret))
   (.skip)))
  (.seq (.ops [
    ⟨(some 58), none, .load 3 true (.t 3)⟩,
    ⟨(some 59), none, .mv (.t 2)⟩,
    ⟨(some 60), none, .call ff [(.t 58), (.t 59)]⟩,
    ⟨(some 57), none, .mv (.t 60)⟩,
    ⟨(some 61), none, .ext (.t 57) 0⟩,
    ⟨(some 62), none, .ext (.t 57) 1⟩,
    ⟨(some 7), none, .alloc t [(.int .i64 0), (.sl true 1 []), (.sl true 3 [])]⟩,
    ⟨none, none, .store 3 (.t 7) (.t 61)⟩,
    ⟨(some 8), none, .mv (.t 62)⟩] false)
  (.seq (.ops [
    ⟨(some 64), none, .load 3 true (.t 3)⟩,
    ⟨(some 65), none, .mv (.t 2)⟩,
    ⟨(some 66), none, .call rf [(.t 64), (.t 65)]⟩,
    ⟨(some 63), none, .mv (.t 66)⟩,
    ⟨(some 67), none, .ext (.t 63) 0⟩,
    ⟨(some 68), none, .ext (.t 63) 1⟩,
    ⟨(some 9), none, .alloc t [(.int .i64 0), (.sl true 1 []), (.sl true 3 [])]⟩,
    ⟨none, none, .store 3 (.t 9) (.t 67)⟩,
    ⟨(some 10), none, .mv (.t 68)⟩] false)
  (.seq (.ops [
    ⟨(some 69), none, .call fa []⟩,
    ⟨(some 70), none, .mv (.t 69)⟩,
    ⟨(some 71), (some (70, true)), .mv (.t 8)⟩,
    ⟨(some 72), (some (70, true)), .mv (.t 10)⟩,
    ⟨(some 73), (some (70, true)), .beq false (.t 71) (.t 72)⟩,
    ⟨(some 74), none, .pick (.t 70) (.t 73) (.c (.bool false))⟩,
    ⟨(some 75), none, .mv (.t 74)⟩,
    ⟨(some 76), (some (75, true)), .load 3 true (.t 7)⟩,
    ⟨(some 77), (some (75, true)), .load 3 true (.t 9)⟩,
    ⟨(some 78), (some (75, true)), .call rs [(.t 76), (.t 77)]⟩,
    ⟨(some 79), none, .pick (.t 75) (.t 78) (.c (.bool false))⟩,
    ⟨(some 80), none, .mv (.t 79)⟩,
    ⟨(some 81), (some (80, true)), .load 3 true (.t 3)⟩,
    ⟨(some 82), (some (80, true)), .call tx [(.t 81)]⟩,
    ⟨(some 83), (some (80, true)), .load 3 true (.t 3)⟩,
    ⟨(some 84), (some (80, true)), .call rx [(.t 83)]⟩,
    ⟨(some 85), (some (80, true)), .bin .eql (.t 82) (.t 84)⟩,
    ⟨(some 86), none, .pick (.t 80) (.t 85) (.c (.bool false))⟩,
    ⟨(some 6), none, .mv (.t 86)⟩] true)
  (.ret)))))))) }

section
variable {P : Program} {t : Nat} {H0 : Hp}

/-- whetstonelaw09.TermAsks -/
theorem Has.lAsks {f fa fl tr rr td rd tst rst tsa rs ff rf tx rx : FuncId} (h : Has P f (irLAsks fa fl tr rr td rd tst rst tsa rs ff rf tx rx t)) (hA : AwakeT P H0 fa)
    (hL : ∀ v : T, v.Fit 1048576 → ∀ H, ACall P fl [v.a] H (fun r H' => (∃ c : Bool, r = .d (.bool c)) ∧ H' = H))
    (hR1 : ∀ v : T, v.Fit 1048576 → RightT P tr v) (hR2 : ∀ v : T, v.Fit 1048576 → RightT P rr v)
    (hD1 : ∀ v : T, v.Fit 1048576 → v.dep ≤ 1125899906842624 → ∀ H, ACall P td [v.a] H (fun r H' => r = .d (.int .i64 (v.dep : Int)) ∧ H' = H))
    (hD2 : ∀ v : T, v.Fit 1048576 → v.dep ≤ 1125899906842624 → ∀ H, ACall P rd [v.a] H (fun r H' => r = .d (.int .i64 (v.dep : Int)) ∧ H' = H))
    (hS1 : ∀ v : T, v.Fit 1048576 → StaticT P tst v) (hS2 : ∀ v : T, v.Fit 1048576 → StaticT P rst v)
    (hE1 : ∀ v : T, v.Fit 1048576 → SameT P tsa v) (hE2 : ∀ v : T, v.Fit 1048576 → SameT P rs v)
    (hF1 : FieldT P ff) (hF2 : FieldT P rf)
    (hT1 : ∀ v : T, v.Fit 1048576 → v.wt ≤ 1099511627776 → TextT P tx v) (hT2 : ∀ v : T, v.Fit 1048576 → v.wt ≤ 1099511627776 → v.st.Rt → TextT P rx v)
    (v w : T) (x : Str') (hv : v.Fit 1048576) (hw : w.Fit 1048576) (hx : x.length ≤ 1048576) (hvd : v.dep ≤ 1048576) (hvw : v.wt ≤ 1099511627776) (H : Hp) (hH : Pre0 H0 H) :
    ACall P f [v.a, w.a, .d (.str x)] H (fun r H' => r = .d (.bool true) ∧ H' = H) := by
  obtain ⟨fn, hf, hcf⟩ := h
  refine acall_fin hf hcf (by simp [irLAsks]) fun hcl _ => ?_
  have l1 := hL v hv
  have l2 := hL w hw
  have r1 := hR1 v hv
  have r2 := hR2 v hv
  have d1 := hD1 v hv (by omega)
  have d2 := hD2 v hv (by omega)
  have s1 := hS1 v hv
  have s2 := hS2 v hv
  have e1 := hE1 v hv w
  have e2 := hE2 v hv w
  have f1 := fun r => hF1 v hv r x
  have f2 := fun r => hF2 v hv r x
  have t1 := hT1 v hv hvw
  have t2 := fun r => hT2 v hv hvw r
  have hof : ((v.fld x).getD T.nil).Fit 1048576 := by
    cases ho : v.fld x with
    | none => exact T.nil_fit _
    | some p =>
      obtain ⟨k, z, ns, y, ps⟩ := v
      rw [T.fld] at ho
      split at ho
      · obtain ⟨i, -, hi⟩ := lookT_some ho
        exact T.fit_get hv hi
      · cases ho
  have e3 := hE2 _ hof ((v.fld x).getD T.nil)
  simp only [decide_true] at e3
  unfold RightT at r1 r2
  unfold StaticT at s1 s2
  unfold TextT at t1 t2
  generalize hRp : v.st.Rt = RP at *
  generalize hSp : v.st.St = SP at *
  generalize v.dep = dv at *
  generalize (v.st = w.st) = SE at *
  generalize v.txt = tv at *
  generalize (v.fld x).isSome = ob at *
  generalize (v.fld x).getD T.nil = o at *
  obtain ⟨k, z, ns, y, ps⟩ := v
  obtain ⟨k', z', ns', y', ps'⟩ := w
  obtain ⟨k1, z1, ns1, y1, ps1⟩ := o
  simp only [T.a_mk] at l1 l2 r1 r2 d1 d2 s1 s2 e1 e2 e3 f1 f2 t1 t2 ⊢
  simp [irLAsks]
  refine CallK_of (l1 _) ?_
  rintro r H2 ⟨⟨c, rfl⟩, rfl⟩
  cases c
  · simp
    refine CallK_of' (hA _ ((hH.app _))) ?_
    simp
    simp [RetK, cut_appk hcl, cut_app hcl]
  simp
  refine CallK_of (l2 _) ?_
  rintro r H2 ⟨⟨c, rfl⟩, rfl⟩
  cases c
  · simp
    refine CallK_of' (hA _ ((hH.app _))) ?_
    simp
    simp [RetK, cut_appk hcl, cut_app hcl]
  by_cases h1000 : (1000 : Int) < x.length
  · simp [h1000]
    refine CallK_of' (hA _ ((hH.app _))) ?_
    simp
    simp [RetK, cut_appk hcl, cut_app hcl]
  simp [h1000]
  refine CallD_of (r1 _) ?_
  simp
  refine CallD_of (r2 _) ?_
  simp
  refine CallD_of (d1 _) ?_
  simp
  refine CallD_of (d2 _) ?_
  simp
  refine CallD_of (s1 _) ?_
  simp
  refine CallD_of (s2 _) ?_
  simp
  refine CallD_of (e1 _) ?_
  simp
  refine CallD_of (e2 _) ?_
  simp
  refine CallK_of' (r2 _) ?_
  by_cases hRP : RP
  case neg =>
    simp [hRP]
    refine CallK_of' (hA _ ((hH.app _))) ?_
    simp
    simp [RetK, cut_appk hcl, cut_app hcl]
  have f1 := f1 hRP
  have f2 := f2 hRP
  have t2 := t2 hRP
  simp [hRP]
  refine CallK_of' (f1 _) ?_
  simp
  refine CallK_of' (f2 _) ?_
  simp
  refine CallD_of (hA _ ((hH.app _))) ?_
  simp
  refine CallD_of (e3 _) ?_
  simp
  refine CallD_of (t1 _) ?_
  simp
  refine CallD_of (t2 _) ?_
  simp
  simp [RetK, cut_appk hcl, cut_app hcl]
end
end Go.Zam

namespace Go.Zam
set_option linter.all false
set_option maxRecDepth 100000
set_option maxHeartbeats 4000000
open Classical

section
variable {P : Program} {t : Nat} {H0 : Hp}

end
end Go.Zam

namespace Go.Zam
set_option linter.all false
set_option maxRecDepth 100000
set_option maxHeartbeats 2000000
open Classical

def irTAwake9 (fp ft t : Nat) : IFn :=
 { nt := 14, res := [.t 0], body := (
  .seq (.ops [
    ⟨(some 0), none, .mv (.c (.bool false))⟩] false)
  (.seq (.ops [
    ⟨(some 4), none, .call fp [(.c (.str [123, 98, 58, 32, 105, 110, 116, 44, 32, 97, 58, 32, 100, 121, 110, 125]))]⟩,
    ⟨(some 3), none, .mv (.t 4)⟩,
    ⟨(some 5), none, .ext (.t 3) 0⟩,
    ⟨(some 6), none, .ext (.t 3) 1⟩,
    ⟨(some 1), none, .alloc t [(.int .i64 0), (.sl true 1 []), (.sl true 3 [])]⟩,
    ⟨none, none, .store 3 (.t 1) (.t 5)⟩,
    ⟨(some 2), none, .mv (.t 6)⟩] false)
  (.seq (.ops [
    ⟨(some 7), none, .mv (.t 2)⟩,
    ⟨(some 8), none, .bin .eql (.t 7) (.c (.int .i64 0))⟩,
    ⟨(some 9), none, .mv (.t 8)⟩,
    ⟨(some 10), (some (9, true)), .load 3 true (.t 1)⟩,
    ⟨(some 11), (some (9, true)), .call ft [(.t 10)]⟩,
    ⟨(some 12), (some (9, true)), .bin .eql (.t 11) (.c (.str [123, 97, 58, 32, 100, 121, 110, 44, 32, 98, 58, 32, 105, 110, 116, 125]))⟩,
    ⟨(some 13), none, .pick (.t 9) (.t 12) (.c (.bool false))⟩,
    ⟨(some 0), none, .mv (.t 13)⟩] false)
  (.ret)))) }

def sBA : Bs := [123, 98, 58, 32, 105, 110, 116, 44, 32, 97, 58, 32, 100, 121, 110, 125]
theorem ex_BA : typeO sBA = (N.new 32 0 9 [] 0 [nFld 1 4 [98] 29, nFld 5 8 [97] 31], 0) := by kernel_rfl
theorem recT_swap {x y : Str'} (p q : T) (h : Op.bytesLess x y = true) : recT [y, x] [q, p] = (.new 3 [x, y] [p, q], 0) := by
  have h1 : cP (x, p) (y, q) < 0 := cP_lt.2 h
  have hs : ssort cP [(y, q), (x, p)] = [(x, p), (y, q)] := ssort_cons (a := [(x, p)]) (b := []) (x := (y, q)) cP_cmp (by simp [Sorted]) (by simpa using h1) (by simp)
  have hd : ¬ Dup [(x, p), (y, q)] := by
    rintro ⟨j, a, b, h1, h2, e⟩
    match j with
    | 0 =>
      simp at h1 h2
      subst h1; subst h2
      simp only at e
      subst e
      rw [bl_irrefl] at h; cases h
    | j + 1 => simp at h2
  unfold recT
  rw [if_pos (show [y, x].length = [q, p].length from rfl), show [y, x].zip [q, p] = [(y, q), (x, p)] from rfl, hs, if_neg hd]
  rfl
theorem typ_swap {a b f t f' t' : Int} {w w' : Bs} {k k' : Int} {v v' : T} (h : (N.new k (f + 2) (f + 3) [] 0 []).ty = (v, 0)) (h' : (N.new k' (f' + 2) (f' + 3) [] 0 []).ty = (v', 0)) (hv : v.dep = 1) (hv' : v'.dep = 1) (hw : Op.bytesLess w' w = true) :
    (N.new 32 a b [] 0 [nFld f t w k, nFld f' t' w' k']).typ = (T.new 3 [w', w] [v', v], 0) := by
  have e : (N.new 32 a b [] 0 [nFld f t w k, nFld f' t' w' k']).ty = (T.new 3 [w', w] [v', v], 0) := by
    rw [N.new, N.ty_mk]
    have hb : badE ([nFld f t w k, nFld f' t' w' k'].map N.fty) = 0 := by simp [fld_ty, h, h', badE]
    rw [if_neg (by decide), if_neg (by decide), if_neg (by decide), if_pos rfl, if_neg (by rw [hb]; exact fun h => h rfl)]
    simp only [List.map_cons, List.map_nil, fld_ty, h, h']
    exact recT_swap v' v hw
  unfold N.typ
  rw [e, if_neg (by simp), if_neg (by rw [T.new, T.dep_mk]; simp [T.deps, hv, hv'])]
theorem typ_BA : typO sBA = (T.new 3 [[97], [98]] [T.nil, tI], 0) := by
  unfold typO
  rw [ex_BA]
  exact typ_swap (leaf_ty _ _).1 (leaf_ty _ _).2.2 rfl rfl (by decide)
theorem txt_BA : (T.new 3 [[97], [98]] [T.nil, tI]).txt = [123, 97, 58, 32, 100, 121, 110, 44, 32, 98, 58, 32, 105, 110, 116, 125] := by kernel_rfl

section
variable {P : Program} {t : Nat} {H0 : Hp}

/-- whetstonelaw09.awake -/
theorem Has.tAwake9 {f fp ft : FuncId} (h : Has P f (irTAwake9 fp ft t))
    (hp : ∀ s, s.length ≤ 1048576 → ∀ H, Pre0 H0 H → ACall P fp [.d (.str s)] H (fun r H' => r = .tup [(typO s).1.a, .d (.int .i64 (typO s).2)] ∧ H' = H))
    (hT : ∀ v : T, v.Fit 1048576 → v.wt ≤ 1099511627776 → TextT P ft v) : AwakeT P H0 f := by
  intro H hH
  obtain ⟨fn, hf, hcf⟩ := h
  refine acall_fin hf hcf (by simp [irTAwake9]) fun hcl _ => ?_
  have p1 := fun H hH => hp sBA (by decide) H hH
  have p2 := hT (T.new 3 [[97], [98]] [T.nil, tI]) (two_fit (by decide) (by decide) (nil_fit) tI_fit) (by decide)
  unfold TextT at p2
  rw [typ_BA] at p1
  rw [txt_BA] at p2
  simp only [sBA] at p1
  simp only [T.new, T.nil, tI, T.a_mk, T.enc_mk, List.map_cons, List.map_nil] at p1 p2
  simp [irTAwake9]
  refine CallK_of' (p1 _ hH) ?_
  simp
  refine CallK_of' (p2 _) ?_
  simp
  simp [RetK, cut_appk hcl, cut_app hcl]
end
end Go.Zam

set_option linter.all false
namespace Go.Proofs
open Go.Shelf Go.RowKit
variable {P : Program} {ρ : Ren}

set_option maxHeartbeats 32000000 in
set_option maxRecDepth 100000 in
theorem AnyPu.internal_strconv_ParseUint_10_b63 (L : LaysPu.n16 P ρ) (t : ByteArray) (hne : t.size ≠ 0) (hmax : t.size ≤ 9223372036854775806) (w : World) :
    Calls P (ρ.f 16) #[.string t, .int .i64 10, .int .i64 63] w fun e w' => e = .returned (Lib.uintTupleM (ρ.t 34) 9223372036854775807 (Lib.parseUintM 9223372036854775807 0 t.data.toList)) ∧ w' = Lib.bytesWorld w (ρ.t 5) t := by
  have mixed := L.mixed
  have t9 := L.t9; have a9 := L.a9; have z9 := L.z9; have v9 := L.v9
  have t3 := L.t3; have a3 := L.a3; have z3 := L.z3; have v3 := L.v3
  have t22 := L.t22; have a22 := L.a22; have z22 := L.z22; have v22 := L.v22
  have t24 := L.t24; have a24 := L.a24; have z24 := L.z24; have v24 := L.v24
  have t4 := L.t4; have a4 := L.a4; have z4 := L.z4; have v4 := L.v4
  have t34 := L.t34; have a34 := L.a34; have z34 := L.z34; have v34 := L.v34
  have t5 := L.t5; have a5 := L.a5; have z5 := L.z5; have v5 := L.v5
  have t36 := L.t36; have a36 := L.a36; have z36 := L.z36; have v36 := L.v36
  have t37 := L.t37; have a37 := L.a37; have z37 := L.z37; have v37 := L.v37
  have t0 := L.t0; have a0 := L.a0; have z0 := L.z0; have v0 := L.v0
  have e19 : ∀ args w, (callFunc (ρ.f 19) args).run P w = .ok (.enter (ρ.f 19) args) w := enters_of L.f19 (by kernel_rfl) rfl
  have hemp : t.toList.isEmpty = false := by
    rw [← decide_eq_emptyBytes]
    exact decide_eq_false (fun h => hne (by rw [h]; rfl))
  have hcv := Lib.run_convert_string_bytes (P := P) w (ρ.t 9) (ρ.t 37) (ρ.t 5) t (u := .string) L.t9 L.t37 L.t5
  have hB : ∀ j, j < t.size → (Lib.bytesWorld w (ρ.t 5) t).cell? ⟨w.heap.size, j, none⟩ = some (.int .u8 (t.data.toList.getD j 0).toNat) := fun j hj => Lib.bytesWorld_cell w (ρ.t 5) t j hj
  obtain ⟨W1, hW1⟩ : ∃ W1, W1 = Lib.bytesWorld w (ρ.t 5) t := ⟨_, rfl⟩
  rw [← hW1] at hcv hB ⊢
  clear hW1
  obtain ⟨bs, hL⟩ : ∃ bs, bs = t.data.toList := ⟨_, rfl⟩
  have hLn : bs.length = t.size := by rw [hL, Lib.size_eq]
  rw [← hL] at hB ⊢
  clear hL
  -- 'maxVal := uint64(1)<<uint(bitSize) - 1': its value, for the walk to take
  have hmv : IntKind.u64.wrap (IntKind.u64.wrap 9223372036854775808 - 1) = 9223372036854775807 := by
    rw [IntKind.wrap_u64, IntKind.wrap_u64]
    decide
  go_enter L.f16, BodyPu.n16_ntmps ρ
  go_wp2
  go_loop [12, 13, 101] (fun vu vn vi => ∃ (k acc : Nat) (a : Int), vu = .bool false ∧ vn = .int .u64 a ∧ vi = .int .i64 k ∧ k ≤ t.size ∧ Hid (a = (acc : Int) ∧ acc ≤ 9223372036854775807 ∧ Lib.parseUintM 9223372036854775807 0 bs = Lib.parseUintM 9223372036854775807 acc (bs.drop k)))
    (fun _ _ vi => t.size - (intOf vi).toNat)
  case atStart => exact ⟨0, 0, 0, rfl, rfl, rfl, by omega, rfl, by omega, rfl⟩
  case round =>
    obtain ⟨k, acc, a, rfl, rfl, rfl, hk, hh⟩ := hrel
    obtain ⟨ha, hacc, hdec⟩ := hh.out
    clear hh
    have a0 : 0 ≤ a := by omega
    have a1 : a ≤ 9223372036854775807 := by omega
    by_cases hkn : k < t.size
    · have hc := hB k hkn
      have hdrop : bs.drop k = bs[k]'(by omega) :: bs.drop (k + 1) := List.drop_eq_getElem_cons (by omega)
      have hget : bs.getD k 0 = bs[k]'(by omega) := by simp [List.getD, List.getElem?_eq_getElem (show k < bs.length by omega)]
      rw [hdrop] at hdec
      rw [hget] at hc
      generalize bs[k]'(by omega) = c at hc hdec
      have hc256 : c.toNat < 256 := c.toNat_lt
      clear hB hdrop hget
      by_cases hdig : 48 ≤ c.toNat ∧ c.toNat ≤ 57
      · obtain ⟨hd0, hd1⟩ := hdig
        by_cases hcut : 1844674407370955162 ≤ acc
        · have hF : Lib.parseUintM 9223372036854775807 acc (c :: bs.drop (k + 1)) = .range := by simp [Lib.parseUintM, hd0, hd1, hcut]
          rw [hF] at hdec
          have icut : 1844674407370955162 ≤ a := by omega
          clear hcut hacc hF ha
          go_wp2
          go_ret2
          exact ⟨rfl, rfl⟩
        by_cases hov2 : 18446744073709551616 ≤ acc * 10 + (c.toNat - 48)
        · have hov : 9223372036854775807 < acc * 10 + (c.toNat - 48) := by omega
          have hF : Lib.parseUintM 9223372036854775807 acc (c :: bs.drop (k + 1)) = .range := by simp [Lib.parseUintM, hd0, hd1, hcut, hov]
          rw [hF] at hdec
          have icut : a < 1844674407370955162 := by omega
          have iov : 18446744073709551616 ≤ a * 10 + ((c.toNat : Int) - 48) := by omega
          have hwr : IntKind.u64.wrap (a * 10 + ((c.toNat : Int) - 48)) = a * 10 + ((c.toNat : Int) - 48) - 18446744073709551616 := by
            rw [IntKind.wrap_u64]
            omega
          clear hcut hacc hF hov hov2 ha
          go_wp2
          go_ret2
          exact ⟨rfl, rfl⟩
        by_cases hov : 9223372036854775807 < acc * 10 + (c.toNat - 48)
        · -- OVER THE SIZE
          have hF : Lib.parseUintM 9223372036854775807 acc (c :: bs.drop (k + 1)) = .range := by simp [Lib.parseUintM, hd0, hd1, hcut, hov]
          rw [hF] at hdec
          have iov : 9223372036854775807 < a * 10 + ((c.toNat : Int) - 48) := by omega
          have iov2 : a * 10 + ((c.toNat : Int) - 48) < 18446744073709551616 := by omega
          have icut : a < 1844674407370955162 := by omega
          clear hcut hacc hF hov hov2 ha
          go_wp2
          go_ret2
          exact ⟨rfl, rfl⟩
        · have hF : Lib.parseUintM 9223372036854775807 acc (c :: bs.drop (k + 1)) = Lib.parseUintM 9223372036854775807 (acc * 10 + (c.toNat - 48)) (bs.drop (k + 1)) := by simp [Lib.parseUintM, hd0, hd1, hcut, hov]
          have HN : Hid (a * 10 + ((c.toNat : Int) - 48) = ((acc * 10 + (c.toNat - 48) : Nat) : Int) ∧ acc * 10 + (c.toNat - 48) ≤ 9223372036854775807 ∧ Lib.parseUintM 9223372036854775807 0 bs = Lib.parseUintM 9223372036854775807 (acc * 10 + (c.toNat - 48)) (bs.drop (k + 1))) := Lib.hid ⟨by omega, by omega, hdec.trans hF⟩
          have iov : a * 10 + ((c.toNat : Int) - 48) ≤ 9223372036854775807 := by omega
          have icut : a < 1844674407370955162 := by omega
          clear hcut hacc hF hov hov2 hdec ha
          go_wp2
          refine ⟨⟨k + 1, acc * 10 + (c.toNat - 48), a * 10 + ((c.toNat : Int) - 48), rfl, (by first | rfl | (congr 1; omega)), (by first | rfl | (congr 1; omega)), by omega, HN⟩, by simp [intOf]; omega⟩
      · -- NO DIGIT: whatever way the text goes: (0, ErrSyntax)
        have hF : Lib.parseUintM 9223372036854775807 acc (c :: bs.drop (k + 1)) = Lib.NumEnd.syntax := by simp [Lib.parseUintM, hdig]
        rw [hF] at hdec
        clear hacc hF ha
        have hv0 := bits_lo_u8 .or (c.toNat : Int) 32
        have hv1 := bits_hi_u8 .or (c.toNat : Int) 32
        have hu0 := bits_lo_u8 .or 95 32       -- at '_' the walk writes the byte out
        have hu1 := bits_hi_u8 .or 95 32
        go_wp2_with (go_at_fn (ρ.f 19); refine (AnyPu.internal_strconv_lower { L with } _ _).mono ?_; rintro e w' ⟨rfl, rfl⟩)
        all_goals go_ret2
        all_goals first | exact ⟨rfl, rfl⟩ | exact ⟨by rw [hdec]; rfl, rfl⟩
    · -- THE BYTES ARE AT AN END
      have hkk : k = t.size := by omega
      subst hkk
      have hF : Lib.parseUintM 9223372036854775807 acc (bs.drop t.size) = .ok acc := by rw [List.drop_eq_nil_of_le (by omega)]; rfl
      rw [hF] at hdec
      subst ha
      clear hacc hF a0 a1
      go_wp2
      go_ret2
      exact ⟨rfl, rfl⟩



theorem AnyPu.internal_strconv_ParseUint_10_at63 (L : LaysPu.n16 P ρ) (t : ByteArray) (hmax : t.size ≤ 9223372036854775806) (w : World) :
    Calls P (ρ.f 16) #[.string t, .int .i64 10, .int .i64 63] w fun e w' => e = .returned (Lib.uintTupleM (ρ.t 34) 9223372036854775807 (Lib.parseUintB 63 t.data.toList)) ∧ (w' = w ∨ w' = Lib.bytesWorld w (ρ.t 5) t) := by
  have eM : (2 : Nat) ^ 63 - 1 = 9223372036854775807 := by decide
  by_cases h0 : t.size = 0
  · have ht : t = ⟨#[]⟩ := by
      apply ByteArray.ext
      exact Array.eq_empty_of_size_eq_zero h0
    subst ht
    exact (AnyPu.internal_strconv_ParseUint_empty { L with } 10 63 w).mono fun e w' ⟨he, hw⟩ => ⟨he, Or.inl hw⟩
  · have hne : t.data.toList ≠ [] := fun h => h0 (by rw [Lib.size_eq, h]; rfl)
    refine (AnyPu.internal_strconv_ParseUint_10_b63 { L with } t h0 hmax w).mono fun e w' ⟨he, hw⟩ => ⟨?_, Or.inr hw⟩
    rw [he, Lib.parseUintB, if_neg hne, eM]


set_option maxHeartbeats 4000000 in
set_option maxRecDepth 100000 in
theorem Any.strconv_ParseUint_10_at63_ok (L : LaysPu.n14 P ρ) (s : ByteArray) (hmax : s.size ≤ 9223372036854775806) (u : Nat) (h : Lib.parseUintB 63 s.data.toList = .ok u) (w : World) :
    Calls P (ρ.f 14) #[.string s, .int .i64 10, .int .i64 63] w fun e w' => e = .returned (.tuple #[.int .u64 u, .nilIface]) ∧ (w' = w ∨ w' = Lib.bytesWorld w (ρ.t 5) s) := by
  have mixed := L.mixed
  have t9 := L.t9; have a9 := L.a9; have z9 := L.z9; have v9 := L.v9
  have t3 := L.t3; have a3 := L.a3; have z3 := L.z3; have v3 := L.v3
  have t22 := L.t22; have a22 := L.a22; have z22 := L.z22; have v22 := L.v22
  have t24 := L.t24; have a24 := L.a24; have z24 := L.z24; have v24 := L.v24
  have t25 := L.t25; have a25 := L.a25; have z25 := L.z25; have v25 := L.v25
  have t4 := L.t4; have a4 := L.a4; have z4 := L.z4; have v4 := L.v4
  have e16 : ∀ args w, (callFunc (ρ.f 16) args).run P w = .ok (.enter (ρ.f 16) args) w := enters_of L.f16 (by kernel_rfl) rfl
  have hI := AnyPu.internal_strconv_ParseUint_10_at63 { L with } s hmax w
  rw [h] at hI
  have hI : Calls P (ρ.f 16) #[.string s, .int .i64 10, .int .i64 63] w fun e w' => e = .returned (.tuple #[.int .u64 u, .nilIface]) ∧ (w' = w ∨ w' = Lib.bytesWorld w (ρ.t 5) s) := hI
  clear h
  go_enter L.f14, BodyPu.n14_ntmps ρ
  go_wp2_with (go_at_fn (ρ.f 16); refine hI.mono ?_; rintro e W1 ⟨rfl, hW⟩)
  go_wp2
  go_ret2
  exact ⟨rfl, hW⟩

set_option maxHeartbeats 4000000 in
set_option maxRecDepth 100000 in
theorem Any.strconv_ParseUint_10_at63_syntax (L : LaysPu.n14 P ρ) (s : ByteArray) (hlim : s.size ≤ 281474976710656) (h : Lib.parseUintB 63 s.data.toList = Lib.NumEnd.syntax) (ev : Value) (w : World) (hv : w.cell? ⟨(ρ.g 0), 0, none⟩ = some ev) (hev : ev = .nilIface ∨ ∃ te pe, ev = .iface te pe) :
    Calls P (ρ.f 14) #[.string s, .int .i64 10, .int .i64 63] w fun e w' => ∃ N, e = .returned (.tuple #[.int .u64 0, .iface (ρ.t 39) (.pointer (some ⟨N, 0, none⟩))]) ∧ w.heap.size ≤ N ∧ w'.heap[N]? = some (.cells #[.string ⟨#[80, 97, 114, 115, 101, 85, 105, 110, 116]⟩, .string s, ev] (ρ.t 44) (0, 0)) ∧ Below w.heap.size w w' := by
  have mixed := L.mixed
  have t9 := L.t9; have a9 := L.a9; have z9 := L.z9; have v9 := L.v9
  have t3 := L.t3; have a3 := L.a3; have z3 := L.z3; have v3 := L.v3
  have t22 := L.t22; have a22 := L.a22; have z22 := L.z22; have v22 := L.v22
  have t24 := L.t24; have a24 := L.a24; have z24 := L.z24; have v24 := L.v24
  have t25 := L.t25; have a25 := L.a25; have z25 := L.z25; have v25 := L.v25
  have t4 := L.t4; have a4 := L.a4; have z4 := L.z4; have v4 := L.v4
  have e16 : ∀ args w, (callFunc (ρ.f 16) args).run P w = .ok (.enter (ρ.f 16) args) w := enters_of L.f16 (by kernel_rfl) rfl
  have e17 : ∀ args w, (callFunc (ρ.f 17) args).run P w = .ok (.enter (ρ.f 17) args) w := enters_of L.f17 (by kernel_rfl) rfl
  have hG : (ρ.g 0) < w.heap.size := Lib.lt_of_cell hv
  have hI := AnyPu.internal_strconv_ParseUint_10_at63 { L with } s (by omega) w
  rw [h] at hI
  have hI : Calls P (ρ.f 16) #[.string s, .int .i64 10, .int .i64 63] w fun e w' => e = .returned (.tuple #[.int .u64 0, .iface (ρ.t 34) (.int .i64 2)]) ∧ (w' = w ∨ w' = Lib.bytesWorld w (ρ.t 5) s) := hI
  clear h
  go_enter L.f14, BodyPu.n14_ntmps ρ
  go_wp2_with (go_at_fn (ρ.f 16); refine hI.mono ?_)
  rintro e W1 ⟨rfl, hW⟩
  have hb1 : Below w.heap.size w W1 := by
    rcases hW with rfl | rfl
    · exact Below.refl _ _
    · exact Lib.bytesWorld_below _ _ _
  have hv1 : W1.cell? ⟨(ρ.g 0), 0, none⟩ = some ev := (hb1.cell (show (⟨(ρ.g 0), 0, none⟩ : Addr).block < w.heap.size from hG)).trans hv
  clear hW
  go_wp2_with (go_at_fn (ρ.f 17); refine (AnyPu.strconv_toError_syntax { L with } ⟨#[80, 97, 114, 115, 101, 85, 105, 110, 116]⟩ s 10 63 ev _ hlim ?_ hev).mono ?_)
  · exact hv1
  rintro e W2 ⟨N, rfl, h1, h2, h3⟩
  go_wp2
  go_ret2
  exact ⟨N, rfl, Nat.le_trans hb1.size h1, h2, hb1.trans (h3.mono hb1.size)⟩

set_option maxHeartbeats 4000000 in
set_option maxRecDepth 100000 in
theorem Any.strconv_ParseUint_10_at63_range (L : LaysPu.n14 P ρ) (s : ByteArray) (hlim : s.size ≤ 281474976710656) (h : Lib.parseUintB 63 s.data.toList = .range) (ev : Value) (w : World) (hv : w.cell? ⟨(ρ.g 1), 0, none⟩ = some ev) (hev : ev = .nilIface ∨ ∃ te pe, ev = .iface te pe) :
    Calls P (ρ.f 14) #[.string s, .int .i64 10, .int .i64 63] w fun e w' => ∃ N, e = .returned (.tuple #[.int .u64 9223372036854775807, .iface (ρ.t 39) (.pointer (some ⟨N, 0, none⟩))]) ∧ w.heap.size ≤ N ∧ w'.heap[N]? = some (.cells #[.string ⟨#[80, 97, 114, 115, 101, 85, 105, 110, 116]⟩, .string s, ev] (ρ.t 44) (0, 0)) ∧ Below w.heap.size w w' := by
  have mixed := L.mixed
  have t9 := L.t9; have a9 := L.a9; have z9 := L.z9; have v9 := L.v9
  have t3 := L.t3; have a3 := L.a3; have z3 := L.z3; have v3 := L.v3
  have t22 := L.t22; have a22 := L.a22; have z22 := L.z22; have v22 := L.v22
  have t24 := L.t24; have a24 := L.a24; have z24 := L.z24; have v24 := L.v24
  have t25 := L.t25; have a25 := L.a25; have z25 := L.z25; have v25 := L.v25
  have t4 := L.t4; have a4 := L.a4; have z4 := L.z4; have v4 := L.v4
  have e16 : ∀ args w, (callFunc (ρ.f 16) args).run P w = .ok (.enter (ρ.f 16) args) w := enters_of L.f16 (by kernel_rfl) rfl
  have e17 : ∀ args w, (callFunc (ρ.f 17) args).run P w = .ok (.enter (ρ.f 17) args) w := enters_of L.f17 (by kernel_rfl) rfl
  have hG : (ρ.g 1) < w.heap.size := Lib.lt_of_cell hv
  have hI := AnyPu.internal_strconv_ParseUint_10_at63 { L with } s (by omega) w
  rw [h] at hI
  have hI : Calls P (ρ.f 16) #[.string s, .int .i64 10, .int .i64 63] w fun e w' => e = .returned (.tuple #[.int .u64 9223372036854775807, .iface (ρ.t 34) (.int .i64 1)]) ∧ (w' = w ∨ w' = Lib.bytesWorld w (ρ.t 5) s) := hI
  clear h
  go_enter L.f14, BodyPu.n14_ntmps ρ
  go_wp2_with (go_at_fn (ρ.f 16); refine hI.mono ?_)
  rintro e W1 ⟨rfl, hW⟩
  have hb1 : Below w.heap.size w W1 := by
    rcases hW with rfl | rfl
    · exact Below.refl _ _
    · exact Lib.bytesWorld_below _ _ _
  have hv1 : W1.cell? ⟨(ρ.g 1), 0, none⟩ = some ev := (hb1.cell (show (⟨(ρ.g 1), 0, none⟩ : Addr).block < w.heap.size from hG)).trans hv
  clear hW
  go_wp2_with (go_at_fn (ρ.f 17); refine (AnyPu.strconv_toError_range { L with } ⟨#[80, 97, 114, 115, 101, 85, 105, 110, 116]⟩ s 10 63 ev _ hlim ?_ hev).mono ?_)
  · exact hv1
  rintro e W2 ⟨N, rfl, h1, h2, h3⟩
  go_wp2
  go_ret2
  exact ⟨N, rfl, Nat.le_trans hb1.size h1, h2, hb1.trans (h3.mono hb1.size)⟩


end Go.Proofs

namespace Go.Proofs.Zy
open Go Go.Zam Go.Proofs
set_option maxRecDepth 100000
theorem tcf72 : compF Tryz.prog [7] Tryz.f72 = some (irTkLex 87 88 89 109 95) := by kernel_rfl
theorem h72 : HasT Tryz.prog [7] 72 (irTkLex 87 88 89 109 95) := ⟨_, Tryz.func72, tcf72⟩
theorem tcf67 : compF Tryz.prog [] Tryz.f67 = some (irTkIsKey 84 83) := by kernel_rfl
theorem h67 : Has Tryz.prog 67 (irTkIsKey 84 83) := ⟨_, Tryz.func67, tcf67⟩
theorem tcf50 : compF Tryz.prog [] Tryz.f50 = some (irTkIsName 66 67 68) := by kernel_rfl
theorem h50 : Has Tryz.prog 50 (irTkIsName 66 67 68) := ⟨_, Tryz.func50, tcf50⟩
theorem tcf87 : compF Tryz.prog [] Tryz.f87 = some (irRnBad 111) := by kernel_rfl
theorem h87 : Has Tryz.prog 87 (irRnBad 111) := ⟨_, Tryz.func87, tcf87⟩
theorem tcf88 : compF Tryz.prog [] Tryz.f88 = some (irScLead 112 113 114 115) := by kernel_rfl
theorem h88 : Has Tryz.prog 88 (irScLead 112 113 114 115) := ⟨_, Tryz.func88, tcf88⟩
theorem tcf89 : compF Tryz.prog [] Tryz.f89 = some (irScNext 112 66 116 67 68 117 118 119 95) := by kernel_rfl
theorem h89 : Has Tryz.prog 89 (irScNext 112 66 116 67 68 117 118 119 95) := ⟨_, Tryz.func89, tcf89⟩
theorem tcf83 : compF Tryz.prog [] Tryz.f83 = some (irSlHas 44) := by kernel_rfl
theorem h83 : Has Tryz.prog 83 (irSlHas 44) := ⟨_, Tryz.func83, tcf83⟩
theorem tcf44 : compF Tryz.prog [] Tryz.f44 = some (irSlIdx) := by kernel_rfl
theorem h44 : Has Tryz.prog 44 (irSlIdx) := ⟨_, Tryz.func44, tcf44⟩
theorem tcf84 : compF Tryz.prog [] Tryz.f84 = some (irTkKeys) := by kernel_rfl
theorem h84 : Has Tryz.prog 84 (irTkKeys) := ⟨_, Tryz.func84, tcf84⟩
theorem tcf66 : compF Tryz.prog [] Tryz.f66 = some (irLetter) := by kernel_rfl
theorem h66 : Has Tryz.prog 66 (irLetter) := ⟨_, Tryz.func66, tcf66⟩
theorem tcf68 : compF Tryz.prog [] Tryz.f68 = some (irDigit) := by kernel_rfl
theorem h68 : Has Tryz.prog 68 (irDigit) := ⟨_, Tryz.func68, tcf68⟩
theorem tcf112 : compF Tryz.prog [] Tryz.f112 = some (irScMore) := by kernel_rfl
theorem h112 : Has Tryz.prog 112 (irScMore) := ⟨_, Tryz.func112, tcf112⟩
theorem tcf113 : compF Tryz.prog [] Tryz.f113 = some (irTkBlank) := by kernel_rfl
theorem h113 : Has Tryz.prog 113 (irTkBlank) := ⟨_, Tryz.func113, tcf113⟩
theorem tcf114 : compF Tryz.prog [] Tryz.f114 = some (irScHash) := by kernel_rfl
theorem h114 : Has Tryz.prog 114 (irScHash) := ⟨_, Tryz.func114, tcf114⟩
theorem tcf115 : compF Tryz.prog [] Tryz.f115 = some (irScNoNl) := by kernel_rfl
theorem h115 : Has Tryz.prog 115 (irScNoNl) := ⟨_, Tryz.func115, tcf115⟩
theorem tcf116 : compF Tryz.prog [] Tryz.f116 = some (irScWord 112 127) := by kernel_rfl
theorem h116 : Has Tryz.prog 116 (irScWord 112 127) := ⟨_, Tryz.func116, tcf116⟩
theorem tcf127 : compF Tryz.prog [] Tryz.f127 = some (irScWordB 66 68) := by kernel_rfl
theorem h127 : Has Tryz.prog 127 (irScWordB 66 68) := ⟨_, Tryz.func127, tcf127⟩
theorem tcf118 : compF Tryz.prog [] Tryz.f118 = some (irScStr 129) := by kernel_rfl
theorem h118 : Has Tryz.prog 118 (irScStr 129) := ⟨_, Tryz.func118, tcf118⟩
theorem tcf119 : compF Tryz.prog [] Tryz.f119 = some (irScSign 130 131) := by kernel_rfl
theorem h119 : Has Tryz.prog 119 (irScSign 130 131) := ⟨_, Tryz.func119, tcf119⟩
theorem tcf129 : compF Tryz.prog [4] Tryz.f129 = some (irRnUnquote 135 136 71 80 5) := by kernel_rfl
theorem h129 : HasT Tryz.prog [4] 129 (irRnUnquote 135 136 71 80 5) := ⟨_, Tryz.func129, tcf129⟩
theorem tcf130 : compF Tryz.prog [] Tryz.f130 = some (irTkSigns) := by kernel_rfl
theorem h130 : Has Tryz.prog 130 (irTkSigns) := ⟨_, Tryz.func130, tcf130⟩
theorem tcf61 : compF Tryz.prog [] Tryz.f61 = some (irIsKey) := by kernel_rfl
theorem tcf48 : compF Tryz.prog [] Tryz.f48 = some (irIsName 61 62 63) := by kernel_rfl
theorem h48 : Has Tryz.prog 48 (irIsName 61 62 63) := ⟨_, Tryz.func48, tcf48⟩
theorem tcf62 : compF Tryz.prog [] Tryz.f62 = some (irDigit) := by kernel_rfl
theorem h62 : Has Tryz.prog 62 (irDigit) := ⟨_, Tryz.func62, tcf62⟩
theorem tcf63 : compF Tryz.prog [] Tryz.f63 = some (irLetter) := by kernel_rfl
theorem h63 : Has Tryz.prog 63 (irLetter) := ⟨_, Tryz.func63, tcf63⟩
end Go.Proofs.Zy

namespace Go.Proofs.Zy
open Go Go.Zam Go.Proofs Go.Shelf
set_option maxRecDepth 100000
def bldRen : Ren := ⟨fun n => match n with | 240 => 85 | 276 => 109 | 169 => 71 | n => n, fun t => match t with | 0 => 0 | 3 => 3 | 4 => 4 | 5 => 5 | 9 => 9 | 20 => 20 | 37 => 78 | 70 => 77 | 72 => 80 | 127 => 105 | 164 => 130 | n => n, fun g => g⟩

theorem lay240 : Lays.n240 Tryz.prog bldRen where
  mixed := by kernel_rfl
  f240 := Tryz.func85.trans (congrArg some (by kernel_rfl))
  f276 := Tryz.func109.trans (congrArg some (by kernel_rfl))
  t0 := by kernel_rfl
  a0 := Tryz.isAgg0
  z0 := fun _ => by kernel_rfl
  v0 := Tryz.zeroValue0
  t4 := by kernel_rfl
  a4 := Tryz.isAgg4
  z4 := fun _ => by kernel_rfl
  v4 := Tryz.zeroValue4
  t9 := by kernel_rfl
  a9 := Tryz.isAgg9
  z9 := fun _ => by kernel_rfl
  v9 := Tryz.zeroValue9
  t20 := by kernel_rfl
  a20 := Tryz.isAgg20
  z20 := fun _ => by kernel_rfl
  v20 := Tryz.zeroValue20
  t70 := by kernel_rfl
  a70 := Tryz.isAgg77
  z70 := fun _ => by kernel_rfl
  v70 := Tryz.zeroValue77
  t72 := by kernel_rfl
  a72 := Tryz.isAgg80
  z72 := fun _ => by kernel_rfl
  v72 := Tryz.zeroValue80
  t164 := by kernel_rfl
  a164 := Tryz.isAgg130
  z164 := fun _ => by kernel_rfl
  v164 := Tryz.zeroValue130
theorem lay169 : Lays.n169 Tryz.prog bldRen where
  mixed := by kernel_rfl
  f169 := Tryz.func71.trans (congrArg some (by kernel_rfl))
  t0 := by kernel_rfl
  a0 := Tryz.isAgg0
  z0 := fun _ => by kernel_rfl
  v0 := Tryz.zeroValue0
  t3 := by kernel_rfl
  a3 := Tryz.isAgg3
  z3 := fun _ => by kernel_rfl
  v3 := Tryz.zeroValue3
  t9 := by kernel_rfl
  a9 := Tryz.isAgg9
  z9 := fun _ => by kernel_rfl
  v9 := Tryz.zeroValue9
  t37 := by kernel_rfl
  a37 := Tryz.isAgg78
  z37 := fun _ => by kernel_rfl
  v37 := Tryz.zeroValue78
  t70 := by kernel_rfl
  a70 := Tryz.isAgg77
  z70 := fun _ => by kernel_rfl
  v70 := Tryz.zeroValue77
  t72 := by kernel_rfl
  a72 := Tryz.isAgg80
  z72 := fun _ => by kernel_rfl
  v72 := Tryz.zeroValue80
  t127 := by kernel_rfl
  a127 := Tryz.isAgg105
  z127 := fun _ => by kernel_rfl
  v127 := Tryz.zeroValue105
theorem bldExtra : Builder.Extra Tryz.prog bldRen where
  sizeBuilder := by kernel_rfl
  liesBuilder := by kernel_rfl
  t5 := by kernel_rfl
  a5 := Tryz.isAgg5
  z5 := fun _ => by kernel_rfl
  v5 := Tryz.zeroValue5
  infoByte := by kernel_rfl
  cellsByte := by kernel_rfl
  sizeByte := by kernel_rfl
  neB5 := by decide

theorem copyCheckOk {H : Hp} {i : Nat} {x a : A} (hi : H[i]? = some (.box 80 [a, x])) (ha : a = .d .nilp ∨ a = .ptr i 0) :
    ACall Tryz.prog 85 [.ptr i 0] H (fun r H' => r = .tup [] ∧ H' = H.set i (.box 80 [.ptr i 0, x])) := copyCheck_acall lay240 bldExtra.toX72 hi ha

theorem stringOk {H : Hp} {i t : Nat} {a : A} {s : List UInt8} (hi : H[i]? = some (.box 80 [a, .osl true 1 (byteRows s) t])) (ht : H[t]? = some (.tok s.length 1 5)) (hlen : s.length ≤ 4611686018427387904) :
    ACall Tryz.prog 71 [.ptr i 0] H (fun r H' => r = .d (.str s) ∧ H' = H) := string_acall lay169 bldExtra hi ht hlen
end Go.Proofs.Zy

namespace Go.Proofs.Zy
open Go Go.Zam Go.Proofs
open Go.RowKit (Below)
set_option maxRecDepth 100000
set_option linter.all false
set_option maxHeartbeats 1000000

theorem indexOk : IndexOk Tryz.prog 135 := fun s c H => by
  refine leaf (args := [.str s, .int .u8 c.toNat]) (x := .int .i64 (Lib.indexByte s c)) (fun w σ vs _ hl hv => ?_) H
  match vs, hl with
  | [v0, v1], _ =>
  have e0 := (hv 0 v0 _ rfl rfl).str_inv
  have e1 := (hv 1 v1 _ rfl rfl).int_inv
  subst e0; subst e1
  refine (Tryz.strings_IndexByte ⟨s.toArray⟩ c.toNat w).mono ?_
  rintro e w' ⟨rfl, rfl⟩
  refine ⟨_, rfl, Below.refl _ _, fun σ => ?_⟩
  have : (Int.toNat (c.toNat : Int)).toUInt8 = c := by simp
  rw [this]
  exact .int _ _

theorem prefixOk : PrefixOk Tryz.prog 131 := fun s p H => by
  refine leaf (args := [.str s, .str p]) (x := .bool (p.isPrefixOf s)) (fun w σ vs _ hl hv => ?_) H
  match vs, hl with
  | [v0, v1], _ =>
  have e0 := (hv 0 v0 _ rfl rfl).str_inv
  have e1 := (hv 1 v1 _ rfl rfl).str_inv
  subst e0; subst e1
  refine (Tryz.strings_HasPrefix ⟨s.toArray⟩ ⟨p.toArray⟩ w).mono ?_
  rintro e w' ⟨rfl, rfl⟩
  exact ⟨_, rfl, Below.refl _ _, fun σ => .bool _⟩

theorem decodeOk {H0 : Hp} (hG : TabsG 1 2 3 4 H0) : DecodeOk Tryz.prog H0 111 := fun s H hp => by
  refine leafG (args := [.str s]) hG (fun w σ vs hT hl hv => ?_) H hp
  match vs, hl with
  | [v0], _ =>
  have e0 := (hv 0 v0 _ rfl rfl).str_inv
  subst e0
  refine (Tryz.utf8_DecodeRuneInString ⟨s.toArray⟩ w hT.1).mono ?_
  rintro e w' ⟨rfl, hb⟩
  refine ⟨_, rfl, hb, fun κ => ?_⟩
  rw [decodeGo_eq]
  refine VR.tup [_, _] [_, _] rfl fun i v a hi ha => ?_
  match i with
  | 0 => cases hi; cases ha; exact .d (.int _ _)
  | 1 => cases hi; cases ha; exact .d (.int _ _)
  | i + 2 => cases hi

theorem numberCalls (s : ByteArray) (hlim : s.size ≤ 1048576) (w : World) (h0 : ∃ te pe, w.cell? ⟨3, 0, none⟩ = some (.iface te pe)) (h1 : ∃ te pe, w.cell? ⟨4, 0, none⟩ = some (.iface te pe)) :
    Calls Tryz.prog 117 #[.string s] w fun e w' => e = .returned (.int .i64 (if numOk s.data.toList then 0 else 23)) ∧ Below w.heap.size w w' := by
  obtain ⟨t0, p0, h0⟩ := h0
  obtain ⟨t1, p1, h1⟩ := h1
  rcases h : Lib.parseUintB 63 s.data.toList with u | _ | _
  · have hr : numOk s.data.toList = true := by simp only [numOk, h]
    rw [hr]
    go_enter Tryz.func117, Tryz.ntmps117
    go_wp2_with (go_at_call 128; refine (Any.strconv_ParseUint_10_at63_ok Tryz.laysPu14 s (by omega) u h _).mono ?_; rintro e w' ⟨rfl, hw⟩)
    go_wp2
    go_ret
    refine ⟨by first | rfl | (congr 2; omega), ?_⟩
    rcases hw with rfl | rfl
    · exact Below.refl _ _
    · exact Lib.bytesWorld_below _ _ _
  · have hr : numOk s.data.toList = false := by simp only [numOk, h]
    rw [hr]
    go_enter Tryz.func117, Tryz.ntmps117
    go_wp2_with (go_at_call 128; refine (Any.strconv_ParseUint_10_at63_syntax Tryz.laysPu14 s (by omega) h (.iface t0 p0) _ ?_ (.inr ⟨_, _, rfl⟩)).mono ?_)
    · exact h0
    rintro e W1 ⟨N, rfl, -, -, hb⟩
    go_wp2
    go_ret
    exact ⟨rfl, hb⟩
  · have hr : numOk s.data.toList = false := by simp only [numOk, h]
    rw [hr]
    go_enter Tryz.func117, Tryz.ntmps117
    go_wp2_with (go_at_call 128; refine (Any.strconv_ParseUint_10_at63_range Tryz.laysPu14 s (by omega) h (.iface t1 p1) _ ?_ (.inr ⟨_, _, rfl⟩)).mono ?_)
    · exact h1
    rintro e W1 ⟨N, rfl, -, -, hb⟩
    go_wp2
    go_ret
    exact ⟨rfl, hb⟩

theorem numberOk {H0 : Hp} (hG : TabsG 1 2 3 4 H0) : NumOk Tryz.prog H0 117 := fun s H hp hl => by
  refine leafG (args := [.str s]) (x := .d _) hG (fun w σ vs hT hl' hv => ?_) H hp
  match vs, hl' with
  | [v0], _ =>
  have e0 := (hv 0 v0 _ rfl rfl).str_inv
  subst e0
  refine (numberCalls ⟨s.toArray⟩ (by simpa [ByteArray.size] using hl) w hT.2.1 hT.2.2).mono ?_
  rintro e w' ⟨rfl, hb⟩
  exact ⟨_, rfl, hb, fun κ => .d (.int _ _)⟩

theorem cfWB : compF Tryz.prog [] Tryz.f136 = some (irWriteByte 85 5) := by kernel_rfl
theorem copyOk : CopyOk Tryz.prog 85 80 := fun H i x a hi ha => copyCheckOk hi ha
theorem writeBOk : WriteBOk Tryz.prog 136 80 := fun H i t a bs c => writeByte_acall Tryz.func136 cfWB copyOk H i t a bs c
theorem stringOk' : StringOk Tryz.prog 71 80 := fun H i t a s hi ht hl => stringOk hi ht (by omega)
theorem unquoteOk (s : Bs) (H : Hp) (hs : s.length ≤ 1048576) : ACall Tryz.prog 129 [.d (.str s)] H (fun r H' => r = unqR (unqV s) ∧ H' = H) := h129.unquote indexOk writeBOk stringOk' s hs H

theorem letterOk : ByteOk Tryz.prog 66 letterB := h66.letter
theorem digitOk : ByteOk Tryz.prog 68 digitB := h68.digit
theorem isKeyOk (s : Bs) (H : Hp) : ACall Tryz.prog 67 [.d (.str s)] H (fun r H' => r = .d (.bool (decide (s ∈ keysL))) ∧ H' = H) := h67.isKey h84 h83 h44 s H
theorem isNameOk (s : Bs) (H : Hp) : ACall Tryz.prog 50 [.d (.str s)] H (fun r H' => r = .d (.bool (isNameB s)) ∧ H' = H) := h50.isName letterOk digitOk isKeyOk s H
theorem wordOk {H : Hp} {i : Nat} {ts : TypeId} {text : Bs} {n : Nat} (hi : H[i]? = some (scan ts text n)) (hn : n ≤ text.length) (hl : text.length ≤ 1048576) :
    ACall Tryz.prog 116 [.ptr i 0] H (fun r H' => r = .d (.str ((text.drop n).take (Zam.runN Zam.wordB (text.drop n)))) ∧ H' = H.set i (scan ts text (n + Zam.runN Zam.wordB (text.drop n)))) :=
  h116.word h112 (by kernel_rfl) (h127.wordB letterOk digitOk) hi hn (by omega)
theorem leadOk {H : Hp} {i : Nat} {text : Bs} {n : Nat} (hi : H[i]? = some (scan 109 text n)) (hn : n ≤ text.length) (hl : text.length ≤ 1048576) :
    ACall Tryz.prog 88 [.ptr i 0] H (fun r H' => r = .d (.str ((text.drop n).take (leadS false (text.drop n)))) ∧ H' = H.set i (scan 109 text (n + leadS false (text.drop n)))) :=
  h88.lead h112 (by kernel_rfl) h113.blank (by kernel_rfl) h114.hash (by kernel_rfl) h115.noNl hi hn (by omega)
theorem nextOk {H0 : Hp} (hG : TabsG 1 2 3 4 H0) {H : Hp} {i : Nat} {text : Bs} {n : Nat} (hH : Pre0 H0 H) (h0i : H0.length ≤ i) (hi : H[i]? = some (scan 109 text n)) (hn : n ≤ text.length) (hl : text.length ≤ 1048576) :
    ACall Tryz.prog 89 [.ptr i 0] H (NextQ H i 109 text n (text.drop n) (tokN (text.drop n))) :=
  h89.next h112 (by kernel_rfl) letterOk (by kernel_rfl) digitOk wordOk isKeyOk (numberOk hG) (fun hi hn hl => h118.str unquoteOk hi hn hl) (fun hi hn hl => h119.sign h130 prefixOk hi hn (by omega)) hH h0i hi hn hl
theorem badOk {H0 : Hp} (hG : TabsG 1 2 3 4 H0) (s : Bs) (H : Hp) (hs : s.length ≤ 1048576) (hH : Pre0 H0 H) : ACall Tryz.prog 87 [.d (.str s)] H (fun r H' => r = .d (.int .i64 (badS s)) ∧ H' = H) := h87.bad (decodeOk hG) s hs H hH
theorem lexOk {H0 : Hp} (hG : TabsG 1 2 3 4 H0) (s : Bs) (hs : s.length ≤ 1048576) (H : Hp) (hH : Pre0 H0 H) :
    ACall Tryz.prog 72 [.d (.str s)] H (fun r H' => r = .tup [.d (.sl true 4 ((lexS s).1.map encTk)), .d (.int .i64 (lexS s).2.1), .d (.int .i64 (lexS s).2.2)] ∧ H' = H) :=
  h72.lex (badOk hG) leadOk (nextOk hG) s hs H hH
theorem rdigitOk : ByteOk Tryz.prog 62 digitB := h62.digit
theorem rletterOk : ByteOk Tryz.prog 63 letterB := h63.letter
theorem risKeyOk (s : Bs) (H : Hp) : ACall Tryz.prog 61 [.d (.str s)] H (fun r H' => r = .d (.bool (decide (s ∈ keysL))) ∧ H' = H) := isKey_acall Tryz.func61 tcf61 s H
theorem risNameOk (s : Bs) (H : Hp) : ACall Tryz.prog 48 [.d (.str s)] H (fun r H' => r = .d (.bool (isNameB s)) ∧ H' = H) := isName_acall Tryz.func48 tcf48 risKeyOk rdigitOk rletterOk s H
end Go.Proofs.Zy
