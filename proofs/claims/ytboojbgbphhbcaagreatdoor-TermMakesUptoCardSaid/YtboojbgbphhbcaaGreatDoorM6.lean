/-
  Texts of one proof, one behind the other: An abstract machine over the model, hundred and fourteenth part: types made out of others: functions, twins; how deep one is, over any program that asks. The lengths are bounded. An abstract machine over the model, fifty-fifth part: plain facts on texts that are UTF-8. No program in sight. No condition. An abstract machine over the model, fifty-sixth part: plain facts on a text's tokens. No program in sight. No condition. An abstract machine over the model, seventy-ninth part: the tree of a text, over any program that has the functions. The lengths are bounded. An abstract machine over the model, ninety-ninth part: parse.Type: what it answers at any text. No program in sight. The lengths are bounded. An abstract machine over the model, hundred and fifteenth part: term.Of, term.Parse, over any program that has their functions. The lengths are bounded. An abstract machine over the model, hundred and sixteenth part: types that trees tell: how great they are; the statements' examples. No program in sight. An abstract machine over the model, hundred and seventh part: when a type goes where another one is wanted, over any program that asks. The lengths are bounded. An abstract machine over the model, hundred and eighth part: the document's answer on when a type goes where another one is wanted, over any program that asks. The lengths are bounded. An abstract machine over the model, hundred and ninth part: whether a type may be, the document's answer, over any program that asks. The lengths are bounded. An abstract machine over the model, hundred and seventeenth part: whether a type is without any, the document's answer; the guards of the tenth chapter's laws, over any program that asks. The lengths are bounded. An abstract machine over the model, hundred and eighteenth part: the tenth chapter's sentinel, and its laws on going, over any program that asks. The lengths are bounded. An abstract machine over the model, hundred and nineteenth part: the tenth chapter's first laws, over any program that asks. The lengths are bounded. An abstract machine over the model, hundred and twentieth part: what two types have in common, as the program holds it. Plain Lean. No program in sight. An abstract machine over the model, hundred and twenty-first part: what two types have in common, over any program that asks. The lengths are bounded. An abstract machine over the model, hundred and thirty-sixth part: a record of labels and parts, the document's answer, over any program that asks. The lengths are bounded. An abstract machine over the model, hundred and thirty-seventh part: a record of labels and parts, the document's answer, step by step, over any program that asks. The lengths are bounded. An abstract machine over the model, hundred and twenty-ninth part: what a record has at its labels, how deep it is. Plain Lean. No program in sight. An abstract machine over the model, hundred and thirty-eighth part: the ninth chapter's law on what is made, over any program that asks. The lengths are bounded. An abstract machine over the model, hundred and thirtieth part: the ninth chapter's law on a record's parts, over any program that asks. The lengths are bounded. An abstract machine over the model, hundred and twenty-fifth part: texts joined by the library. No program in sight. The lengths are bounded. An abstract machine over the model, hundred and twenty-sixth part: a type's text. Plain Lean. No program in sight. An abstract machine over the model, hundred and twenty-seventh part: a type's text, over any program that asks. The lengths are bounded. An abstract machine over the model, hundred and twenty-eighth part: the ninth chapter's sentinel, over any program that asks. The lengths are bounded. strconv.ParseUint(s, 10, 63), over any program that has it: turned from the kit's worked proofs at 32 and 64 bits. No condition but on lengths. The functions of the layers of runes and tokens at this program. (Printed by mktok.py.) strings.Builder's copyCheck and String on the abstract machine, at this program. No condition. The layers of runes and tokens at this program: the library's functions, one by one, and what token.Lex answers. (Printed by mktok.py.) The lengths are bounded. An abstract machine over the model, hundred and tenth part: slices.AppendSeq at nil and an iterator that leaves alone what lay before, where what is done with each element does so, too. No program in sight. The lengths are bounded. Contracts of the library's functions at this program, out of the kit's shelf. No condition. slices.AppendSeq over slices.Values at texts, slices.Sort and Compact of texts, at this program. The lengths are bounded. The layer of types, and that of relations, at this program. (Printed by mkty.py.) The lengths are bounded. The tenth chapter's laws at this program. The lengths are bounded. What the arguments of these laws are: types as the program holds them, texts, lists of both. DERIVED: THE SHELF's CONTRACTS AT THIS DUMP, IN PLAIN WORDS (tools/lay-plain.mjs out of 'TryzJoin.lean', which tools/lay-shelf.mjs wrote): THE SAME DECLARATIONS UNDER THE SAME NAMES: 'import', 'namespace', 'open', 'def', 'theorem' AND NOTHING ELSE: no command of the shelf's: FOR A HAND-IN. Each laying: the table of numbers ('.._ren') and one theorem, a field a fact of the dump's own or the kernel's comparison; each contract: ONE APPLICATION. The ninth chapter's law on a record's parts, at this program. The lengths are bounded. The ninth chapter's law on what is made, at this program. The lengths are bounded.
-/
import Derived.Test.YtboojbgbphhbcaaGreatDoorM5
import Derived.Test.YtboojbgbphhbcaaGreatDoorM4
import Derived.KernelRfl
import Derived.Test.YtboojbgbphhbcaaGreatDoorM3
import Derived.Shelf.Strings.OnBuilder
import Derived.BigCall
import Derived.BigGuard
import Derived.Laws.Closers25
import Derived.Laws.Closers25b
import Derived.Laws.Strings3
import Derived.Lib.AtoiErrMem
import Derived.Lib.ConvBytes
import Derived.Lib.Hide
import Derived.Lib.ParseIntBMem
import Derived.Lib.Strings
import Derived.Lib.Walk
import Derived.Shelf.Pu.Lays
import Derived.Shelf.Pu.Lower
import Derived.Shelf.Pu.ParseUint10
import Derived.Shelf.Pu.ParseUint10At
import Derived.Shelf.Pu.ParseUint10b16
import Derived.Shelf.Pu.ParseUint10b32
import Derived.Shelf.Pu.ParseUint10b64
import Derived.Shelf.Pu.ParseUint10b8
import Derived.Shelf.Pu.ParseUintEmpty
import Derived.Shelf.Pu.ToError
import Derived.Shelf.Pu.ToErrorRange
import Derived.WalkKit
import Derived.Test.YtboojbgbphhbcaaGreatDoorProg
import Derived.Shelf.SlIter.Collect
import Derived.Shelf.Strings.Builder1
import Derived.Shelf.Small.Strs
import Derived.Shelf.Strconv.Itoa0
import Derived.Shelf.Strconv.Itoa1
import Derived.Shelf.LaysM
import Derived.Shelf.Strconv.Itoa2
import Derived.Shelf.Strconv.Itoa3
import Derived.Ground.MpProg
import Derived.Shelf.Pu.ParseUintPublic10
import Derived.Shelf.Pu.ErrVarParseUint
import Derived.Shelf.Strings.Search1
import Derived.Shelf.Strings.Prefix
import Derived.Shelf.Unicode.Decode
import Derived.Shelf.Unicode.DecodeSlow
import Derived.Shelf.Unicode.DecodeAny
import Derived.Ground.SlgnProg
import Derived.Shelf.SlicesG.CompactS
import Derived.Ground.SlgmProg
import Derived.Shelf.SortM.Plain
import Derived.Shelf.SortM.SortNone
import Derived.RangeFuncBox
import Derived.RangeFuncLeaves
import Derived.Shelf.Abstract
import Derived.OwnWalkIn
import Derived.TacticsInMore
import Derived.LoopNIn
import Derived.LoopIn
import Derived.Shelf.Lays
namespace Go.Zam
set_option linter.all false
set_option maxRecDepth 100000
set_option maxHeartbeats 2000000
open Classical

/-- a function's type -/
def T.fn (v : T) (z : Bool) (ps : List T) : T := .mk 4 true [] (z && ps.isEmpty) (ps ++ [v])
mutual
/-- a type in new memory -/
def T.twin : T → T
  | .mk k z ns _ ps => .mk k (z && ns.isEmpty) ns true (T.twins ps)
def T.twins : List T → List T
  | [] => []
  | p :: r => T.twin p :: T.twins r
end
theorem T.twins_map : ∀ l : List T, T.twins l = l.map T.twin
  | [] => rfl
  | p :: r => by rw [T.twins, T.twins_map r]; rfl
theorem T.twin_mk (k : Int) (z : Bool) (ns : List Str') (y : Bool) (ps : List T) : T.twin (.mk k z ns y ps) = .mk k (z && ns.isEmpty) ns true (ps.map T.twin) := by rw [T.twin, T.twins_map]
theorem T.deps_take_succ {ps : List T} {i : Nat} (h : i < ps.length) : T.deps (ps.take (i + 1)) = max (T.deps (ps.take i)) ps[i].dep := by
  rw [List.take_succ_eq_append_getElem h, T.deps_snoc]

section
variable {P : Program}

theorem Has.clT {f : FuncId} {t : TypeId} (h : HasT P [2, 5] f (irClT t)) (z : Bool) (rows : List (List D)) (hb : rows.length * 56 ≤ 140737488355328) (H : Hp) :
    ACall P f [.d (.sl z 3 rows)] H (fun r H' => r = .osl (z && rows.isEmpty) 3 rows (H.length + 1) ∧ H' = H ++ [.tok 0 3 t, .tok rows.length 3 t]) := by
  obtain ⟨fn, hf, hcf⟩ := h
  refine acall_fink 2 hf hcf (by simp [irClT]) fun hcl _ => ?_
  by_cases hz : (z && rows.isEmpty) = true
  · obtain ⟨rfl, h2⟩ : z = true ∧ rows.isEmpty = true := by simpa using hz
    have : rows = [] := by simpa using h2
    subst this
    simp [irClT]
    simp [RetK, cut_appk hcl]
  · have hz' : (z && rows.isEmpty) = false := by simpa using hz
    simp [irClT, hz']
    simp [appA, hb, Nat.add_assoc]
    simp [RetK, cut_appk hcl, hz']

theorem Has.tyFunc {f fc : FuncId} {t : TypeId} (h : HasT P [4000000] f (irTyFunc fc t)) (hc : HasT P [2, 5] fc (irClT t)) (v : T) (z : Bool) (ps : List T) (hb : (ps.length + 1) * 56 ≤ 140737488355328) (H : Hp) :
    ACall P f [v.a, .d (.sl z 3 (ps.map T.enc))] H (fun r H' => r = (T.fn v z ps).a ∧ H' = H) := by
  obtain ⟨fn, hf, hcf⟩ := h
  refine acall_fin hf hcf (by simp [irTyFunc]) fun hcl _ => ?_
  have hc' := fun H' => Has.clT hc z (ps.map T.enc) (by simp; omega) H'
  simp only [List.length_map] at hc'
  obtain ⟨k, zn, ns, y, qs⟩ := v
  rw [T.a_mk, T.fn, T.a_mk]
  simp [irTyFunc]
  refine ⟨?_, ?_⟩
  all_goals
    refine CallK_of' (hc' _) ?_
    simp [appA, hb, Nat.add_assoc]
    simp [RetK, cut_app hcl, T.enc_mk]

theorem Has.tyTwin {f fc : FuncId} {t fo : TypeId} (h : HasT P [11] f (irTyTwin fc f t)) (hc : HasT P [1000005] fc (irCloneM 1 16 fo)) (v : T) : v.Fit 1048576 → ∀ H, ACall P f [v.a] H (fun r H' => r = v.twin.a ∧ H' = H) := by
  induction v using T.ind with
  | h k z ns y ps ih =>
  rintro (⟨_, _, _, _, _, b2, b3, b4, b5⟩) H
  have h0 := h
  obtain ⟨fn, hf, hcf⟩ := h
  obtain ⟨fnc, hcf1, hcf2⟩ := hc
  have hc' := fun H' => cloneD_acall (H := H') (z := z) hcf1 hcf2 (rows := ns.map encStr) (by simp; omega)
  simp only [List.isEmpty_map] at hc'
  refine acall_fin hf hcf (by simp [irTyTwin]) fun hcl _ => ?_
  rw [T.a_mk, T.twin_mk, T.a_mk]
  simp only [irTyTwin]
  refine Seq_out (fun fr H' => fr 1 = .ptr H.length 0 ∧ fr 2 = .ptr (H.length + 1) 0 ∧ H' = H ++ [.box t [.d (.int .i64 k), .d (.sl z 1 (ns.map encStr)), .d (.sl y 3 (ps.map T.enc))], .box t [.d (.int .i64 0), .d (.sl true 1 []), .d (.sl true 3 [])]]) (fun _ _ => False) (by simp) (fun _ _ h => h.elim) ?_
  rintro fr H' ⟨f1, f2, rfl⟩
  refine Seq_out (fun fr H' => fr 1 = .ptr H.length 0 ∧ fr 2 = .ptr (H.length + 1) 0 ∧
    ((fr 3 = .ptr (H.length + 3) 0 ∧ H' = H ++ [.box t [.d (.int .i64 k), .d (.sl z 1 (ns.map encStr)), .d (.sl y 3 (ps.map T.enc))], .box t [.d (.int .i64 0), .d (.sl true 1 []), .d (.sl true 3 [])],
        .tok 0 3 t, .box t [.d (.int .i64 k), .d (.sl (z && ns.isEmpty) 1 (ns.map encStr)), .osl true 3 [] (H.length + 2)]]) ∨
     (fr 3 = .ptr (H.length + 2) 0 ∧ H' = H ++ [.box t [.d (.int .i64 k), .d (.sl z 1 (ns.map encStr)), .d (.sl y 3 (ps.map T.enc))], .box t [.d (.int .i64 0), .d (.sl true 1 []), .d (.sl true 3 [])],
        .box t [.d (.int .i64 k), .d (.sl (z && ns.isEmpty) 1 (ns.map encStr)), .osl true 3 [] (H.length + 3)], .tok 0 3 t]))) (fun _ _ => False) ?_ (fun _ _ h => h.elim) ?_
  · simp [f1]
    repeat' apply And.intro
    all_goals
      refine CallK_of' (hc' _) ?_
      simp [f1, f2]
  rintro fr H' ⟨f1, f2, hor⟩
  rcases hor with ⟨f3, rfl⟩ | ⟨f3, rfl⟩
  · simp [f1]
    refine RangeK_of (H.length + 4) ps.length (fun i fr H' => fr 2 = .ptr (H.length + 1) 0 ∧ fr 3 = .ptr (H.length + 3) 0 ∧ fr 13 = .d (.sl y 3 (ps.map T.enc)) ∧ H' = H ++ [.box t [.d (.int .i64 k), .d (.sl z 1 (ns.map encStr)), .d (.sl y 3 (ps.map T.enc))], .box t [.d (.int .i64 0), .d (.sl true 1 []), .d (.sl true 3 [])],
        .tok i 3 t, .box t [.d (.int .i64 k), .d (.sl (z && ns.isEmpty) 1 (ns.map encStr)), .osl true 3 ((ps.map (T.enc ∘ T.twin)).take i) (H.length + 2)]]) (by omega) (by decide) (by simp) (by simp) ?_ ?_ ?_
    · simp [f2, f3, cut_appk hcl]
    · rintro i fr H' hi f15 f14 ⟨f2, f3, f13, rfl⟩
      have hr := rowAt_map T.enc hi
      have hx := ih ps[i] (List.getElem_mem hi) (b5 _ (List.getElem_mem hi))
      have ht := take_map_succ (T.enc ∘ T.twin) hi
      generalize ps[i] = p at hr hx ht
      obtain ⟨k', z', ns', y', ps'⟩ := p
      simp only [T.enc_mk, T.a_mk, T.twin_mk, Function.comp_apply] at hr hx ht
      have hm : min i ps.length = i := by omega
      have hcap : (i + 1) * 56 ≤ 140737488355328 := by omega
      simp [f15, f13, hr, f3]
      refine CallD_of (hx _) ?_
      simp [f3, appA, hm, hcap, f15]
      refine NextK_of (H.length + 4) (Nat.le_refl _) (by simp [f15, f14]) ?_
      simp [f2, f3, f13, cut_appk hcl, ht]
    · rintro fr H' f15 f14 ⟨f2, f3, f13, rfl⟩
      have hfull : (ps.map (T.enc ∘ T.twin)).take ps.length = ps.map (T.enc ∘ T.twin) := List.take_of_length_le (by simp)
      simp [f2, f3, hfull]
      simp [RetK, cut_app hcl, f2]
  · simp [f1]
    refine RangeK_of (H.length + 4) ps.length (fun i fr H' => fr 2 = .ptr (H.length + 1) 0 ∧ fr 3 = .ptr (H.length + 2) 0 ∧ fr 13 = .d (.sl y 3 (ps.map T.enc)) ∧ H' = H ++ [.box t [.d (.int .i64 k), .d (.sl z 1 (ns.map encStr)), .d (.sl y 3 (ps.map T.enc))], .box t [.d (.int .i64 0), .d (.sl true 1 []), .d (.sl true 3 [])],
        .box t [.d (.int .i64 k), .d (.sl (z && ns.isEmpty) 1 (ns.map encStr)), .osl true 3 ((ps.map (T.enc ∘ T.twin)).take i) (H.length + 3)], .tok i 3 t]) (by omega) (by decide) (by simp) (by simp) ?_ ?_ ?_
    · simp [f2, f3, cut_appk hcl]
    · rintro i fr H' hi f15 f14 ⟨f2, f3, f13, rfl⟩
      have hr := rowAt_map T.enc hi
      have hx := ih ps[i] (List.getElem_mem hi) (b5 _ (List.getElem_mem hi))
      have ht := take_map_succ (T.enc ∘ T.twin) hi
      generalize ps[i] = p at hr hx ht
      obtain ⟨k', z', ns', y', ps'⟩ := p
      simp only [T.enc_mk, T.a_mk, T.twin_mk, Function.comp_apply] at hr hx ht
      have hm : min i ps.length = i := by omega
      have hcap : (i + 1) * 56 ≤ 140737488355328 := by omega
      simp [f15, f13, hr, f3]
      refine CallD_of (hx _) ?_
      simp [f3, appA, hm, hcap, f15]
      refine NextK_of (H.length + 4) (Nat.le_refl _) (by simp [f15, f14]) ?_
      simp [f2, f3, f13, cut_appk hcl, ht]
    · rintro fr H' f15 f14 ⟨f2, f3, f13, rfl⟩
      have hfull : (ps.map (T.enc ∘ T.twin)).take ps.length = ps.map (T.enc ∘ T.twin) := List.take_of_length_le (by simp)
      simp [f2, f3, hfull]
      simp [RetK, cut_app hcl, f2]

theorem Has.tyDepth {f : FuncId} {t : TypeId} (h : Has P f (irTyDepth f t)) (v : T) : v.Fit 1048576 → v.dep ≤ 1125899906842624 → ∀ H, ACall P f [v.a] H (fun r H' => r = .d (.int .i64 (v.dep : Int)) ∧ H' = H) := by
  induction v using T.ind with
  | h k z ns y ps ih =>
  rintro (⟨_, _, _, _, _, b2, b3, b4, b5⟩) hd H
  have h0 := h
  obtain ⟨fn, hf, hcf⟩ := h
  refine acall_fin hf hcf (by simp [irTyDepth]) fun hcl _ => ?_
  rw [T.a_mk, T.dep_mk]
  rw [T.dep_mk] at hd
  have hdp : ∀ p ∈ ps, p.dep ≤ T.deps ps := T.deps_le.1 (Nat.le_refl _)
  simp [irTyDepth]
  refine RangeK_of (H.length + 1) ps.length (fun i fr H' => fr 3 = .d (.int .i64 (T.deps (ps.take i) : Int)) ∧ fr 7 = .d (.sl y 3 (ps.map T.enc)) ∧ H' = H ++ [.box t [.d (.int .i64 k), .d (.sl z 1 (ns.map encStr)), .d (.sl y 3 (ps.map T.enc))]]) (by omega) (by decide) (by simp) (by simp) ?_ ?_ ?_
  · simp [T.deps, cut_appk hcl]
  · rintro i fr H' hi f9 f8 ⟨f3, f7, rfl⟩
    have hr := rowAt_map T.enc hi
    have hmem := List.getElem_mem hi
    have hx := ih ps[i] hmem (b5 _ hmem) (by have := hdp _ hmem; omega)
    have ht := T.deps_take_succ hi
    generalize ps[i] = p at hr hx ht
    obtain ⟨k', z', ns', y', ps'⟩ := p
    generalize hdd : (T.mk k' z' ns' y' ps').dep = dd at hx ht
    simp only [T.enc_mk, T.a_mk] at hr hx
    simp [f9, f7, hr, f3]
    refine CallK_of' (hx _) ?_
    simp
    refine NextK_of (H.length + 1) (Nat.le_refl _) (by simp [f9, f8]) ?_
    simp [f7, cut_appk hcl, ht]
    omega
  · rintro fr H' f9 f8 ⟨f3, f7, rfl⟩
    rw [List.take_of_length_le (Nat.le_refl _)] at f3
    have hw : IntKind.i64.wrap ((T.deps ps : Int) + 1) = (T.deps ps : Int) + 1 := wrap_i64 (by omega) (by omega)
    simp [f3, hw]
    simp [RetK, cut_app hcl]

end
end Go.Zam

namespace Go.Zam
set_option linter.all false
set_option maxRecDepth 100000
set_option maxHeartbeats 2000000

inductive Utf : Bs → Prop
  | nil : Utf []
  | step {s : Bs} (h : s ≠ []) (hd : decU s ≠ (65533, 1)) (hr : Utf (s.drop (decU s).2)) : Utf s

theorem badF_ge : ∀ (f : Nat) (s : Bs) (n : Nat), badF f s n = -1 ∨ 0 ≤ badF f s n
  | 0, _, _ => .inl rfl
  | f + 1, s, n => by
    rw [badF]
    split
    · exact .inl rfl
    · split
      · exact .inr (by omega)
      · exact badF_ge f _ _

theorem badF_utf : ∀ (f : Nat) (s : Bs) (n : Nat), s.length ≤ f → (badF f s n = -1 ↔ Utf s)
  | 0, s, n, h => by
    have : s = [] := List.eq_nil_of_length_eq_zero (by omega)
    subst this
    exact ⟨fun _ => .nil, fun _ => rfl⟩
  | f + 1, s, n, h => by
    rw [badF]
    by_cases hs : s = []
    · rw [if_pos hs]; subst hs; exact ⟨fun _ => .nil, fun _ => rfl⟩
    rw [if_neg hs]
    by_cases hd : decU s = (65533, 1)
    · rw [if_pos hd]
      constructor
      · intro e; omega
      · intro hu
        cases hu with
        | nil => exact absurd rfl hs
        | step _ h2 _ => exact absurd hd h2
    · rw [if_neg hd]
      have hl := decU_len hs
      rw [badF_utf f _ _ (by simp; omega)]
      constructor
      · exact fun h => .step hs hd h
      · intro hu
        cases hu with
        | nil => exact absurd rfl hs
        | step _ _ h3 => exact h3

theorem badS_utf (s : Bs) : ¬ 0 ≤ badS s ↔ Utf s := by
  rw [← badF_utf s.length s 0 (Nat.le_refl _)]
  have := badF_ge s.length s 0
  unfold badS
  omega

theorem decodeN_w (n b0 b1 b2 b3 : Nat) (hn : 1 ≤ n) : Lib.decodeN n b0 b1 b2 b3 = (65533, 1) ∨ ((Lib.decodeN n b0 b1 b2 b3).2 = 1 ∧ b0 < 128) ∨ ((Lib.decodeN n b0 b1 b2 b3).2 = 2 ∧ 2 ≤ n ∧ 128 ≤ b0 ∧ 128 ≤ b1) ∨ ((Lib.decodeN n b0 b1 b2 b3).2 = 3 ∧ 3 ≤ n ∧ 128 ≤ b0 ∧ 128 ≤ b1 ∧ 128 ≤ b2) ∨ ((Lib.decodeN n b0 b1 b2 b3).2 = 4 ∧ 4 ≤ n ∧ 128 ≤ b0 ∧ 128 ≤ b1 ∧ 128 ≤ b2 ∧ 128 ≤ b3) := by
  unfold Lib.decodeN
  (repeat' split) <;> simp <;> omega

theorem decodeN_1 (n n' b0 b1 b2 b3 c1 c2 c3 : Nat) (h : b0 < 128) : Lib.decodeN n' b0 c1 c2 c3 = Lib.decodeN n b0 b1 b2 b3 := by simp [Lib.decodeN, h]
theorem decodeN_2 (n n' b0 b1 b2 b3 c2 c3 : Nat) (hn : 2 ≤ n) (hn' : 2 ≤ n') (h : (Lib.decodeN n b0 b1 b2 b3).2 = 2) : Lib.decodeN n' b0 b1 c2 c3 = Lib.decodeN n b0 b1 b2 b3 := by
  unfold Lib.decodeN at *
  (repeat' split at h) <;> simp only at h <;> try omega
  all_goals (repeat' split) <;> first | rfl | (exfalso; omega)
theorem decodeN_3 (n n' b0 b1 b2 b3 c3 : Nat) (hn : 3 ≤ n) (hn' : 3 ≤ n') (h : (Lib.decodeN n b0 b1 b2 b3).2 = 3) : Lib.decodeN n' b0 b1 b2 c3 = Lib.decodeN n b0 b1 b2 b3 := by
  unfold Lib.decodeN at *
  (repeat' split at h) <;> simp only at h <;> try omega
  all_goals (repeat' split) <;> first | rfl | (exfalso; omega)
theorem decodeN_4 (n n' b0 b1 b2 b3 : Nat) (hn : 4 ≤ n) (hn' : 4 ≤ n') (h : (Lib.decodeN n b0 b1 b2 b3).2 = 4) : Lib.decodeN n' b0 b1 b2 b3 = Lib.decodeN n b0 b1 b2 b3 := by
  unfold Lib.decodeN at *
  (repeat' split at h) <;> simp only at h <;> try omega
  all_goals (repeat' split) <;> first | rfl | (exfalso; omega)

theorem getD_take_app (s r : Bs) (w i : Nat) (h : i < w) (hw : w ≤ s.length) : (s.take w ++ r).getD i 0 = s.getD i 0 := by
  have h1 : i < s.length := by omega
  simp [List.getD, List.getElem?_append, h, h1, Nat.min_eq_left hw]

theorem decU_ne {s : Bs} (h : s ≠ []) : decU s = Lib.decodeN s.length (s.getD 0 0).toNat (s.getD 1 0).toNat (s.getD 2 0).toNat (s.getD 3 0).toNat := by unfold decU; rw [if_neg h]

theorem Utf.inv {s : Bs} (hu : Utf s) (h : s ≠ []) : decU s ≠ (65533, 1) ∧ Utf (s.drop (decU s).2) := by
  cases hu with
  | nil => exact absurd rfl h
  | step h1 h2 h3 => exact ⟨h2, h3⟩

/-- a character stays what it is, whatever follows -/
theorem decU_loc {s : Bs} (hs : s ≠ []) (hd : decU s ≠ (65533, 1)) (r : Bs) : decU (s.take (decU s).2 ++ r) = decU s ∧ (2 ≤ (decU s).2 → ∀ i, i < (decU s).2 → 128 ≤ (s.getD i 0).toNat) := by
  have hl := decU_len hs
  have hn : 1 ≤ s.length := by omega
  have hE : decU s = Lib.decodeN s.length (s.getD 0 0).toNat (s.getD 1 0).toNat (s.getD 2 0).toNat (s.getD 3 0).toNat := decU_ne hs
  have hne : s.take (decU s).2 ++ r ≠ [] := fun e => by
    have := congrArg List.length e
    simp only [List.length_append, List.length_take, List.length_nil] at this
    omega
  have hlen : (s.take (decU s).2 ++ r).length = (decU s).2 + r.length := by simp only [List.length_append, List.length_take]; omega
  have hF : decU (s.take (decU s).2 ++ r) = Lib.decodeN ((decU s).2 + r.length) ((s.take (decU s).2 ++ r).getD 0 0).toNat ((s.take (decU s).2 ++ r).getD 1 0).toNat ((s.take (decU s).2 ++ r).getD 2 0).toNat ((s.take (decU s).2 ++ r).getD 3 0).toNat := by
    rw [← hlen]; exact decU_ne hne
  have hg := fun i h => getD_take_app s r (decU s).2 i h hl.2
  rw [hF]
  rw [hE] at hd
  rcases decodeN_w s.length (s.getD 0 0).toNat (s.getD 1 0).toNat (s.getD 2 0).toNat (s.getD 3 0).toNat hn with h | ⟨h1, h2⟩ | ⟨h1, h2, h3, h4⟩ | ⟨h1, h2, h3, h4, h5⟩ | ⟨h1, h2, h3, h4, h5, h6⟩
  · exact absurd h hd
  · rw [← hE] at h1
    refine ⟨?_, fun h => by omega⟩
    rw [hg 0 (by omega), hE]
    exact decodeN_1 _ _ _ _ _ _ _ _ _ h2
  · have h1' := h1
    rw [← hE] at h1
    refine ⟨?_, fun _ i hi => ?_⟩
    · rw [hg 0 (by omega), hg 1 (by omega), hE]
      rw [hE] at h1 
      exact decodeN_2 _ _ _ _ _ _ _ _ h2 (by omega) h1'
    · match i, (show i < 2 by omega) with
      | 0, _ => exact h3
      | 1, _ => exact h4
  · have h1' := h1
    rw [← hE] at h1
    refine ⟨?_, fun _ i hi => ?_⟩
    · rw [hg 0 (by omega), hg 1 (by omega), hg 2 (by omega), hE]
      rw [hE] at h1 
      exact decodeN_3 _ _ _ _ _ _ _ h2 (by omega) h1'
    · match i, (show i < 3 by omega) with
      | 0, _ => exact h3
      | 1, _ => exact h4
      | 2, _ => exact h5
  · have h1' := h1
    rw [← hE] at h1
    refine ⟨?_, fun _ i hi => ?_⟩
    · rw [hg 0 (by omega), hg 1 (by omega), hg 2 (by omega), hg 3 (by omega), hE]
      rw [hE] at h1 
      exact decodeN_4 _ _ _ _ _ _ h2 (by omega) h1'
    · match i, (show i < 4 by omega) with
      | 0, _ => exact h3
      | 1, _ => exact h4
      | 2, _ => exact h5
      | 3, _ => exact h6

theorem Utf.app {s t : Bs} (hs : Utf s) (ht : Utf t) : Utf (s ++ t) := by
  induction hs with
  | nil => exact ht
  | @step s h hd hr ih =>
    have hl := decU_len h
    have hloc := (decU_loc h hd (s.drop (decU s).2 ++ t)).1
    rw [← List.append_assoc, List.take_append_drop] at hloc
    refine .step (by simp [h]) (by rw [hloc]; exact hd) ?_
    rw [hloc, List.drop_append_of_le_length hl.2]
    exact ih

theorem Utf.ahead : ∀ (m : Nat) {a b : Bs}, a.length ≤ m → Utf (a ++ b) → (∀ x, a.getLast? = some x → x.toNat < 128) → Utf a
  | m, [], b, _, _, _ => .nil
  | 0, x :: a, b, h, _, _ => by simp at h
  | m + 1, x :: a, b, h, hu, hlast => by
    generalize hA : x :: a = A at *
    have hne : A ≠ [] := by rw [← hA]; simp
    have h1 : A ++ b ≠ [] := by simp [hne]
    obtain ⟨hd, hr⟩ := hu.inv h1
    · have hl := decU_len h1
      have hloc := decU_loc h1 hd
      rcases Nat.lt_or_ge A.length (decU (A ++ b)).2 with hw | hw
      · exfalso
        have hA1 : 1 ≤ A.length := by rw [← hA]; simp
        have := (hloc []).2 (by omega) (A.length - 1) (by omega)
        have hg : A.getLast? = some (A[A.length - 1]'(by omega)) := by rw [List.getLast?_eq_getElem?, List.getElem?_eq_getElem]
        have h2 := hlast _ hg
        have h3 : (A ++ b).getD (A.length - 1) 0 = A[A.length - 1]'(by omega) := by
          simp [List.getD, List.getElem?_append, show A.length - 1 < A.length by omega]
        rw [h3] at this
        omega
      · have e1 : (A ++ b).take (decU (A ++ b)).2 = A.take (decU (A ++ b)).2 := List.take_append_of_le_length hw
        have h3 := (hloc (A.drop (decU (A ++ b)).2)).1
        rw [e1, List.take_append_drop] at h3
        have hA1 := decU_len hne
        refine .step hne (by rw [h3]; exact hd) ?_
        rw [h3]
        rw [List.drop_append_of_le_length hw] at hr
        refine Utf.ahead m (by simp; omega) hr fun y hy => hlast y ?_
        rw [List.getLast?_drop] at hy
        split at hy
        · cases hy
        · exact hy

end Go.Zam

namespace Go.Zam
set_option linter.all false
set_option maxRecDepth 100000
set_option maxHeartbeats 2000000

/-- the tokens of a text that begins at a place -/
inductive Toks : Bs → Nat → List Tk → Prop
  | fin {s : Bs} {n : Nat} (h : (tokN (s.drop (leadS false s))).1 = 0) (h0 : s.drop (leadS false s) = []) : Toks s n [⟨0, n + leadS false s, s.take (leadS false s), []⟩]
  | tok {s : Bs} {n : Nat} {l : List Tk} (h : (tokN (s.drop (leadS false s))).1 = 0) (h0 : s.drop (leadS false s) ≠ []) (hr : Toks ((s.drop (leadS false s)).drop (tokN (s.drop (leadS false s))).2.2) (n + leadS false s + (tokN (s.drop (leadS false s))).2.2) l) :
      Toks s n (⟨(tokN (s.drop (leadS false s))).2.1, n + leadS false s, s.take (leadS false s), (s.drop (leadS false s)).take (tokN (s.drop (leadS false s))).2.2⟩ :: l)

theorem lexF_toks : ∀ (f : Nat) (s : Bs) (n c : Nat), s.length < f → ((lexF f s n c).2.1 = 0 ↔ ∃ l, Toks s n l ∧ c + l.length ≤ 4000) ∧ ((lexF f s n c).2.1 = 0 → Toks s n (lexF f s n c).1 ∧ c + (lexF f s n c).1.length ≤ 4000)
  | 0, s, n, c, h => by omega
  | f + 1, s, n, c, h => by
    have htl := tokN_len (s.drop (leadS false s))
    obtain ⟨t1, t2, t3, t4⟩ := htl
    rw [lexF]
    by_cases he : (tokN (s.drop (leadS false s))).1 = 0
    case neg =>
      rw [if_pos he]
      refine ⟨⟨fun e => absurd e he, ?_⟩, fun e => absurd e he⟩
      rintro ⟨l, hl, -⟩
      cases hl with
      | fin h1 h2 => exact absurd h1 he
      | tok h1 h2 h3 => exact absurd h1 he
    rw [if_neg (by simp [he])]
    by_cases hc : 4000 ≤ c
    case pos =>
      rw [if_pos hc]
      refine ⟨⟨fun e => absurd e (by simp), ?_⟩, fun e => absurd e (by simp)⟩
      rintro ⟨l, hl, hlc⟩
      cases hl with
      | fin h1 h2 => simp at hlc; omega
      | tok h1 h2 h3 => simp at hlc; omega
    rw [if_neg hc]
    by_cases hk : (tokN (s.drop (leadS false s))).2.1 = 0
    · rw [if_pos hk]
      have hnil := t2 he hk
      have hT : Toks s n [⟨(tokN (s.drop (leadS false s))).2.1, n + leadS false s, s.take (leadS false s), (s.drop (leadS false s)).take (tokN (s.drop (leadS false s))).2.2⟩] := by
        have := Toks.fin (n := n) he hnil
        rw [hk, hnil]
        simpa using this
      exact ⟨⟨fun _ => ⟨_, hT, by simp; omega⟩, fun _ => rfl⟩, fun _ => ⟨hT, by simp; omega⟩⟩
    · rw [if_neg hk]
      have hne : s.drop (leadS false s) ≠ [] := fun e => hk (t4 e)
      have hm := t3 he hne
      have hlen : ((s.drop (leadS false s)).drop (tokN (s.drop (leadS false s))).2.2).length < f := by
        simp only [List.length_drop] at t1 ⊢
        have : leadS false s < s.length := by
          rcases Nat.lt_or_ge (leadS false s) s.length with h' | h'
          · exact h'
          · exact absurd (List.drop_eq_nil_of_le h') hne
        omega
      obtain ⟨i1, i2⟩ := lexF_toks f _ (n + leadS false s + (tokN (s.drop (leadS false s))).2.2) (c + 1) hlen
      generalize lexF f ((s.drop (leadS false s)).drop (tokN (s.drop (leadS false s))).2.2) (n + leadS false s + (tokN (s.drop (leadS false s))).2.2) (c + 1) = R at i1 i2
      by_cases hR : R.2.1 = 0
      · rw [if_pos hR]
        obtain ⟨j1, j2⟩ := i2 hR
        have hT := Toks.tok (n := n) he hne j1
        exact ⟨⟨fun _ => ⟨_, hT, by simp; omega⟩, fun _ => rfl⟩, fun _ => ⟨hT, by simp; omega⟩⟩
      · rw [if_neg hR]
        refine ⟨⟨fun e => absurd e hR, ?_⟩, fun e => absurd e hR⟩
        rintro ⟨l, hl, hlc⟩
        exfalso
        cases hl with
        | fin h1 h2 => exact hne h2
        | tok h1 h2 h3 => exact hR (i1.2 ⟨_, h3, by simp at hlc; omega⟩)

/-- what token.Lex answers, where nothing is wrong -/
theorem lexS_ok (s : Bs) : ((lexS s).2.1 = 0 ↔ s.length ≤ 16384 ∧ Utf s ∧ ∃ l, Toks s 0 l ∧ l.length ≤ 4000) ∧ ((lexS s).2.1 = 0 → Toks s 0 (lexS s).1 ∧ (lexS s).1.length ≤ 4000) := by
  have hu := badS_utf s
  unfold lexS
  by_cases h1 : 16384 < s.length
  · rw [if_pos h1]
    exact ⟨⟨fun e => absurd e (by simp), fun e => by omega⟩, fun e => absurd e (by simp)⟩
  rw [if_neg h1]
  by_cases h2 : 0 ≤ badS s
  · rw [if_pos h2]
    exact ⟨⟨fun e => absurd e (by simp), fun e => absurd e.2.1 fun q => hu.2 q h2⟩, fun e => absurd e (by simp)⟩
  rw [if_neg h2]
  obtain ⟨i1, i2⟩ := lexF_toks (s.length + 1) s 0 0 (by omega)
  refine ⟨?_, fun e => by simpa using i2 e⟩
  rw [i1]
  simp only [Nat.zero_add]
  exact ⟨fun ⟨l, a, b⟩ => ⟨by omega, hu.1 h2, l, a, b⟩, fun ⟨_, _, q⟩ => q⟩

/-- what one token is -/
def TkAt (p : Nat) (last : Prop) (t : Tk) : Prop := t.a = p + t.l.length ∧ (t.k = 0 ↔ last) ∧ (t.x = [] ↔ t.k = 0)

theorem Toks.join {s : Bs} {n : Nat} {l : List Tk} (h : Toks s n l) : joinS l = s ∧ (∃ t, l.getLast? = some t ∧ t.k = 0) ∧ ∀ (i : Nat) (t : Tk), l[i]? = some t → TkAt (n + (joinS (l.take i)).length) (i + 1 = l.length) t := by
  induction h with
  | @fin s n h1 h2 =>
    refine ⟨?_, ⟨_, rfl, rfl⟩, fun i t hi => ?_⟩
    · simp only [joinS, List.flatMap_cons, List.flatMap_nil, List.append_nil]
      have := List.take_append_drop (leadS false s) s
      rw [h2, List.append_nil] at this
      exact this
    · cases i with
      | zero =>
        simp at hi; subst hi
        have := lead_le false s
        refine ⟨by simp [joinS]; omega, by simp, by simp⟩
      | succ i => simp at hi
  | @tok s n l h1 h2 h3 ih =>
    obtain ⟨j1, ⟨t0, j2, j3⟩, j4⟩ := ih
    have hl := lead_le false s
    obtain ⟨m1, m2, m3, m4⟩ := tokN_len (s.drop (leadS false s))
    have hne : l ≠ [] := fun e => by subst e; simp at j2
    have hm := m3 h1 h2
    have hx : (s.drop (leadS false s)).take (tokN (s.drop (leadS false s))).2.2 ≠ [] := fun e => by
      have := congrArg List.length e
      simp only [List.length_take, List.length_nil] at this
      omega
    have hk : ¬ (tokN (s.drop (leadS false s))).2.1 = 0 := fun e => h2 (m2 h1 e)
    have hlx : ((s.drop (leadS false s)).take (tokN (s.drop (leadS false s))).2.2).length = (tokN (s.drop (leadS false s))).2.2 := by simp only [List.length_take]; omega
    refine ⟨?_, ⟨t0, ?_, j3⟩, fun i t hi => ?_⟩
    · have e : joinS (⟨(tokN (s.drop (leadS false s))).2.1, n + leadS false s, s.take (leadS false s), (s.drop (leadS false s)).take (tokN (s.drop (leadS false s))).2.2⟩ :: l) = (s.take (leadS false s) ++ (s.drop (leadS false s)).take (tokN (s.drop (leadS false s))).2.2) ++ joinS l := rfl
      rw [e, j1, List.append_assoc, List.take_append_drop, List.take_append_drop]
    · rw [List.getLast?_cons, j2]; rfl
    · cases i with
      | zero =>
        simp at hi; subst hi
        refine ⟨by simp [joinS]; omega, ?_, ?_⟩
        · simp [hk]; exact hne
        · simp only; exact ⟨fun e => absurd e hx, fun e => absurd e hk⟩
      | succ i =>
        simp at hi
        obtain ⟨q1, q2, q3⟩ := j4 i t hi
        refine ⟨?_, ?_, q3⟩
        · rw [q1, List.take_succ_cons]
          have e : joinS (⟨(tokN (s.drop (leadS false s))).2.1, n + leadS false s, s.take (leadS false s), (s.drop (leadS false s)).take (tokN (s.drop (leadS false s))).2.2⟩ :: l.take i) = (s.take (leadS false s) ++ (s.drop (leadS false s)).take (tokN (s.drop (leadS false s))).2.2) ++ joinS (l.take i) := rfl
          rw [e]
          simp only [List.length_append, hlx, List.length_take]
          omega
        · rw [q2]; simp

end Go.Zam

namespace Go.Zam
set_option linter.all false
set_option maxRecDepth 100000
set_option maxHeartbeats 1000000

/-- the last token is an end -/
def EndsL (L : List Tk) : Prop := ∀ i, i + 1 = L.length → kdT L i = 0
theorem kdT_ltE {L : List Tk} {i : Nat} (hE : EndsL L) (h : kdT L i ≠ 0) : i + 1 < L.length := by
  have := kdT_lt h
  rcases Nat.lt_or_ge (i + 1) L.length with h' | h'
  · exact h'
  · exact absurd (hE i (by omega)) h
theorem isT_kd {L : List Tk} {i : Nat} {x : Bs} (h : isT L i x = true) : kdT L i ≠ 0 := by
  unfold isT at h
  unfold kdT
  cases hg : L[i]? with
  | none => rw [hg] at h; cases h
  | some t =>
    rw [hg] at h
    simp at h ⊢
    rcases h.1 with h | h <;> omega
theorem isT_ltE {L : List Tk} {i : Nat} {x : Bs} (hE : EndsL L) (h : isT L i x = true) : i + 1 < L.length := kdT_ltE hE (isT_kd h)

/-- where it ends, or can't go on, there is a token -/
def Bd (L : List Tk) : PR → Prop
  | .ok _ j | .bad j => j < L.length
  | .out => True

section
variable {L : List Tk}
theorem Bd.want (hE : EndsL L) {k : Nat} {x : Bs} {h : Nat → PR} (hk : k < L.length) (hh : k + 1 < L.length → Bd L (h (k + 1))) : Bd L (wantR L k x h) := by
  unfold wantR
  split
  · rename_i e; exact hh (isT_ltE hE e)
  · exact hk
theorem Bd.word (hE : EndsL L) {k : Nat} {h : Bs → Nat → PR} (hk : k < L.length) (hh : k + 1 < L.length → Bd L (h (txT L k) (k + 1))) : Bd L (wordR L k h) := by
  unfold wordR
  split
  · rename_i e; exact hh (kdT_ltE hE (by omega))
  · exact hk
theorem Bd.ifT (hE : EndsL L) {k : Nat} {x : Bs} {a b : PR} (ha : k + 1 < L.length → Bd L a) (hb : Bd L b) : Bd L (if isT L k x then a else b) := by
  split
  · rename_i e; exact ha (isT_ltE hE e)
  · exact hb
theorem Bd.ifK (hE : EndsL L) {k : Nat} {x : Int} {a b : PR} (hx : x ≠ 0) (ha : k + 1 < L.length → Bd L a) (hb : Bd L b) : Bd L (if kdT L k = x then a else b) := by
  split
  · rename_i e; exact ha (kdT_ltE hE (by omega))
  · exact hb
theorem Bd.if0 {k : Nat} {a b : PR} (ha : Bd L a) (hb : Bd L b) : Bd L (if kdT L k = 0 then a else b) := by
  split
  · exact ha
  · exact hb
theorem Bd.ifS (hE : EndsL L) {k : Nat} {x : Bs} {a b : PR} (ha : k + 2 < L.length → Bd L a) (hb : Bd L b) : Bd L (if kdT L k = 1 ∧ isT L (k + 1) x = true then a else b) := by
  split
  · rename_i e; exact ha (by have := isT_ltE hE e.2; omega)
  · exact hb
theorem Bd.thenG {r : PR} {h : N → Nat → PR} (hr : Bd L r) (hh : ∀ m j, j < L.length → Bd L (h m j)) : Bd L (r.then h) := by
  cases r with
  | out => trivial
  | bad j => exact hr
  | ok m j => exact hh m j hr

end

/-! what a text's tokens are like -/

theorem tokN_key (s : Bs) : (tokN s).1 = 0 → (tokN s).2.1 = 2 → s.take (tokN s).2.2 ∈ keysL := by
  cases s with
  | nil => intro _ h; cases h
  | cons b r =>
    rw [tokN]
    (repeat' split) <;> simp_all

theorem Toks.like {s : Bs} {n : Nat} {l : List Tk} (h : Toks s n l) : l ≠ [] ∧ EndsL l ∧ (∀ i, i + 1 < l.length → kdT l i ≠ 0) ∧ ∀ t ∈ l, t.k = 2 → t.x ∈ keysL := by
  induction h with
  | fin h h0 =>
    refine ⟨by simp, fun i hi => ?_, fun i hi => by simp at hi, ?_⟩
    · have : i = 0 := by simp at hi; omega
      subst this; rfl
    · intro t ht hk
      simp at ht; subst ht
      simp at hk
  | @tok s n l h h0 hr ih =>
    obtain ⟨i1, i2, i3, i4⟩ := ih
    have htl := tokN_len (s.drop (leadS false s))
    obtain ⟨t1, t2, t3, t4⟩ := htl
    have hl : 0 < l.length := List.length_pos_iff.2 i1
    refine ⟨by simp, fun i hi => ?_, fun i hi => ?_, ?_⟩
    · cases i with
      | zero => exact absurd hi (by simp only [List.length_cons]; omega)
      | succ i => exact i2 i (by simpa using hi)
    · cases i with
      | zero =>
        show (tokN (s.drop (leadS false s))).2.1 ≠ 0
        exact fun e => h0 (t2 h e)
      | succ i => exact i3 i (by simpa using hi)
    · intro t ht hk
      rcases List.mem_cons.1 ht with rfl | ht
      · exact tokN_key _ h hk
      · exact i4 t ht hk

theorem noEq_of {l : List Tk} (h : ∀ t ∈ l, t.k = 2 → t.x ∈ keysL) (i : Nat) (hi : isT l i [61] = true) : kdT l i = 5 := by
  unfold isT at hi
  unfold kdT
  cases hg : l[i]? with
  | none => rw [hg] at hi; cases hi
  | some t =>
    rw [hg] at hi
    simp at hi ⊢
    rcases hi.1 with e | e
    · have := h t (List.mem_of_getElem? hg) e
      rw [hi.2] at this
      exact absurd this (by decide)
    · exact e

theorem lexS_like {s : Bs} (h : (lexS s).2.1 = 0) : (lexS s).1 ≠ [] ∧ EndsL (lexS s).1 ∧ (∀ i, i + 1 < (lexS s).1.length → kdT (lexS s).1 i ≠ 0) ∧ (∀ i, isT (lexS s).1 i [61] = true → kdT (lexS s).1 i = 5) ∧ (lexS s).1.length ≤ 4000 := by
  obtain ⟨h1, h2⟩ := (lexS_ok s).2 h
  obtain ⟨a1, a2, a3, a4⟩ := h1.like
  exact ⟨a1, a2, a3, noEq_of a4, h2⟩

section
variable {P : Program}

end
end Go.Zam

namespace Go.Zam
set_option linter.all false
set_option maxRecDepth 100000
set_option maxHeartbeats 1000000

def typeF (L : List Tk) : PR := pp L (16 * L.length + 8) .kind 0
/-- the tree of a type's tokens, or why there is none -/
def typeP (L : List Tk) : N × Int := match typeF L with
  | .ok n k => if kdT L k = 0 then if 60 < n.depth then (N.none, 25) else (n, 0) else (N.none, 24)
  | _ => (N.none, 24)
/-- the tree of a type's text, or why there is none -/
def typeO (s : Bs) : N × Int := if (lexS s).2.1 ≠ 0 then (N.none, (lexS s).2.1) else typeP (lexS s).1

section
variable {P : Program} {F : PF}

/-- kinds alone -/
theorem KHas.kinds (hF : KHas P F) {z : Bool} {L : List Tk} (hL : L.length ≤ 1048576) : ∀ n, n ≤ 1099511627776 → UC P F.tp z L n .kind F.kind ∧ UCc P F.tp F.tb z L n .tfield F.tfield := by
  intro n
  induction n using Nat.strongRecOn with
  | ind n ih =>
  intro hn
  cases n with
  | zero => exact ⟨UC_zero (by decide), UCc_zero (by decide)⟩
  | succ n =>
    exact ⟨hF.kind' hL n (by omega) (fun m hm => (ih m (by omega) (by omega)).2) (fun m hm => (ih m hm (by omega)).1), hF.tfield' hL n (by omega) (ih n (by omega) (by omega)).1⟩

theorem Has.type_ {f fl fd} (h : Has P f (irPType fl F.kind F.now F.fail fd F.tn F.tp)) (hF : KHas P F) (hd : Has P fd (irTDepth fd F.tn)) {H0 : Hp}
    (hl : ∀ (s : Bs), s.length ≤ 1048576 → ∀ H, Pre0 H0 H → ACall P fl [.d (.str s)] H (fun r H' => r = .tup [.d (.sl true 4 ((lexS s).1.map encTk)), .d (.int .i64 (lexS s).2.1), .d (.int .i64 (lexS s).2.2)] ∧ H' = H))
    (s : Bs) (hs : s.length ≤ 1048576) (H : Hp) (hH : Pre0 H0 H) : ACall P f [.d (.str s)] H (fun r H' => r = .tup [(typeO s).1.v, .d (.int .i64 (typeO s).2)] ∧ H' = H) := by
  obtain ⟨fn, hf, hcf⟩ := h
  refine acall_fin hf hcf (by simp [irPType]) fun hcl _ => ?_
  obtain ⟨Q, hQ⟩ : ∃ Q : A → Hp → Prop, Q = fun r H' => r = .tup [(typeO s).1.v, .d (.int .i64 (typeO s).2)] ∧ H' = H := ⟨_, rfl⟩
  rw [← hQ]
  have hnone : ∀ e : Int, typeO s = (N.none, e) → Q (.tup [.agg [.d (.int .i64 0), .d (.int .i64 0), .d (.int .i64 0), .d (.str []), .d (.int .i64 0), .d (.sl true 6 [])], .d (.int .i64 e)]) H := fun e h => by
    subst hQ
    rw [h]
    exact ⟨rfl, rfl⟩
  have hO : typeO s = if (lexS s).2.1 ≠ 0 then (N.none, (lexS s).2.1) else typeP (lexS s).1 := rfl
  have hlk := lexS_like (s := s)
  obtain ⟨r0, hr0⟩ : ∃ r0 : Ob, r0 = .box F.tn [.d (.int .i64 0), .d (.int .i64 0), .d (.int .i64 0), .d (.str []), .d (.int .i64 0), .d (.sl true 6 [])] := ⟨_, rfl⟩
  have g1 := hl s hs _ (hH.app [r0])
  generalize lexS s = LS at hO hlk g1
  obtain ⟨L, e, b⟩ := LS
  simp only at hO hlk g1
  rw [hr0] at g1
  simp [irPType]
  refine CallK_of' g1 ?_
  by_cases he : e = 0
  case neg =>
    rw [if_pos he] at hO
    simp [he]
    simp [RetK, cut_app hcl]
    exact hnone e hO
  rw [if_neg (by simp [he])] at hO
  obtain ⟨l1, l2, l3, l4, l5⟩ := hlk he
  simp [he]
  have hA := (hF.kinds (z := true) (L := L) (by omega) (16 * L.length + 8) (by omega)).1
  have g := hA (H ++ [r0, pst F.tp true L (0, none)]) [] (H.length + 1) (0, none) (by simp) ⟨by simp only [G.c]; omega, by simp only [G.c]; omega, fun _ => ⟨Nat.zero_le _, by simp only [G.c]; omega⟩⟩
  have e1 : ∀ s, (H ++ [r0, pst F.tp true L (0, none)]).set (H.length + 1) (pst F.tp true L s) ++ [] = H ++ [r0, pst F.tp true L s] := fun s => by simp
  rw [e1] at g
  rw [hr0] at g
  refine CallK_of g ?_
  rintro _ _ ⟨m, s', rfl, rfl, hrel⟩
  rw [← hr0, e1]
  rcases hrel.none' with ⟨q, b, hq, rfl, e3⟩ | ⟨k', hk, rfl⟩
  · have hq' : typeF L = .bad q := hq
    have hP : typeP L = (N.none, 24) := by unfold typeP; rw [hq']
    rw [hP] at hO
    obtain ⟨k2, f2, t2, w2, a2, z2, ks2⟩ := m
    rw [N.v_mk, hr0]
    simp [pst]
    repeat' apply And.intro
    all_goals
      simp [RetK, cut_app hcl]
      try exact hnone 24 hO
  have hk' : typeF L = .ok m k' := hk
  have hsz := pp_size (L := L) (16 * L.length + 8) .kind 0 trivial
  rw [show pp L (16 * L.length + 8) .kind 0 = .ok m k' from hk] at hsz
  simp only [Sz, G.k1, G.sz, N.sizes_nil] at hsz
  have hadv := pp_adv (L := L) (16 * L.length + 8) .kind 0
  rw [show pp L (16 * L.length + 8) .kind 0 = .ok m k' from hk] at hadv
  obtain ⟨v1, -, v3⟩ := hadv
  have hdep := N.depth_size m
  have hd' := hd.depth m (by omega)
  have hnow : ∀ X, ACall P F.now [.ptr (H.length + 1) 0] (H ++ (r0 :: pst F.tp true L (k', none) :: X)) (fun r H' => r = tokA_ L k' ∧ H' = H ++ (r0 :: pst F.tp true L (k', none) :: X)) := fun X => hF.now' (z := true) (s := (k', none)) (by simp)
  have hfail : ∀ X, ACall P F.fail [.ptr (H.length + 1) 0, .d (.int .i64 24)] (H ++ (r0 :: pst F.tp true L (k', none) :: X)) (fun r H' => r = .tup [] ∧ H' = H ++ (r0 :: pst F.tp true L (k', some k') :: X)) := fun X => by
    have := hF.fail' (z := true) (L := L) (H := H ++ (r0 :: pst F.tp true L (k', none) :: X)) (i := H.length + 1) (s := (k', none)) (by simp)
    simpa [failS] using this
  obtain ⟨k2, f2, t2, w2, a2, z2, ks2⟩ := m
  rw [N.v_mk] at hd'
  have hnk := hnow [.box F.tn [.d (.int .i64 k2), .d (.int .i64 f2), .d (.int .i64 t2), .d (.str w2), .d (.int .i64 a2), .d (.sl z2 6 (ks2.map N.enc))]]
  have hfk := hfail [.box F.tn [.d (.int .i64 k2), .d (.int .i64 f2), .d (.int .i64 t2), .d (.str w2), .d (.int .i64 a2), .d (.sl z2 6 (ks2.map N.enc))]]
  rw [hr0] at hnk hfk
  rw [N.v_mk, hr0]
  simp only [pst] at hnk hfk
  simp [pst]
  simp at hnk hfk
  obtain ⟨ta, tl, htk⟩ := tokA_k L k'
  rw [htk] at hnk
  refine CallK_of' hnk ?_
  by_cases hkd : kdT L k' = 0
  · simp [hkd]
    refine CallK_of' (hd' _) ?_
    by_cases hdp : 60 < (N.mk k2 f2 t2 w2 a2 z2 ks2).depth
    · have hP : typeP L = (N.none, 25) := by unfold typeP; rw [hk']; simp [hkd, hdp]
      rw [hP] at hO
      have hdi : (60 : Int) < ((N.mk k2 f2 t2 w2 a2 z2 ks2).depth : Int) := by omega
      simp [hdi]
      simp [RetK, cut_app hcl]
      exact hnone 25 hO
    · have hP : typeP L = (N.mk k2 f2 t2 w2 a2 z2 ks2, 0) := by unfold typeP; rw [hk']; simp [hkd, hdp]
      rw [hP] at hO
      have hdi : ¬ (60 : Int) < ((N.mk k2 f2 t2 w2 a2 z2 ks2).depth : Int) := by omega
      simp [hdi]
      simp [RetK, cut_app hcl]
      subst hQ
      rw [hO, N.v_mk]
      exact ⟨rfl, rfl⟩
  · have hP : typeP L = (N.none, 24) := by unfold typeP; rw [hk']; simp [hkd]
    rw [hP] at hO
    simp [hkd]
    refine CallK_of' hfk ?_
    simp
    repeat' apply And.intro
    all_goals
      simp [RetK, cut_app hcl]
      try exact hnone 24 hO

end
end Go.Zam

namespace Go.Zam
set_option linter.all false
set_option maxRecDepth 100000
set_option maxHeartbeats 2000000
open Classical

theorem N.sizes_get {k f t : Int} {w : Bs} {a : Int} {z : Bool} {ks : List N} {i : Nat} {p : N} (h : ks[i]? = some p) : p.size < (N.mk k f t w a z ks).size := by
  have := N.sizes_mem (List.mem_of_getElem? h)
  rw [N.size_mk]; omega

/-- what is asked of a function that tells a tree's type -/
def OfT (P : Program) (f : FuncId) (n : N) : Prop := ∀ (H : Hp), ACall P f [n.v] H (fun r H' => r = .tup [n.ty.1.a, .d (.int .i64 n.ty.2)] ∧ H' = H)

/-- what a record's tree comes to -/
noncomputable def recNR (ks : List N) : T × Int := if badE (ks.map N.fty) ≠ 0 then (T.nil, badE (ks.map N.fty)) else recT (ks.map N.w) ((ks.map N.fty).map Prod.fst)

section
variable {P : Program}

/-- a record's tree -/
theorem Has.tyRecN {f fo fr_ : FuncId} {t1 t2 t3 : TypeId} (h : HasT P [4, 5] f (irTyRecN fo fr_ t1 t2 t3)) (hR : RecT P fr_) (n : N) (hs : n.size ≤ 1048576) (hO : ∀ p ∈ n.ks, ∀ q ∈ p.ks, OfT P fo q) (H : Hp) :
    ACall P f [n.v] H (fun r H' => r = .tup [(recNR n.ks).1.a, .d (.int .i64 (recNR n.ks).2)] ∧ H' = H) := by
  obtain ⟨fn, hf, hcf⟩ := h
  obtain ⟨k, f0, t0, w, a, z, ks⟩ := n
  have hlen : ks.length ≤ 1048576 := by
    have := N.sizes_len ks
    rw [N.size_mk] at hs; omega
  simp only [N.ks] at hO ⊢
  refine acall_fin hf hcf (by simp [irTyRecN]) fun hcl _ => ?_
  obtain ⟨Q, hQ⟩ : ∃ Q : A → Hp → Prop, Q = fun r H' => r = .tup [(recNR ks).1.a, .d (.int .i64 (recNR ks).2)] ∧ H' = H := ⟨_, rfl⟩
  rw [← hQ]
  have hbad : ∀ (i : Nat) (p : T × Int), (∀ q ∈ (ks.map N.fty).take i, q.2 = 0) → (ks.map N.fty)[i]? = some p → p.2 ≠ 0 → Q (.tup [.agg [.d (.int .i64 0), .d (.sl true 1 []), .d (.sl true 3 [])], .d (.int .i64 p.2)]) H := fun i p h1 h2 h3 => by
    have := badE_at h1 h2 h3
    subst hQ
    have e : recNR ks = (T.nil, p.2) := by rw [recNR, if_pos (by rw [this]; exact h3), this]
    rw [e]
    exact ⟨rfl, rfl⟩
  rw [N.v_mk]
  simp [irTyRecN]
  refine RangeK_of (H.length + 4) ks.length (fun i fr H' => fr 2 = .ptr (H.length + 1) 0 ∧ fr 11 = .d (.sl z 6 (ks.map N.enc)) ∧ fr 4 = .osl true 1 ((ks.map (encStr ∘ N.w)).take i) (H.length + 2) ∧ fr 5 = .osl true 3 ((ks.map (T.enc ∘ (Prod.fst ∘ N.fty))).take i) (H.length + 3) ∧
    (∀ q ∈ (ks.map N.fty).take i, q.2 = 0) ∧
    H' = H ++ [.box t1 [.d (.int .i64 k), .d (.int .i64 f0), .d (.int .i64 t0), .d (.str w), .d (.int .i64 a), .d (.sl z 6 (ks.map N.enc))], .box t2 [.d (.int .i64 0), .d (.sl true 1 []), .d (.sl true 3 [])], .tok i 1 t3, .tok i 3 t2]) (by omega) (by decide) (by simp) (by simp) ?_ ?_ ?_
  · simp [cut_appk hcl, A.lo]
  · rintro i fr H' hi f13 f12 ⟨f2, f11, f4, f5, hz, rfl⟩
    have hr := rowAt_map N.enc hi
    have hg : ks[i]? = some ks[i] := List.getElem?_eq_getElem hi
    have hmem := List.getElem_mem hi
    have ta := take_map_succ (encStr ∘ N.w) hi
    have tb := take_map_succ (T.enc ∘ (Prod.fst ∘ N.fty)) hi
    have tc := take_map_succ N.fty hi
    have hm : min i ks.length = i := by omega
    have hc1 : (i + 1) * 16 ≤ 140737488355328 := by omega
    have hc2 : (i + 1) * 56 ≤ 140737488355328 := by omega
    have hO' := hO _ hmem
    generalize ks[i] = p at hr hg hmem ta tb tc hO'
    have hgf : (ks.map N.fty)[i]? = some p.fty := by simp [hg]
    obtain ⟨k1, f1, t1', w1, a1, z1, ks1⟩ := p
    rw [N.enc_mk] at hr
    by_cases hk : k1 = 33
    case neg =>
      have hno : (N.mk k1 f1 t1' w1 a1 z1 ks1).fty = (T.nil, 8) := N.fty_not fun h => hk h.1
      rw [hno] at hgf
      simp [f13, f11, hr, hk, f2]
      simp [RetK, cut_app hcl, f2]
      exact hbad i _ hz hgf (by decide)
    by_cases hl : ks1.length = 1
    case neg =>
      have hno : (N.mk k1 f1 t1' w1 a1 z1 ks1).fty = (T.nil, 8) := N.fty_not fun h => hl h.2
      rw [hno] at hgf
      have hl' : ¬ (ks1.length : Int) = 1 := by omega
      simp [f13, f11, hr, hk, f2, hl, hl']
      simp [RetK, cut_app hcl, f2]
      exact hbad i _ hz hgf (by decide)
    obtain ⟨m, rfl⟩ := List.length_eq_one_iff.1 hl
    have hyes : (N.mk k1 f1 t1' w1 a1 z1 [m]).fty = m.ty := N.fty_one hk
    have hx := hO' m (by simp [N.ks])
    simp only [Function.comp_apply, hyes] at tb tc
    rw [hyes] at hgf
    have hwd : N.w (.mk k1 f1 t1' w1 a1 z1 [m]) = w1 := rfl
    simp only [Function.comp_apply, hwd, encStr] at ta
    unfold OfT at hx
    generalize m.ty = ty at hx hgf tb tc
    obtain ⟨v, e⟩ := ty
    obtain ⟨k2, f2', t2', w2, a2, z2, ks2⟩ := m
    have hr0 : Zam.rowAt [(N.mk k2 f2' t2' w2 a2 z2 ks2).enc] 0 = some [.int .i64 k2, .int .i64 f2', .int .i64 t2', .str w2, .int .i64 a2, .sl z2 6 (ks2.map N.enc)] := by rw [N.enc_mk]; rfl
    obtain ⟨kv, zv, nv, yv, pv⟩ := v
    rw [N.v_mk] at hx
    simp only [T.a_mk] at hx
    simp [f13, f11, hr, hk, f2, hr0]
    refine CallK_of' (hx _) ?_
    by_cases he : e = 0
    case neg =>
      simp [he, f2]
      simp [RetK, cut_app hcl, f2]
      exact hbad i _ hz hgf he
    subst he
    simp only [T.enc_mk] at tb
    simp [f4, f5, appA, hm, hc1, hc2, f13]
    refine NextK_of (H.length + 4) (Nat.le_refl _) (by simp [f13, f12]) ?_
    simp [f2, f11, cut_appk hcl, ta, tb, A.lo]
    rw [tc]
    intro q q2 hq
    rcases List.mem_append.1 hq with h | h
    · exact hz _ h
    · simp at h; exact h.2
  · rintro fr H' f13 f12 ⟨f2, f11, f4, f5, hz, rfl⟩
    have fa : (ks.map (encStr ∘ N.w)).take ks.length = ks.map (encStr ∘ N.w) := List.take_of_length_le (by simp)
    have fb : (ks.map (T.enc ∘ (Prod.fst ∘ N.fty))).take ks.length = ks.map (T.enc ∘ (Prod.fst ∘ N.fty)) := List.take_of_length_le (by simp)
    have fc : (ks.map N.fty).take ks.length = ks.map N.fty := List.take_of_length_le (by simp)
    rw [fa] at f4
    rw [fb] at f5
    rw [fc] at hz
    have hb0 : badE (ks.map N.fty) = 0 := badE_zero.2 hz
    have hrec := fun H => hR true true (ks.map N.w) ((ks.map N.fty).map Prod.fst) (by simpa using hlen) (by simpa using hlen) H
    simp only [List.map_map] at hrec
    have hfin : ∀ (v : T) (e : Int), (v, e) = recT (ks.map N.w) ((ks.map N.fty).map Prod.fst) → Q (.tup [v.a, .d (.int .i64 e)]) H := fun v e he => by
      subst hQ
      have e2 : recNR ks = (v, e) := by rw [recNR, if_neg (by simp [hb0]), he]
      rw [e2]
      exact ⟨rfl, rfl⟩
    simp only [List.map_map] at hfin
    generalize recT (ks.map N.w) (ks.map (Prod.fst ∘ N.fty)) = rt at hrec hfin
    obtain ⟨v, e⟩ := rt
    have hfin := hfin v e rfl
    obtain ⟨kv, zv, nv, yv, pv⟩ := v
    simp only [T.a_mk] at hrec hfin
    simp [f4, f5]
    refine CallK_shut (by simpa [A.shut] using hrec _) ?_
    simp [f2]
    simp [RetK, cut_app hcl, f2]
    exact hfin

/-- the type of a tree, however deep -/
theorem Has.tyOfN {f fr_ fR : FuncId} {t1 t2 t3 u1 u2 u3 : TypeId} (h : HasT P [29] f (irTyOfN fr_ f t1 t2 t3)) (hr : HasT P [4, 5] fr_ (irTyRecN f fR u1 u2 u3)) (hR : RecT P fR) (n : N) : n.size ≤ 1048576 → OfT P f n ∧ ∀ p ∈ n.ks, OfT P f p := by
  refine N.ind (Q := fun n => n.size ≤ 1048576 → OfT P f n ∧ ∀ p ∈ n.ks, OfT P f p) (fun k f0 t0 w a z ks ih => ?_) n
  intro hs
  have hsz : ∀ p ∈ ks, p.size ≤ 1048576 := fun p hp => by
    obtain ⟨i, hi⟩ := List.getElem?_of_mem hp
    have := N.sizes_get (k := k) (f := f0) (t := t0) (w := w) (a := a) (z := z) hi
    omega
  have hkids : ∀ p ∈ ks, OfT P f p := fun p hp => (ih p hp (hsz p hp)).1
  have hgrand : ∀ p ∈ ks, ∀ q ∈ p.ks, OfT P f q := fun p hp => (ih p hp (hsz p hp)).2
  refine ⟨?_, hkids⟩
  have hlen : ks.length ≤ 1048576 := by
    have := N.sizes_len ks
    rw [N.size_mk] at hs; omega
  intro H
  have hrec := fun H => Has.tyRecN hr hR (.mk k f0 t0 w a z ks) hs hgrand H
  obtain ⟨fn, hf, hcf⟩ := h
  refine acall_fin hf hcf (by simp [irTyOfN]) fun hcl _ => ?_
  have hty := N.ty_mk k f0 t0 w a z ks
  have hty2 : k = 32 → (N.mk k f0 t0 w a z ks).ty = recNR ks := fun hk => by
    rw [hty, if_neg (by omega), if_neg (by omega), if_neg (by omega), if_pos hk]; rfl
  obtain ⟨Q, hQ⟩ : ∃ Q : A → Hp → Prop, Q = fun r H' => r = .tup [(N.mk k f0 t0 w a z ks).ty.1.a, .d (.int .i64 (N.mk k f0 t0 w a z ks).ty.2)] ∧ H' = H := ⟨_, rfl⟩
  rw [← hQ]
  have hfin : ∀ (v : T) (e : Int), (N.mk k f0 t0 w a z ks).ty = (v, e) → Q (.tup [v.a, .d (.int .i64 e)]) H := fun v e he => by
    subst hQ
    rw [he]; exact ⟨rfl, rfl⟩
  rw [N.v_mk] at hrec ⊢
  by_cases c1 : k = 0
  · have := hfin T.nil 0 (by rw [hty, if_pos (.inl c1)])
    rw [T.a_nil] at this
    simp [irTyOfN, c1]
    simp [RetK, cut_app hcl]
    exact this
  by_cases c2 : k = 31
  · have := hfin T.nil 0 (by rw [hty, if_pos (.inr c2)])
    rw [T.a_nil] at this
    simp [irTyOfN, c2]
    simp [RetK, cut_app hcl]
    exact this
  by_cases c3 : k = 29
  · have := hfin (T.new 1 [] []) 0 (by rw [hty, if_neg (by omega), if_pos c3])
    rw [T.new, T.a_mk] at this
    simp [irTyOfN, c3]
    simp [RetK, cut_app hcl]
    simpa using this
  by_cases c4 : k = 30
  · have := hfin (T.new 2 [] []) 0 (by rw [hty, if_neg (by omega), if_neg c3, if_pos c4])
    rw [T.new, T.a_mk] at this
    simp [irTyOfN, c4]
    simp [RetK, cut_app hcl]
    simpa using this
  by_cases c5 : k = 32
  · have := fun v e (he : recNR ks = (v, e)) => hfin v e ((hty2 c5).trans he)
    simp only [N.ks] at hrec
    generalize recNR ks = rk at hrec this
    obtain ⟨v, e⟩ := rk
    have := this v e rfl
    obtain ⟨kv, zv, nv, yv, pv⟩ := v
    simp only [T.a_mk] at hrec this
    subst c5
    simp [irTyOfN]
    refine CallK_of' (hrec _) ?_
    simp
    simp [RetK, cut_app hcl]
    exact this
  by_cases c6 : k = 34
  case neg =>
    have := hfin T.nil 8 (by rw [hty, if_neg (by omega), if_neg c3, if_neg c4, if_neg c5, if_neg c6])
    rw [T.a_nil] at this
    simp [irTyOfN, c1, c2, c3, c4, c5, c6]
    simp [RetK, cut_app hcl]
    exact this
  -- a function's
  have hty3 : (N.mk k f0 t0 w a z ks).ty = if badE (ks.map N.ty) ≠ 0 then (T.nil, badE (ks.map N.ty)) else if ks = [] then (T.nil, 8) else (T.new 4 [] ((ks.map N.ty).map Prod.fst), 0) := by
    rw [hty, if_neg (by omega), if_neg c3, if_neg c4, if_neg c5, if_pos c6]
  have hbad : ∀ (i : Nat) (p : T × Int), (∀ q ∈ (ks.map N.ty).take i, q.2 = 0) → (ks.map N.ty)[i]? = some p → p.2 ≠ 0 → Q (.tup [.agg [.d (.int .i64 0), .d (.sl true 1 []), .d (.sl true 3 [])], .d (.int .i64 p.2)]) H := fun i p h1 h2 h3 => by
    have := badE_at h1 h2 h3
    exact hfin T.nil p.2 (by rw [hty3, if_pos (by rw [this]; exact h3), this])
  subst c6
  simp [irTyOfN]
  refine RangeK_of (H.length + 5) ks.length (fun i fr H' => fr 2 = .ptr (H.length + 1) 0 ∧ fr 31 = .d (.sl z 6 (ks.map N.enc)) ∧ fr 4 = .ptr (H.length + 4) 0 ∧
    (∀ q ∈ (ks.map N.ty).take i, q.2 = 0) ∧
    H' = H ++ [.box t1 [.d (.int .i64 34), .d (.int .i64 f0), .d (.int .i64 t0), .d (.str w), .d (.int .i64 a), .d (.sl z 6 (ks.map N.enc))], .box t2 [.d (.int .i64 0), .d (.sl true 1 []), .d (.sl true 3 [])], .tok 0 1 t3, .tok i 3 t2,
      .box t2 [.d (.int .i64 4), .osl true 1 [] (H.length + 2), .osl true 3 ((ks.map (T.enc ∘ (Prod.fst ∘ N.ty))).take i) (H.length + 3)]]) (by omega) (by decide) (by simp) (by simp) ?_ ?_ ?_
  · simp [cut_appk hcl]
  · rintro i fr H' hi f33 f32 ⟨f2, f31, f4, hz, rfl⟩
    have hr := rowAt_map N.enc hi
    have hg : ks[i]? = some ks[i] := List.getElem?_eq_getElem hi
    have hmem := List.getElem_mem hi
    have tb := take_map_succ (T.enc ∘ (Prod.fst ∘ N.ty)) hi
    have tc := take_map_succ N.ty hi
    have hm : min i ks.length = i := by omega
    have hc2 : (i + 1) * 56 ≤ 140737488355328 := by omega
    have hx := hkids _ hmem
    generalize ks[i] = p at hr hg hmem tb tc hx
    have hgf : (ks.map N.ty)[i]? = some p.ty := by simp [hg]
    unfold OfT at hx
    simp only [Function.comp_apply] at tb
    generalize p.ty = ty at hx hgf tb tc
    obtain ⟨v, e⟩ := ty
    obtain ⟨k1, f1, t1', w1, a1, z1, ks1⟩ := p
    obtain ⟨kv, zv, nv, yv, pv⟩ := v
    rw [N.enc_mk] at hr
    rw [N.v_mk] at hx
    simp only [T.a_mk] at hx
    simp [f33, f31, hr]
    refine CallK_of' (hx _) ?_
    by_cases he : e = 0
    case neg =>
      simp [he, f2]
      simp [RetK, cut_app hcl, f2]
      exact hbad i _ hz hgf he
    subst he
    simp only [T.enc_mk] at tb
    simp [f4, appA, hm, hc2, f33]
    refine NextK_of (H.length + 5) (Nat.le_refl _) (by simp [f33, f32]) ?_
    simp [f2, f4, f31, cut_appk hcl, tb]
    rw [tc]
    intro q q2 hq
    rcases List.mem_append.1 hq with h | h
    · exact hz _ h
    · simp at h; exact h.2
  · rintro fr H' f33 f32 ⟨f2, f31, f4, hz, rfl⟩
    have fb : (ks.map (T.enc ∘ (Prod.fst ∘ N.ty))).take ks.length = ks.map (T.enc ∘ (Prod.fst ∘ N.ty)) := List.take_of_length_le (by simp)
    have fc : (ks.map N.ty).take ks.length = ks.map N.ty := List.take_of_length_le (by simp)
    rw [fc] at hz
    have hb0 : badE (ks.map N.ty) = 0 := badE_zero.2 hz
    by_cases hks : ks = []
    · have := hfin T.nil 8 (by rw [hty3, if_neg (by simp [hb0]), if_pos hks])
      rw [T.a_nil] at this
      simp [f4, fb, hks, f2]
      simp [RetK, cut_app hcl, f2]
      exact this
    · have := hfin (T.new 4 [] ((ks.map N.ty).map Prod.fst)) 0 (by rw [hty3, if_neg (by simp [hb0]), if_neg hks])
      have hkl : ¬ ks.length = 0 := by simpa using hks
      rw [T.new, T.a_mk, List.map_map, List.map_map] at this
      have n2 : ¬ H.length + 2 < H.length := by omega
      have n3 : ¬ H.length + 3 < H.length := by omega
      simp [f4, fb, hks, f2]
      simp [RetK, cut_app hcl, f2, n2, n3]
      exact this

/-- term.Of -/
theorem Has.tyOf {f fo fd : FuncId} {t1 t2 : TypeId} (h : Has P f (irTyOf fo fd t1 t2)) (n : N) (ho : OfT P fo n) (hd : ∀ H, ACall P fd [n.ty.1.a] H (fun r H' => r = .d (.int .i64 (n.ty.1.dep : Int)) ∧ H' = H)) (H : Hp) :
    ACall P f [n.v] H (fun r H' => r = .tup [n.typ.1.a, .d (.int .i64 n.typ.2)] ∧ H' = H) := by
  obtain ⟨fn, hf, hcf⟩ := h
  refine acall_fin hf hcf (by simp [irTyOf]) fun hcl _ => ?_
  unfold OfT at ho
  have ht : n.typ = if n.ty.2 ≠ 0 then (T.nil, n.ty.2) else if 12 < n.ty.1.dep then (T.nil, 25) else n.ty := rfl
  generalize n.typ = ny at ht
  generalize n.ty = ty at ho hd ht
  obtain ⟨v, e⟩ := ty
  generalize hdd : v.dep = dd at hd ht
  simp only at ho hd ht hdd
  obtain ⟨kv, zv, nv, yv, pv⟩ := v
  obtain ⟨k1, f1, t1', w1, a1, z1, ks1⟩ := n
  rw [N.v_mk] at ho ⊢
  simp only [T.a_mk] at ho hd
  subst ht
  simp [irTyOf]
  refine CallK_of' (ho _) ?_
  by_cases he : e = 0
  case neg =>
    simp [he]
    simp [RetK, cut_app hcl, he, T.a_nil]
  subst he
  simp
  refine CallK_of' (hd _) ?_
  by_cases hd12 : 12 < dd
  · have : (12 : Int) < (dd : Int) := by omega
    simp [hd12, this]
    simp [RetK, cut_app hcl, hd12, T.a_nil]
  · have : ¬ (12 : Int) < (dd : Int) := by omega
    simp [hd12, this]
    simp [RetK, cut_app hcl, hd12, T.a_mk]

/-- the type of a text, or why there is none -/
noncomputable def typO (s : Bs) : T × Int := if (typeO s).2 ≠ 0 then (T.nil, (typeO s).2) else (typeO s).1.typ

theorem Has.tyParse {f fp fo : FuncId} {t1 t2 : TypeId} (h : Has P f (irTyParse fp fo t1 t2)) (s : Bs) (H : Hp) {H0 : Hp} (hH : Pre0 H0 H) (hp : ∀ H, Pre0 H0 H → ACall P fp [.d (.str s)] H (fun r H' => r = .tup [(typeO s).1.v, .d (.int .i64 (typeO s).2)] ∧ H' = H))
    (ho : ∀ H, ACall P fo [(typeO s).1.v] H (fun r H' => r = .tup [(typeO s).1.typ.1.a, .d (.int .i64 (typeO s).1.typ.2)] ∧ H' = H)) : ACall P f [.d (.str s)] H (fun r H' => r = .tup [(typO s).1.a, .d (.int .i64 (typO s).2)] ∧ H' = H) := by
  obtain ⟨fn, hf, hcf⟩ := h
  refine acall_fin hf hcf (by simp [irTyParse]) fun hcl _ => ?_
  have ht : typO s = if (typeO s).2 ≠ 0 then (T.nil, (typeO s).2) else (typeO s).1.typ := rfl
  generalize typO s = ty at ht
  generalize typeO s = ts at hp ho ht
  obtain ⟨n, e⟩ := ts
  simp only at hp ho ht
  generalize n.typ = ny at ho ht
  obtain ⟨v, e2⟩ := ny
  obtain ⟨kv, zv, nv, yv, pv⟩ := v
  obtain ⟨k1, f1, t1', w1, a1, z1, ks1⟩ := n
  rw [N.v_mk] at hp ho
  simp only [T.a_mk] at ho
  subst ht
  have hp' := hp _ (hH.app [.box t1 [.d (.int .i64 0), .d (.sl true 1 []), .d (.sl true 3 [])]])
  simp [irTyParse]
  refine CallK_of' hp' ?_
  by_cases he : e = 0
  case neg =>
    simp [he]
    simp [RetK, cut_app hcl, he, T.a_nil]
  subst he
  simp
  refine CallK_of' (ho _) ?_
  simp
  simp [RetK, cut_app hcl, T.a_mk]

end
end Go.Zam

namespace Go.Zam
open Go.Proofs
set_option linter.all false
set_option maxRecDepth 100000
set_option maxHeartbeats 1000000
open Classical

theorem T.nil_fit (b : Nat) : T.nil.Fit b := .mk _ _ _ _ _ (Nat.zero_le _) (Nat.zero_le _) (by simp) (by simp)
theorem T.nil_dep : T.nil.dep = 1 := rfl

/-- a node's words are no longer than a number -/
inductive N.Wd (b : Nat) : N → Prop
  | mk {k f t : Int} {w : Bs} {a : Int} {z : Bool} {ks : List N} (hw : w.length ≤ b) (h : ∀ p ∈ ks, N.Wd b p) : N.Wd b (.mk k f t w a z ks)

theorem recT_fit {b : Nat} {ns : List Str'} {ps : List T} (h1 : ns.length ≤ b) (h2 : ∀ x ∈ ns, x.length ≤ b) (h3 : ∀ p ∈ ps, p.Fit b) : (recT ns ps).1.Fit b := by
  unfold recT
  split
  · rename_i hl
    split
    · exact T.nil_fit b
    · have hp := ssort_perm cP_cmp (ns.zip ps)
      have hlen := ssort_length cP_cmp (ns.zip ps)
      refine .mk _ _ _ _ _ (by simp [hlen]; omega) (by simp [hlen]; omega) (fun x hx => ?_) (fun p hq => ?_)
      · obtain ⟨y, hy, rfl⟩ := List.mem_map.1 hx
        exact h2 _ (List.of_mem_zip (hp.mem_iff.2 hy)).1
      · obtain ⟨y, hy, rfl⟩ := List.mem_map.1 hq
        exact h3 _ (List.of_mem_zip (hp.mem_iff.2 hy)).2
  · exact T.nil_fit b

theorem recT_dep {ns : List Str'} {ps : List T} {d : Nat} (h : ∀ p ∈ ps, p.dep ≤ d) : (recT ns ps).1.dep ≤ d + 1 := by
  unfold recT
  split
  · split
    · rw [T.nil_dep]; omega
    · rw [T.new, T.dep_mk]
      have := T.deps_le (l := (ssort cP (ns.zip ps)).map Prod.snd) (n := d)
      have := this.2 fun p hq => by
        obtain ⟨y, hy, rfl⟩ := List.mem_map.1 hq
        exact h _ (List.of_mem_zip ((ssort_perm cP_cmp (ns.zip ps)).mem_iff.2 hy)).2
      omega
  · rw [T.nil_dep]; omega

theorem N.ty_ok (n : N) : n.size ≤ 1048576 → n.Wd 1048576 → (n.ty.1.Fit 1048576 ∧ n.ty.1.dep ≤ n.size) ∧ ∀ p ∈ n.ks, p.ty.1.Fit 1048576 ∧ p.ty.1.dep ≤ p.size := by
  refine N.ind (Q := fun n => n.size ≤ 1048576 → n.Wd 1048576 → (n.ty.1.Fit 1048576 ∧ n.ty.1.dep ≤ n.size) ∧ ∀ p ∈ n.ks, p.ty.1.Fit 1048576 ∧ p.ty.1.dep ≤ p.size) (fun k f t w a z ks ih => ?_) n
  intro hs hw
  have hsz : ∀ p ∈ ks, p.size < (N.mk k f t w a z ks).size := fun p hp => by
    obtain ⟨i, hi⟩ := List.getElem?_of_mem hp
    exact N.sizes_get hi
  have hwk : ∀ p ∈ ks, p.Wd 1048576 := fun p hp => by cases hw with | mk _ h => exact h p hp
  have hk : ∀ p ∈ ks, p.ty.1.Fit 1048576 ∧ p.ty.1.dep ≤ p.size := fun p hp => (ih p hp (by have := hsz p hp; omega) (hwk p hp)).1
  have hg : ∀ p ∈ ks, ∀ q ∈ p.ks, q.ty.1.Fit 1048576 ∧ q.ty.1.dep ≤ q.size := fun p hp => (ih p hp (by have := hsz p hp; omega) (hwk p hp)).2
  have hlen : ks.length ≤ 1048576 := by
    have := N.sizes_len ks
    rw [N.size_mk] at hs; omega
  have h1 : 1 ≤ (N.mk k f t w a z ks).size := by rw [N.size_mk]; omega
  refine ⟨?_, hk⟩
  rw [N.ty_mk]
  split
  · exact ⟨T.nil_fit _, by rw [T.nil_dep]; exact h1⟩
  split
  · exact ⟨.mk _ _ _ _ _ (Nat.zero_le _) (Nat.zero_le _) (by simp) (by simp), h1⟩
  split
  · exact ⟨.mk _ _ _ _ _ (Nat.zero_le _) (Nat.zero_le _) (by simp) (by simp), h1⟩
  split
  · split
    · exact ⟨T.nil_fit _, by rw [T.nil_dep]; exact h1⟩
    · have hf : ∀ p ∈ ks, p.fty.1.Fit 1048576 ∧ p.fty.1.dep + 1 ≤ (N.mk k f t w a z ks).size := fun p hp => by
        have hpz := hsz p hp
        obtain ⟨k1, f1, t1, w1, a1, z1, ks1⟩ := p
        have h1' : 1 ≤ (N.mk k1 f1 t1 w1 a1 z1 ks1).size := by rw [N.size_mk]; omega
        by_cases hc : k1 = 33 ∧ ks1.length = 1
        · obtain ⟨m, rfl⟩ := List.length_eq_one_iff.1 hc.2
          rw [N.fty_one hc.1]
          have := hg _ hp m (by simp [N.ks])
          have hmz : m.size < (N.mk k1 f1 t1 w1 a1 z1 [m]).size := N.sizes_get (i := 0) rfl
          exact ⟨this.1, by omega⟩
        · rw [N.fty_not hc]
          exact ⟨T.nil_fit _, by show 1 + 1 ≤ _; omega⟩
      refine ⟨recT_fit (by simpa using hlen) (fun x hx => ?_) (fun p hp => ?_), ?_⟩
      · obtain ⟨p, hp, rfl⟩ := List.mem_map.1 hx
        have := hwk p hp
        cases this with | mk h _ => exact h
      · obtain ⟨q, hq, rfl⟩ := List.mem_map.1 hp
        obtain ⟨r, hr, rfl⟩ := List.mem_map.1 hq
        exact (hf r hr).1
      · have := recT_dep (ns := ks.map N.w) (ps := (ks.map N.fty).map Prod.fst) (d := (N.mk k f t w a z ks).size - 1) fun p hp => by
          obtain ⟨q, hq, rfl⟩ := List.mem_map.1 hp
          obtain ⟨r, hr, rfl⟩ := List.mem_map.1 hq
          have := (hf r hr).2; omega
        omega
  split
  · split
    · exact ⟨T.nil_fit _, by rw [T.nil_dep]; exact h1⟩
    split
    · exact ⟨T.nil_fit _, by rw [T.nil_dep]; exact h1⟩
    · refine ⟨.mk _ _ _ _ _ (Nat.zero_le _) (by simpa using hlen) (by simp) (fun p hp => ?_), ?_⟩
      · obtain ⟨q, hq, rfl⟩ := List.mem_map.1 hp
        obtain ⟨r, hr, rfl⟩ := List.mem_map.1 hq
        exact (hk r hr).1
      · rw [T.new, T.dep_mk]
        have := (T.deps_le (l := (ks.map N.ty).map Prod.fst) (n := (N.mk k f t w a z ks).size - 1)).2 fun p hp => by
          obtain ⟨q, hq, rfl⟩ := List.mem_map.1 hp
          obtain ⟨r, hr, rfl⟩ := List.mem_map.1 hq
          have h1 := (hk r hr).2
          have h2 := hsz r hr
          omega
        omega
  · exact ⟨T.nil_fit _, by rw [T.nil_dep]; exact h1⟩

/-! words of trees -/
def WdR (b : Nat) : PR → Prop
  | .ok m _ => m.Wd b
  | _ => True
def G.Wd (b : Nat) : G → Prop
  | .file ks | .stmts ks => ∀ p ∈ ks, N.Wd b p
  | .list o _ => G.Wd b o
  | .listL o _ ks => G.Wd b o ∧ ∀ p ∈ ks, N.Wd b p
  | .sumL a | .termL a | .postL a => N.Wd b a
  | _ => True
section
variable {L : List Tk} {b : Nat}
theorem WdR.want {k : Nat} {x : Bs} {h : Nat → PR} (hh : WdR b (h (k + 1))) : WdR b (wantR L k x h) := by
  unfold wantR
  split
  · exact hh
  · trivial
theorem WdR.word (hL : ∀ t ∈ L, t.x.length ≤ b) {k : Nat} {h : Bs → Nat → PR} (hh : ∀ w : Bs, w.length ≤ b → WdR b (h w (k + 1))) : WdR b (wordR L k h) := by
  unfold wordR
  split
  · refine hh _ ?_
    unfold txT
    cases hg : L[k]? with
    | none => simp
    | some t => exact hL t (List.mem_of_getElem? hg)
  · trivial
theorem WdR.ite {c : Prop} [Decidable c] {x y : PR} (hx : WdR b x) (hy : WdR b y) : WdR b (if c then x else y) := by
  split
  · exact hx
  · exact hy
theorem WdR.thenG {r : PR} {h : N → Nat → PR} (hr : WdR b r) (hh : ∀ m j, m.Wd b → WdR b (h m j)) : WdR b (r.then h) := by
  cases r with
  | out => trivial
  | bad j => trivial
  | ok m j => exact hh m j hr
theorem txT_len (hL : ∀ t ∈ L, t.x.length ≤ b) (k : Nat) : (txT L k).length ≤ b := by
  unfold txT
  cases hg : L[k]? with
  | none => simp
  | some t => exact hL t (List.mem_of_getElem? hg)
theorem N.Wd.new {k f t : Int} {w : Bs} {a : Int} {ks : List N} (hw : w.length ≤ b) (h : ∀ p ∈ ks, N.Wd b p) : WdR b (.ok (N.new k f t w a ks) 0) := .mk hw h
theorem N.Wd.ks {n : N} (h : n.Wd b) : ∀ p ∈ n.ks, N.Wd b p := by cases h with | mk _ h => exact h
theorem N.Wd.nil {k f t a : Int} {z : Bool} : N.Wd b (.mk k f t [] a z []) := .mk (Nat.zero_le _) (by simp)
theorem wd_snoc {ks : List N} {m : N} (h : ∀ p ∈ ks, N.Wd b p) (hm : m.Wd b) : ∀ p ∈ ks ++ [m], N.Wd b p := fun p hp => by
  rcases List.mem_append.1 hp with h1 | h1
  · exact h p h1
  · simp at h1; subst h1; exact hm
theorem wd_cons {ks : List N} {m : N} (hm : m.Wd b) (h : ∀ p ∈ ks, N.Wd b p) : ∀ p ∈ m :: ks, N.Wd b p := fun p hp => by
  rcases List.mem_cons.1 hp with h1 | h1
  · subst h1; exact hm
  · exact h p h1
theorem wd_nil : ∀ p ∈ ([] : List N), N.Wd b p := fun p hp => by cases hp

theorem pp_wd (hL : ∀ t ∈ L, t.x.length ≤ b) : ∀ (n : Nat) (g : G) (i : Nat), g.Wd b → WdR b (pp L n g i)
  | 0, g, i, _ => trivial
  | n + 1, g, i, hg => by
    have ih := pp_wd hL n
    have hx := txT_len hL
    have h0 : ([] : Bs).length ≤ b := Nat.zero_le _
    cases g
    all_goals simp only [pp, G.Wd] at hg ⊢
    all_goals
      repeat' first
        | trivial
        | assumption
        | (refine WdR.want ?_)
        | (refine WdR.word hL fun w hw => ?_)
        | (refine WdR.ite ?_ ?_)
        | (refine WdR.thenG (ih _ _ ?_) fun m j hm => ?_)
        | (refine ih _ _ ?_)
        | (exact N.Wd.nil)
        | (exact wd_nil)
        | (exact N.Wd.ks (by assumption))
        | (exact hx _)
        | (refine wd_snoc ?_ ?_)
        | (refine wd_cons ?_ ?_)
        | (exact (by assumption : N.Wd b _))
        | (exact hg.1)
        | (exact hg.2)
        | (exact ⟨hg, wd_nil⟩)
        | (refine ⟨hg.1, wd_snoc hg.2 ?_⟩)
        | (refine N.Wd.mk ?_ ?_)

end

theorem Toks.wd {s : Bs} {n : Nat} {l : List Tk} (h : Toks s n l) : ∀ t ∈ l, t.x.length ≤ s.length := by
  induction h with
  | fin h h0 => intro t ht; simp at ht; subst ht; simp
  | @tok s n l h h0 hr ih =>
    intro t ht
    rcases List.mem_cons.1 ht with rfl | ht
    · simp; omega
    · have := ih t ht
      simp at this; omega

theorem lexS_wd (s : Bs) (h : (lexS s).2.1 = 0) : ∀ t ∈ (lexS s).1, t.x.length ≤ s.length := ((lexS_ok s).2 h).1.wd

theorem N.none_wd (b : Nat) : N.none.Wd b := N.Wd.nil

/-- a type's text's tree isn't too great -/
theorem typeO_ok (s : Bs) (hs : s.length ≤ 1048576) : (typeO s).1.size ≤ 1048576 ∧ (typeO s).1.Wd 1048576 := by
  unfold typeO
  split
  · exact ⟨by rw [N.size_none]; decide, N.none_wd _⟩
  · rename_i h
    have h0 : (lexS s).2.1 = 0 := by simpa using h
    have hwd := lexS_wd s h0
    have hl := (lexS_like h0).2.2.2.2
    unfold typeP
    cases hF : typeF (lexS s).1 with
    | out => exact ⟨by simp [N.size_none], N.none_wd _⟩
    | bad q => exact ⟨by simp [N.size_none], N.none_wd _⟩
    | ok m j =>
      simp only
      split
      · split
        · exact ⟨by simp [N.size_none], N.none_wd _⟩
        · have hsz := pp_size (L := (lexS s).1) (16 * (lexS s).1.length + 8) .kind 0 trivial
          have hw := pp_wd (b := 1048576) (L := (lexS s).1) (fun t ht => by have := hwd t ht; omega) (16 * (lexS s).1.length + 8) .kind 0 trivial
          have hadv := pp_adv (L := (lexS s).1) (16 * (lexS s).1.length + 8) .kind 0
          rw [show pp (lexS s).1 (16 * (lexS s).1.length + 8) .kind 0 = .ok m j from hF] at hsz hw hadv
          simp only [Sz, G.k1, G.sz, N.sizes_nil] at hsz
          obtain ⟨v1, -, v3⟩ := hadv
          exact ⟨by simp only; omega, hw⟩
      · exact ⟨by simp [N.size_none], N.none_wd _⟩

/-! the examples -/
def nFld (f t : Int) (w : Bs) (k : Int) : N := N.new 33 f t w f [N.new k (f + 2) (f + 3) [] 0 []]
theorem fld_ty {f t : Int} {w : Bs} {k : Int} : (nFld f t w k).fty = (N.new k (f + 2) (f + 3) [] 0 []).ty := N.fty_one rfl
theorem leaf_ty (f t : Int) : (N.new 29 f t [] 0 []).ty = (T.new 1 [] [], 0) ∧ (N.new 30 f t [] 0 []).ty = (T.new 2 [] [], 0) ∧ (N.new 31 f t [] 0 []).ty = (T.nil, 0) := by
  refine ⟨?_, ?_, ?_⟩ <;> (rw [N.new, N.ty_mk]; simp)
def tI : T := .new 1 [] []
def tS : T := .new 2 [] []
end Go.Zam

namespace Go.Zam
set_option linter.all false
set_option maxRecDepth 100000
set_option maxHeartbeats 2000000
open Classical

theorem T.size_get {k : Int} {z : Bool} {ns : List Str'} {y : Bool} {ps : List T} {i : Nat} {p : T} (hp : ps[i]? = some p) : p.st.size < (T.mk k z ns y ps).st.size := by
  rw [T.st_mk]
  exact Ty.size_get (i := i) (by simp [hp])

section
variable {P : Program}

end
end Go.Zam

namespace Go.Zam
set_option linter.all false
set_option maxRecDepth 100000
set_option maxHeartbeats 2000000
open Classical

section
variable {P : Program}

end
end Go.Zam

namespace Go.Zam
set_option linter.all false
set_option maxRecDepth 100000
set_option maxHeartbeats 2000000
open Classical

/-- labels up to a place rise, and are names -/
def UpTo (ns : List Str') (i : Nat) : Prop := (∀ (j : Nat) (x : Str'), j < i → ns[j]? = some x → isNameB x = true) ∧ ∀ (j : Nat) (x y : Str'), j + 1 < i → ns[j]? = some x → ns[j + 1]? = some y → Op.bytesLess x y = true
theorem UpTo.all {ns : List Str'} (h : UpTo ns ns.length) : (∀ x ∈ ns, isNameB x = true) ∧ Ty.Inc ns :=
  ⟨fun x hx => by
    obtain ⟨i, hi⟩ := List.getElem?_of_mem hx
    exact h.1 i x (List.getElem?_eq_some_iff.1 hi).1 hi, fun i x y hx hy => h.2 i x y (List.getElem?_eq_some_iff.1 hy).1 hx hy⟩
theorem UpTo.zero (ns : List Str') : UpTo ns 0 := ⟨fun j x h => by omega, fun j x y h => by omega⟩
theorem UpTo.succ {ns : List Str'} {i : Nat} {y : Str'} (h : UpTo ns i) (hy : ns[i]? = some y) (hn : isNameB y = true) (hp : ∀ x, 0 < i → ns[i - 1]? = some x → Op.bytesLess x y = true) : UpTo ns (i + 1) := by
  refine ⟨fun j x hj hx => ?_, fun j x z hj hx hz => ?_⟩
  · by_cases e : j = i
    · subst e; rw [hy] at hx; cases hx; exact hn
    · exact h.1 j x (by omega) hx
  · by_cases e : j + 1 = i
    · subst e; rw [hy] at hz; cases hz; exact hp x (by omega) (by simpa using hx)
    · exact h.2 j x z (by omega) hx hz

section
variable {P : Program} {bt : Nat}

end
end Go.Zam

namespace Go.Zam
set_option linter.all false
set_option maxRecDepth 100000
set_option maxHeartbeats 2000000
open Classical

section
variable {P : Program} {t : Nat}

end
end Go.Zam

namespace Go.Zam
set_option linter.all false
set_option maxRecDepth 100000
set_option maxHeartbeats 2000000
open Classical

namespace Ty
end Ty

theorem tI_fit : tI.Fit 1048576 := .mk _ _ _ _ _ (by simp) (by simp) (by simp) (by simp)
theorem nil_fit : T.nil.Fit 1048576 := .mk _ _ _ _ _ (by simp) (by simp) (by simp) (by simp)
theorem two_fit {w w' : Str'} {v v' : T} (hw : w.length ≤ 1048576) (hw' : w'.length ≤ 1048576) (hv : v.Fit 1048576) (hv' : v'.Fit 1048576) : (T.new 3 [w, w'] [v, v']).Fit 1048576 := .mk _ _ _ _ _ (by simp) (by simp) (by simpa using ⟨hw, hw'⟩) (by simpa using ⟨hv, hv'⟩)

section
variable {P : Program} {t : Nat} {H0 : Hp}

/-- what is asked of the sentinel -/
def AwakeT (P : Program) (H0 : Hp) (f : FuncId) : Prop := ∀ H, Pre0 H0 H → ACall P f [] H (fun r H' => r = .d (.bool true) ∧ H' = H)

end
end Go.Zam

namespace Go.Zam
set_option linter.all false
set_option maxRecDepth 100000
set_option maxHeartbeats 2000000
open Classical

section
variable {P : Program} {t : Nat} {H0 : Hp}

end
end Go.Zam

namespace Go.Zam
set_option linter.all false
set_option maxRecDepth 100000
open Classical

def T.kk : T → Int
  | .mk k _ _ _ _ => k
def T.nms : T → List Str'
  | .mk _ _ ns _ _ => ns
def T.prt : T → List T
  | .mk _ _ _ _ ps => ps

mutual
/-- what two types have in common, as the program holds it; the flag: a list of parts cut off keeps its nil flag, or it does not -/
noncomputable def T.join (c : Bool) : T → T → T
  | .mk k z ns y ps, w => if (T.mk k z ns y ps).st = w.st then .mk k z ns y ps else if k = 3 ∧ w.kk = 3 then .mk 3 true (ns.filter fun x => (lookT x w.nms w.prt).isSome) true (T.joinR c ns ps w)
      else if k = 4 ∧ w.kk = 4 ∧ ps.length = w.prt.length ∧ (ps.map T.st).dropLast = (w.prt.map T.st).dropLast then .mk 4 true [] c (T.joinL c ps w.prt) else T.nil
noncomputable def T.joinR (c : Bool) : List Str' → List T → T → List T
  | x :: ns, p :: ps, w => match lookT x w.nms w.prt with
    | some q => T.join c p q :: T.joinR c ns ps w
    | none => T.joinR c ns ps w
  | _, _, _ => []
noncomputable def T.joinL (c : Bool) : List T → List T → List T
  | p :: ps, q :: qs => if ps = [] then [T.join c p q] else p :: T.joinL c ps qs
  | _, _ => []
end

section
variable {c : Bool} {k k' : Int} {z z' y y' : Bool} {ns ns' : List Str'} {ps ps' : List T}
end

end Go.Zam

namespace Go.Zam
set_option linter.all false
set_option maxRecDepth 100000
set_option maxHeartbeats 4000000
open Classical

section
variable {P : Program} {t tS : TypeId}

end
end Go.Zam

namespace Go.Zam
set_option linter.all false
set_option maxRecDepth 100000
set_option maxHeartbeats 4000000
open Classical

section
variable {P : Program} {t tS : TypeId}

/-- ref09.with -/
theorem HasT.rWith {f : FuncId} (h : HasT P [10] f (irRWith t tS)) (k : Int) (z y : Bool) (ns : List Str') (ps : List T) (at' : Nat) (n : Str') (p : T) (h1 : at' ≤ ns.length) (h2 : at' ≤ ps.length) (b1 : ns.length ≤ 1048576) (b2 : ps.length ≤ 1048576) (H : Hp) :
    ACall P f [(T.mk k z ns y ps).a, .d (.int .i64 at'), .d (.str n), p.a] H (fun r H' => r = (T.new 3 (ns.take at' ++ n :: ns.drop at') (ps.take at' ++ p :: ps.drop at')).a ∧ H' = H) := by
  obtain ⟨fn, hf, hcf⟩ := h
  refine acall_fin hf hcf (by simp [irRWith]) fun hcl _ => ?_
  have s1 : subL (ns.map encStr) 0 (at' : Int) = some ((ns.map encStr).take at') := by
    rw [subL_ok (by simp; omega)]
    simp
  have s2 : subL (ns.map encStr) (at' : Int) (ns.length : Int) = some ((ns.map encStr).drop at') := by
    rw [subL_ok (by simp; omega)]
    simp
    rw [List.take_of_length_le (by simp)]
  have s3 : subL (ps.map T.enc) 0 (at' : Int) = some ((ps.map T.enc).take at') := by
    rw [subL_ok (by simp; omega)]
    simp
  have s4 : subL (ps.map T.enc) (at' : Int) (ps.length : Int) = some ((ps.map T.enc).drop at') := by
    rw [subL_ok (by simp; omega)]
    simp
    rw [List.take_of_length_le (by simp)]
  have m1 : min at' ns.length = at' := by omega
  have m2 : min at' ps.length = at' := by omega
  have c1 : at' * 16 ≤ 140737488355328 := by omega
  have c2 : (at' + 1) * 16 ≤ 140737488355328 := by omega
  have c3 : (at' + 1 + (ns.length - at')) * 16 ≤ 140737488355328 := by omega
  have d1 : at' * 56 ≤ 140737488355328 := by omega
  have d2 : (at' + 1) * 56 ≤ 140737488355328 := by omega
  have d3 : (at' + 1 + (ps.length - at')) * 56 ≤ 140737488355328 := by omega
  have g3 : ¬ (H.length + 3 < H.length) := by omega
  have g4 : ¬ (H.length + 4 < H.length) := by omega
  rw [T.new, T.a_mk, T.a_mk]
  obtain ⟨k1, z1, n1, y1, p1⟩ := p
  rw [T.a_mk]
  simp [irRWith, s1, s2, s3, s4, appA, m1, m2, c1, c2, c3, d1, d2, d3]
  simp [RetK, cut_app hcl, g3, g4, encStr, T.enc_mk]
end
end Go.Zam

namespace Go.Zam
set_option linter.all false
set_option maxRecDepth 100000
set_option maxHeartbeats 4000000
open Classical

section
variable {P : Program} {t : Nat}

/-- what is asked of ref09.with -/
def WithT (P : Program) (f : FuncId) : Prop := ∀ (k : Int) (z y : Bool) (ns : List Str') (ps : List T) (at' : Nat) (n : Str') (p : T), at' ≤ ns.length → at' ≤ ps.length → ns.length ≤ 1048576 → ps.length ≤ 1048576 → ∀ (H : Hp),
    ACall P f [(T.mk k z ns y ps).a, .d (.int .i64 at'), .d (.str n), p.a] H (fun r H' => r = (T.new 3 (ns.take at' ++ n :: ns.drop at') (ps.take at' ++ p :: ps.drop at')).a ∧ H' = H)

/-- the labels up to a place stand ahead of a name -/
def LtTo (S : List Lt) (a : Nat) (n : Str') : Prop := ∀ y ∈ S.take a, Op.bytesLess y.1 n = true
/-- that at the place does not -/
def StopA (S : List Lt) (a : Nat) (n : Str') : Prop := ∀ y, S[a]? = some y → Op.bytesLess y.1 n = false

theorem Has.rRecord {f fw : FuncId} (h : Has P f (irRRecord fw t)) (hW : WithT P fw) : RecT P f := by
  intro nz pz ns ps hn hp H
  obtain ⟨fn, hf, hcf⟩ := h
  refine acall_fin hf hcf (by simp [irRRecord]) fun hcl _ => ?_
  obtain ⟨Q, hQ⟩ : ∃ Q : A → Hp → Prop, Q = fun r H' => r = .tup [(recT ns ps).1.a, .d (.int .i64 (recT ns ps).2)] ∧ H' = H := ⟨_, rfl⟩
  rw [← hQ]
  have hfin : ∀ (v : T) (e : Int), recT ns ps = (v, e) → Q (.tup [v.a, .d (.int .i64 e)]) H := fun v e he => by subst hQ; rw [he]; exact ⟨rfl, rfl⟩
  clear hQ
  by_cases hl : ns.length = ps.length
  case neg =>
    have hfin := hfin T.nil 1 (by rw [recT, if_neg hl])
    have hl' : ¬ (ns.length : Int) = ps.length := by omega
    simp [irRRecord, hl, hl']
    simp [RetK, cut_app hcl]
    simpa [T.a_nil] using hfin
  simp [irRRecord, hl]
  refine ForK_of (H.length + 2) ns.length (fun i fr H' => fr 0 = .d (.sl nz 1 (ns.map encStr)) ∧ fr 1 = .d (.sl pz 3 (ps.map T.enc)) ∧ fr 4 = .ptr H.length 0 ∧ fr 6 = .ptr (H.length + 1) 0 ∧ ¬ Dup (ssort cP ((ns.zip ps).take i)) ∧
    H' = H ++ [.box t [.d (.int .i64 0), .d (.sl true 1 []), .d (.sl true 3 [])], .box t [.d (.int .i64 3), .d (.sl true 1 (((ssort cP ((ns.zip ps).take i)).map Prod.fst).map encStr)), .d (.sl true 3 (((ssort cP ((ns.zip ps).take i)).map Prod.snd).map T.enc))]]) (by omega) (by decide) (by simp) (by simp) ?_ ?_
  · have hd0 : ¬ Dup (ssort cP ([] : List Lt)) := by rintro ⟨j, a, b, h, -⟩; simp [ssort] at h
    simp [cut_appk hcl, ssort]
    simpa [ssort] using hd0
  rintro i fr H' hi f7 ⟨f0, f1, f4, f6, hnd, rfl⟩
  have hlz : (ns.zip ps).length = ns.length := by rw [List.length_zip]; omega
  simp [f7, f0]
  refine BrK_split (fun h => ?_) (fun h => ?_)
  case refine_2 =>
    have hii : i = ns.length := by have : ¬ i < ns.length := by simpa using h
                                   omega
    subst hii
    rw [List.take_of_length_le (by omega)] at hnd ⊢
    have hfin := hfin (.new 3 ((ssort cP (ns.zip ps)).map Prod.fst) ((ssort cP (ns.zip ps)).map Prod.snd)) 0 (by rw [recT, if_pos hl, if_neg hnd])
    simp [f6, f4]
    simp [RetK, f4, cut_app hcl]
    rw [T.new, T.a_mk] at hfin
    simpa using hfin
  have hlt : i < ns.length := by simpa using h
  have hip : i < ps.length := by omega
  have hiz : i < (ns.zip ps).length := by omega
  have ra := rowAt_map encStr hlt
  have rb := rowAt_map T.enc hip
  have tz : (ns.zip ps).take (i + 1) = (ns.zip ps).take i ++ [(ns[i], ps[i])] := by
    rw [List.take_succ_eq_append_getElem hiz, List.getElem_zip]
  have hsl : (ssort cP ((ns.zip ps).take i)).length = i := by rw [ssort_length cP_cmp, List.length_take]; omega
  have hss := (ssort_spec cP_cmp ((ns.zip ps).take i)).1
  have hperm := ssort_perm cP_cmp ((ns.zip ps).take i)
  have hstep : ssort cP ((ns.zip ps).take (i + 1)) = ssort cP (ssort cP ((ns.zip ps).take i) ++ [(ns[i], ps[i])]) := by rw [tz, ssort_step]
  have hall : ns[i] ∈ (ssort cP ((ns.zip ps).take i)).map Prod.fst → Dup (ssort cP (ns.zip ps)) := fun hm => by
    rw [dup_iff]
    intro hnod
    have hm' : ns[i] ∈ ((ns.zip ps).take i).map Prod.fst := (hperm.map Prod.fst).mem_iff.2 hm
    rw [List.map_take, List.map_fst_zip (by omega)] at hm'
    rw [List.map_fst_zip (by omega)] at hnod
    obtain ⟨j, hj⟩ := List.getElem?_of_mem hm'
    rw [List.getElem?_take] at hj
    split at hj
    · rename_i hji
      obtain ⟨h1, h2⟩ := List.getElem?_eq_some_iff.1 hj
      exact List.pairwise_iff_getElem.1 hnod j i h1 hlt hji h2
    · cases hj
  have hnodup : ¬ Dup (ssort cP ((ns.zip ps).take i)) → ns[i] ∉ (ssort cP ((ns.zip ps).take i)).map Prod.fst → ¬ Dup (ssort cP ((ns.zip ps).take (i + 1))) := fun h1 h2 => by
    rw [dup_iff, Classical.not_not] at h1 ⊢
    have h3 : ns[i] ∉ ((ns.zip ps).take i).map Prod.fst := fun hm => h2 ((hperm.map Prod.fst).mem_iff.1 hm)
    rw [tz, List.map_append, List.nodup_append]
    refine ⟨h1, by simp, fun a ha b hb => ?_⟩
    simp at hb
    subst hb
    exact fun e => h3 (e ▸ ha)
  generalize hS : ssort cP ((ns.zip ps).take i) = S at *
  generalize ns[i] = n at *
  generalize ps[i] = p at *
  simp only [encStr] at ra
  simp
  refine LoopK_out 2 (fun fr H2 => ∃ a : Nat, a ≤ S.length ∧ LtTo S a n ∧ StopA S a n ∧ fr 0 = .d (.sl nz 1 (ns.map encStr)) ∧ fr 1 = .d (.sl pz 3 (ps.map T.enc)) ∧ fr 4 = .ptr H.length 0 ∧ fr 6 = .ptr (H.length + 1) 0 ∧ fr 7 = .d (.int .i64 i) ∧ fr 8 = .d (.int .i64 a) ∧
    H2 = H ++ [.box t [.d (.int .i64 0), .d (.sl true 1 []), .d (.sl true 3 [])], .box t [.d (.int .i64 3), .d (.sl true 1 ((S.map Prod.fst).map encStr)), .d (.sl true 3 ((S.map Prod.snd).map T.enc))]]) ?_ ?_
  · refine LoopK_of (H.length + 2) (fun fr H2 => ∃ a : Nat, a ≤ S.length ∧ LtTo S a n ∧ fr 0 = .d (.sl nz 1 (ns.map encStr)) ∧ fr 1 = .d (.sl pz 3 (ps.map T.enc)) ∧ fr 4 = .ptr H.length 0 ∧ fr 6 = .ptr (H.length + 1) 0 ∧ fr 7 = .d (.int .i64 i) ∧ fr 8 = .d (.int .i64 a) ∧
      H2 = H ++ [.box t [.d (.int .i64 0), .d (.sl true 1 []), .d (.sl true 3 [])], .box t [.d (.int .i64 3), .d (.sl true 1 ((S.map Prod.fst).map encStr)), .d (.sl true 3 ((S.map Prod.snd).map T.enc))]]) (fun fr _ => match fr 8 with | .d (.int _ k) => ((S.length : Int) - k).toNat | _ => 0) (by simp) ?_ ?_
    · refine ⟨0, Nat.zero_le _, by simp [LtTo], ?_⟩
      simp [cut_appk hcl, f0, f1, f4, f6, f7]
    rintro fr2 H2 ⟨a, ha, hless, f0, f1, f4, f6, f7, f8, rfl⟩
    by_cases hal : a < S.length
    case neg =>
      have haI : ¬ (a : Int) < S.length := by omega
      have hno : S[a]? = none := List.getElem?_eq_none (by omega)
      simp [f8, f6, hal, haI, f0, f1, f4, f7]
      exact ⟨a, ha, hless, (fun y hy => by rw [hno] at hy; cases hy), rfl⟩
    have haI : (a : Int) < S.length := by omega
    have rc := rowAt_map (encStr ∘ Prod.fst) hal
    have hg : S[a]? = some S[a] := List.getElem?_eq_getElem hal
    have tk : S.take (a + 1) = S.take a ++ [S[a]] := List.take_succ_eq_append_getElem hal
    generalize S[a] = w at rc hg tk
    simp only [Function.comp_apply, encStr] at rc
    simp [f8, f6, hal, haI, f0, f7, encStr, ra, rc]
    refine BrK_split (fun h => ?_) (fun h => ?_)
    · have hw : IntKind.i64.wrap ((a : Int) + 1) = ((a + 1 : Nat) : Int) := by rw [wrap_i64 (by omega) (by omega)]; rfl
      simp [f8]
      refine AgainK_of (m := H.length + 2) (by simp) ⟨a + 1, by omega, ?_, ?_⟩ ?_
      · intro y hy
        rw [tk] at hy
        rcases List.mem_append.1 hy with hy | hy
        · exact hless y hy
        · simp at hy; subst hy; exact h
      · simp [cut_appk hcl, f0, f1, f4, f6, f7, hw]
      · simp [hw, f8]
        omega
    · simp [f0, f1, f4, f6, f7, f8]
      exact ⟨a, ha, hless, (fun y hy => by rw [hg] at hy; cases hy; exact h), rfl⟩
  · rintro fr2 H2 ⟨a, ha, hless, hnot, f0, f1, f4, f6, f7, f8, rfl⟩
    have hins : (∀ y, S[a]? = some y → y.1 ≠ n) → ssort cP (S ++ [(n, p)]) = S.take a ++ (n, p) :: S.drop a ∧ n ∉ S.map Prod.fst := fun hx => insert_at hss ha hless hnot hx
    have hwx := hW 3 true true (S.map Prod.fst) (S.map Prod.snd) a n p (by simpa using ha) (by simpa using ha) (by simp; omega) (by simp; omega)
    have hnew : (∀ y, S[a]? = some y → y.1 ≠ n) → ¬ Dup (ssort cP ((ns.zip ps).take (i + 1))) ∧ (ssort cP ((ns.zip ps).take (i + 1))).map Prod.fst = (S.map Prod.fst).take a ++ n :: (S.map Prod.fst).drop a ∧ (ssort cP ((ns.zip ps).take (i + 1))).map Prod.snd = (S.map Prod.snd).take a ++ p :: (S.map Prod.snd).drop a := fun hx => by
      obtain ⟨e1, e2⟩ := hins hx
      refine ⟨hnodup hnd e2, ?_, ?_⟩ <;> rw [hstep, e1] <;> simp
    generalize hS1 : ssort cP ((ns.zip ps).take (i + 1)) = S1 at *
    obtain ⟨k1, z1, n1, y1, p1⟩ := p
    rw [T.enc_mk] at rb
    rw [T.new, T.a_mk, T.a_mk, T.a_mk] at hwx
    have hend : ∀ fr3 : Fr, (∀ y, S[a]? = some y → y.1 ≠ n) → True := fun _ _ => trivial
    simp only [List.map_map] at hwx
    by_cases hal : a < S.length
    case neg =>
      have haI : ¬ (a : Int) < S.length := by omega
      have hno : S[a]? = none := List.getElem?_eq_none (by omega)
      obtain ⟨g1, g2, g3⟩ := hnew (fun y hy => by rw [hno] at hy; cases hy)
      simp [f8, f6, hal, haI, f0, f1, f4, f7, encStr, ra, rb]
      refine CallD_of (hwx _) ?_
      simp [f6]
      refine NextF_of (H.length + 2) (Nat.le_refl _) hlt (by simp [f7]) ?_
      rw [hS1, g2, g3]
      simp [f0, f1, f4, f6, cut_appk hcl, g1]
    have haI : (a : Int) < S.length := by omega
    have rc := rowAt_map (encStr ∘ Prod.fst) hal
    have hg : S[a]? = some S[a] := List.getElem?_eq_getElem hal
    have hmem : S[a] ∈ S := List.getElem_mem hal
    generalize S[a] = w at rc hg hmem
    simp only [Function.comp_apply, encStr] at rc
    by_cases hwn : w.1 = n
    · have hd := hall (List.mem_map.2 ⟨w, hmem, hwn⟩)
      have hfin := hfin T.nil 40 (by rw [recT, if_pos hl, if_pos hd])
      simp [f8, f6, hal, haI, f0, f1, f4, f7, encStr, ra, rb, rc, hwn]
      simp [RetK, f4, cut_app hcl]
      simpa [T.a_nil] using hfin
    · obtain ⟨g1, g2, g3⟩ := hnew (fun y hy => by rw [hg] at hy; cases hy; exact hwn)
      simp [f8, f6, hal, haI, f0, f1, f4, f7, encStr, ra, rb, rc, hwn]
      refine CallD_of (hwx _) ?_
      simp [f6]
      refine NextF_of (H.length + 2) (Nat.le_refl _) hlt (by simp [f7]) ?_
      rw [hS1, g2, g3]
      simp [f0, f1, f4, f6, cut_appk hcl, g1]
end
end Go.Zam

namespace Go.Zam
set_option linter.all false
set_option maxRecDepth 100000
open Classical

theorem recT_fit1 {ns : List Str'} {ps : List T} (h1 : ∀ x ∈ ns, x.length ≤ 1048576) (h2 : ns.length ≤ 1048576) (h3 : ∀ p ∈ ps, p.Fit 1048576) : (recT ns ps).1.Fit 1048576 := by
  unfold recT
  split
  case isFalse => exact T.nil_fit _
  split
  · exact T.nil_fit _
  have hp := ssort_perm cP_cmp (ns.zip ps)
  generalize ssort cP (ns.zip ps) = S at *
  have hback : ∀ (n : Str') (p : T), (n, p) ∈ S → ∃ i : Nat, ns[i]? = some n ∧ ps[i]? = some p := fun n p h => by
    obtain ⟨i, hi⟩ := List.getElem?_of_mem (hp.mem_iff.2 h)
    rw [List.getElem?_zip_eq_some] at hi
    exact ⟨i, hi⟩
  have hln : S.length ≤ 1048576 := by
    have := hp.length_eq
    rw [List.length_zip] at this
    omega
  refine .mk _ _ _ _ _ (by simpa using hln) (by simpa using hln) (fun x hx => ?_) fun p hp' => ?_
  · obtain ⟨⟨n, q⟩, hs, rfl⟩ := List.mem_map.1 hx
    obtain ⟨i, hi, -⟩ := hback n q hs
    exact h1 _ (List.mem_of_getElem? hi)
  · obtain ⟨⟨n, q⟩, hs, rfl⟩ := List.mem_map.1 hp'
    obtain ⟨i, -, hi⟩ := hback n q hs
    exact h3 _ (List.mem_of_getElem? hi)
end Go.Zam

namespace Go.Zam
set_option linter.all false
set_option maxRecDepth 100000
set_option maxHeartbeats 4000000
open Classical

def irLMakes (fa fl fr rr fc rs t : Nat) : IFn :=
 { nt := 113, res := [.t 6], body := (
  .seq (.ops [
    ⟨(some 5), none, .box t 3 (.t 2)⟩,
    ⟨(some 6), none, .mv (.c (.bool false))⟩] false)
  (.seq (.seq (.ops [
     ⟨(some 16), none, .mv (.t 0)⟩,
     ⟨(some 17), none, .lenL (.t 16)⟩,
     ⟨(some 18), none, .bin .gtr (.t 17) (.c (.int .i64 30))⟩,
     ⟨(some 19), none, .mv (.t 18)⟩,
     ⟨(some 20), (some (19, false)), .mv (.t 1)⟩,
     ⟨(some 21), (some (19, false)), .lenL (.t 20)⟩,
     ⟨(some 22), (some (19, false)), .bin .gtr (.t 21) (.c (.int .i64 30))⟩,
     ⟨(some 23), none, .pick (.t 19) (.c (.bool true)) (.t 22)⟩,
     ⟨(some 24), none, .mv (.t 23)⟩,
     ⟨(some 25), (some (24, false)), .load 3 true (.t 5)⟩,
     ⟨(some 26), (some (24, false)), .call fl [(.t 25)]⟩,
     ⟨(some 27), (some (24, false)), .un .not (.t 26)⟩,
     ⟨(some 28), none, .pick (.t 24) (.c (.bool true)) (.t 27)⟩] false)
   (.cond (.t 28) (.seq (.ops [
      ⟨(some 29), none, .call fa []⟩,
      ⟨(some 6), none, .mv (.t 29)⟩] false)
    (.ret))
   (.skip)))
  (.seq (.seq (.ops [
     ⟨(some 30), none, .mv (.t 1)⟩,
     ⟨(some 31), none, .lenL (.t 30)⟩,
     ⟨(some 32), none, .mv (.c (.int .i64 0))⟩] false)
   (.blk 0 (.loop (.seq (.ops [
       ⟨(some 33), none, .bin .lss (.t 32) (.t 31)⟩] false)
     (.seq (.cond (.t 33) (.skip)
      (.exit 0))
     (.seq (.blk 1 (.seq (.ops [
         ⟨(some 34), none, .iaddr 3 (.t 30) (.t 32)⟩,
         ⟨(some 35), none, .load 3 true (.t 34)⟩,
         ⟨(some 8), none, .alloc t [(.int .i64 0), (.sl true 1 []), (.sl true 3 [])]⟩,
         ⟨none, none, .store 3 (.t 8) (.t 35)⟩] false)
       (.seq (.ops [
         ⟨(some 36), none, .load 3 true (.t 8)⟩,
         ⟨(some 37), none, .call fl [(.t 36)]⟩,
         ⟨(some 38), none, .un .not (.t 37)⟩] false)
       (.cond (.t 38) (.seq (.ops [
          ⟨(some 39), none, .call fa []⟩,
          ⟨(some 6), none, .mv (.t 39)⟩] false)
        (.ret))
       (.skip)))))
     (.ops [
      ⟨(some 40), none, .bin .add (.t 32) (.c (.int .i64 1))⟩,
      ⟨(some 32), none, .mv (.t 40)⟩] false)))))))
  (.seq (.ops [
    ⟨(some 42), none, .mv (.t 0)⟩,
    ⟨(some 43), none, .mv (.t 1)⟩,
    ⟨(some 44), none, .call fr [(.t 42), (.t 43)]⟩,
    ⟨(some 41), none, .mv (.t 44)⟩,
    ⟨(some 45), none, .ext (.t 41) 0⟩,
    ⟨(some 46), none, .ext (.t 41) 1⟩,
    ⟨(some 9), none, .alloc t [(.int .i64 0), (.sl true 1 []), (.sl true 3 [])]⟩,
    ⟨none, none, .store 3 (.t 9) (.t 45)⟩,
    ⟨(some 10), none, .mv (.t 46)⟩] false)
  (.seq (.ops [
    ⟨(some 48), none, .mv (.t 0)⟩,
    ⟨(some 49), none, .mv (.t 1)⟩,
    ⟨(some 50), none, .call rr [(.t 48), (.t 49)]⟩,
    ⟨(some 47), none, .mv (.t 50)⟩,
    ⟨(some 51), none, .ext (.t 47) 0⟩,
    ⟨(some 52), none, .ext (.t 47) 1⟩,
    ⟨(some 11), none, .alloc t [(.int .i64 0), (.sl true 1 []), (.sl true 3 [])]⟩,
    ⟨none, none, .store 3 (.t 11) (.t 51)⟩,
    ⟨(some 12), none, .mv (.t 52)⟩] false)
  (.seq (.ops [
    ⟨(some 53), none, .load 3 true (.t 5)⟩,
    ⟨(some 54), none, .mv (.t 1)⟩,
    ⟨(some 55), none, .call fc [(.t 53), (.t 54)]⟩,
    ⟨(some 13), none, .alloc t [(.int .i64 0), (.sl true 1 []), (.sl true 3 [])]⟩,
    ⟨none, none, .store 3 (.t 13) (.t 55)⟩] false)
  (.seq (.seq (.ops [
     ⟨(some 56), none, .mv (.t 10)⟩,
     ⟨(some 57), none, .mv (.t 12)⟩,
     ⟨(some 58), none, .bin .neq (.t 56) (.t 57)⟩,
     ⟨(some 59), none, .mv (.t 58)⟩,
     ⟨(some 60), (some (59, false)), .load 3 true (.t 9)⟩,
     ⟨(some 61), (some (59, false)), .load 3 true (.t 11)⟩,
     ⟨(some 62), (some (59, false)), .call rs [(.t 60), (.t 61)]⟩,
     ⟨(some 63), (some (59, false)), .un .not (.t 62)⟩,
     ⟨(some 64), none, .pick (.t 59) (.c (.bool true)) (.t 63)⟩,
     ⟨(some 65), none, .mv (.t 64)⟩,
     ⟨(some 66), (some (65, false)), .faddr 0 (.t 13)⟩,
     ⟨(some 67), (some (65, false)), .load 1 false (.t 66)⟩,
     ⟨(some 68), (some (65, false)), .bin .neq (.t 67) (.c (.int .i64 4))⟩,
     ⟨(some 69), none, .pick (.t 65) (.c (.bool true)) (.t 68)⟩,
     ⟨(some 70), none, .mv (.t 69)⟩,
     ⟨(some 71), (some (70, false)), .faddr 1 (.t 13)⟩,
     ⟨(some 72), (some (70, false)), .load 1 false (.t 71)⟩,
     ⟨(some 73), (some (70, false)), .lenL (.t 72)⟩,
     ⟨(some 74), (some (70, false)), .bin .neq (.t 73) (.c (.int .i64 0))⟩,
     ⟨(some 75), none, .pick (.t 70) (.c (.bool true)) (.t 74)⟩,
     ⟨(some 76), none, .mv (.t 75)⟩,
     ⟨(some 77), (some (76, false)), .faddr 2 (.t 13)⟩,
     ⟨(some 78), (some (76, false)), .load 1 false (.t 77)⟩,
     ⟨(some 79), (some (76, false)), .lenL (.t 78)⟩,
     ⟨(some 80), (some (76, false)), .mv (.t 1)⟩,
     ⟨(some 81), (some (76, false)), .lenL (.t 80)⟩,
     ⟨(some 82), (some (76, false)), .bin .add (.t 81) (.c (.int .i64 1))⟩,
     ⟨(some 83), (some (76, false)), .bin .neq (.t 79) (.t 82)⟩,
     ⟨(some 84), none, .pick (.t 76) (.c (.bool true)) (.t 83)⟩,
     ⟨(some 85), none, .mv (.t 84)⟩,
     ⟨(some 86), (some (85, false)), .faddr 2 (.t 13)⟩,
     ⟨(some 87), (some (85, false)), .load 1 false (.t 86)⟩,
     ⟨(some 88), (some (85, false)), .mv (.t 1)⟩,
     ⟨(some 89), (some (85, false)), .lenL (.t 88)⟩,
     ⟨(some 90), (some (85, false)), .iaddr 3 (.t 87) (.t 89)⟩,
     ⟨(some 91), (some (85, false)), .load 3 true (.t 90)⟩,
     ⟨(some 92), (some (85, false)), .load 3 true (.t 5)⟩,
     ⟨(some 93), (some (85, false)), .call rs [(.t 91), (.t 92)]⟩,
     ⟨(some 94), (some (85, false)), .un .not (.t 93)⟩,
     ⟨(some 95), none, .pick (.t 85) (.c (.bool true)) (.t 94)⟩] true)
   (.cond (.t 95) (.seq (.ops [
      ⟨(some 6), none, .mv (.c (.bool false))⟩] false)
    (.ret))
   (.skip)))
  (.seq (.seq (.ops [
     ⟨(some 96), none, .mv (.t 1)⟩,
     ⟨(some 97), none, .lenL (.t 96)⟩,
     ⟨(some 98), none, .mv (.c (.int .i64 0))⟩] false)
   (.blk 2 (.loop (.seq (.ops [
       ⟨(some 99), none, .bin .lss (.t 98) (.t 97)⟩] false)
     (.seq (.cond (.t 99) (.skip)
      (.exit 2))
     (.seq (.blk 3 (.seq (.ops [
         ⟨(some 100), none, .mv (.t 98)⟩,
         ⟨(some 101), none, .iaddr 3 (.t 96) (.t 98)⟩,
         ⟨(some 102), none, .load 3 true (.t 101)⟩,
         ⟨(some 15), none, .alloc t [(.int .i64 0), (.sl true 1 []), (.sl true 3 [])]⟩,
         ⟨(some 14), none, .mv (.t 100)⟩,
         ⟨none, none, .store 3 (.t 15) (.t 102)⟩] false)
       (.seq (.ops [
         ⟨(some 103), none, .faddr 2 (.t 13)⟩,
         ⟨(some 104), none, .load 1 false (.t 103)⟩,
         ⟨(some 105), none, .mv (.t 14)⟩,
         ⟨(some 106), none, .iaddr 3 (.t 104) (.t 105)⟩,
         ⟨(some 107), none, .load 3 true (.t 106)⟩,
         ⟨(some 108), none, .load 3 true (.t 15)⟩,
         ⟨(some 109), none, .call rs [(.t 107), (.t 108)]⟩,
         ⟨(some 110), none, .un .not (.t 109)⟩] true)
       (.cond (.t 110) (.seq (.ops [
          ⟨(some 6), none, .mv (.c (.bool false))⟩] false)
        (.ret))
       (.skip)))))
     (.ops [
      ⟨(some 111), none, .bin .add (.t 98) (.c (.int .i64 1))⟩,
      ⟨(some 98), none, .mv (.t 111)⟩] false)))))))
  (.seq (.ops [
    ⟨(some 112), none, .call fa []⟩,
    ⟨(some 6), none, .mv (.t 112)⟩] false)
  (.ret)))))))))) }

section
variable {P : Program} {t : Nat} {H0 : Hp}

/-- whetstonelaw09.TermMakes -/
theorem Has.lMakes {f fa fl fr rr fc rs : FuncId} (h : Has P f (irLMakes fa fl fr rr fc rs t)) (hA : AwakeT P H0 fa)
    (hL : ∀ v : T, v.Fit 1048576 → ∀ H, ACall P fl [v.a] H (fun r H' => (∃ c : Bool, r = .d (.bool c)) ∧ H' = H))
    (hC1 : RecT P fr) (hC2 : RecT P rr) (hS : ∀ v : T, v.Fit 1048576 → SameT P rs v)
    (hN : ∀ (v : T) (z : Bool) (ps : List T), (ps.length + 1) * 56 ≤ 140737488355328 → ∀ H, ACall P fc [v.a, .d (.sl z 3 (ps.map T.enc))] H (fun r H' => r = (T.fn v z ps).a ∧ H' = H))
    (ns : List Str') (ps : List T) (v : T) (nz pz : Bool) (hn : ns.length ≤ 1048576) (hnw : ∀ n ∈ ns, n.length ≤ 1048576) (hp : ps.length ≤ 1048576) (hpf : ∀ p ∈ ps, p.Fit 1048576) (hv : v.Fit 1048576) (H : Hp) (hH : Pre0 H0 H) :
    ACall P f [.d (.sl nz 1 (ns.map encStr)), .d (.sl pz 3 (ps.map T.enc)), v.a] H (fun r H' => r = .d (.bool true) ∧ H' = H) := by
  obtain ⟨fn, hf, hcf⟩ := h
  refine acall_fin hf hcf (by simp [irLMakes]) fun hcl _ => ?_
  have l1 := hL v hv
  have y1 := hC1 nz pz ns ps hn hp
  have y2 := hC2 nz pz ns ps hn hp
  have hrf : (recT ns ps).1.Fit 1048576 := recT_fit1 hnw hn hpf
  have y3 := hS _ hrf (recT ns ps).1
  have y4 := hN v pz ps (by omega)
  have y5 := hS v hv v
  simp only [decide_true] at y3 y5
  generalize recT ns ps = R at *
  obtain ⟨tt, e⟩ := R
  simp only at y1 y2 y3
  have aw := fun X => hA (H ++ X) (hH.app _)
  rw [T.fn] at y4
  obtain ⟨k, z, ms, y, qs⟩ := v
  obtain ⟨k1, z1, n1, w1, p1⟩ := tt
  simp only [T.a_mk, List.map_append, List.map_cons, List.map_nil, T.enc_mk] at l1 y1 y2 y3 y4 y5 ⊢
  by_cases c1 : (30 : Int) < ns.length
  · simp [irLMakes, c1]
    refine CallK_of' (aw _) ?_
    simp
    simp [RetK, cut_appk hcl, cut_app hcl]
  by_cases c2 : (30 : Int) < ps.length
  · simp [irLMakes, c1, c2]
    refine CallK_of' (aw _) ?_
    simp
    simp [RetK, cut_appk hcl, cut_app hcl]
  simp [irLMakes, c1, c2]
  refine CallK_of (l1 _) ?_
  rintro r H2 ⟨⟨c, rfl⟩, rfl⟩
  cases c
  · simp
    refine CallK_of' (aw _) ?_
    simp
    simp [RetK, cut_appk hcl, cut_app hcl]
  simp
  refine RangeK_of (H.length + 1) ps.length (fun i fr H' => fr 0 = .d (.sl nz 1 (ns.map encStr)) ∧ fr 1 = .d (.sl pz 3 (ps.map T.enc)) ∧ fr 5 = .ptr H.length 0 ∧ fr 30 = .d (.sl pz 3 (ps.map T.enc)) ∧ H' = H ++ [.box t [.d (.int .i64 k), .d (.sl z 1 (ms.map encStr)), .d (.sl y 3 (qs.map T.enc))]]) (by omega) (by decide) (by simp) (by simp) ?_ ?_ ?_
  · simp [cut_appk hcl]
  · rintro i fr H' hi f32 f31 ⟨f0, f1, f5, f30, rfl⟩
    have hr := rowAt_map T.enc hi
    have l2 := hL ps[i] (hpf _ (List.getElem_mem hi))
    generalize ps[i] = p at hr l2
    obtain ⟨k4, z4, n4, y4', p4⟩ := p
    simp only [T.a_mk] at l2
    rw [T.enc_mk] at hr
    simp [f32, f30, hr]
    refine CallK_of (l2 _) ?_
    rintro r H2 ⟨⟨c, rfl⟩, rfl⟩
    cases c
    · simp
      refine CallK_of' (aw _) ?_
      simp
      simp [RetK, cut_appk hcl, cut_app hcl]
    simp
    refine NextK_of (H.length + 1) (Nat.le_refl _) (by simp [f32, f31]) ?_
    simp [f0, f1, f5, f30, cut_appk hcl]
  · rintro fr H' f32 f31 ⟨f0, f1, f5, f30, rfl⟩
    have hw1 : IntKind.i64.wrap ((ps.length : Int) + 1) = (ps.length : Int) + 1 := wrap_i64 (by omega) (by omega)
    have hlast : Zam.rowAt (ps.map T.enc ++ [[D.int IntKind.i64 k, D.sl z 1 (ms.map encStr), D.sl y 3 (qs.map T.enc)]]) (ps.length : Int) = some [D.int IntKind.i64 k, D.sl z 1 (ms.map encStr), D.sl y 3 (qs.map T.enc)] := by
      have hi1 : ps.length < (ps ++ [T.mk k z ms y qs]).length := by simp
      have := rowAt_map T.enc hi1
      simpa [T.enc_mk] using this
    simp [f0, f1]
    refine CallK_of' (y1 _) ?_
    simp [f0, f1]
    refine CallK_of' (y2 _) ?_
    simp [f0, f1, f5]
    refine CallK_of' (y4 _) ?_
    simp [f0, f1, f5]
    refine CallD_of (y3 _) ?_
    simp [f0, f1, f5, hw1, hlast]
    refine CallD_of (y5 _) ?_
    simp [f0, f1, f5]
    refine RangeK_of (H.length + 4) ps.length (fun i fr2 H2 => fr2 13 = .ptr (H.length + 3) 0 ∧ fr2 96 = .d (.sl pz 3 (ps.map T.enc)) ∧
      H2 = H ++ [.box t [.d (.int .i64 k), .d (.sl z 1 (ms.map encStr)), .d (.sl y 3 (qs.map T.enc))], .box t [.d (.int .i64 k1), .d (.sl z1 1 (n1.map encStr)), .d (.sl w1 3 (p1.map T.enc))], .box t [.d (.int .i64 k1), .d (.sl z1 1 (n1.map encStr)), .d (.sl w1 3 (p1.map T.enc))],
        .box t [.d (.int .i64 4), .d (.sl true 1 []), .d (.sl (pz && ps.isEmpty) 3 (ps.map T.enc ++ [[D.int IntKind.i64 k, D.sl z 1 (ms.map encStr), D.sl y 3 (qs.map T.enc)]]))]]) (by omega) (by decide) (by simp) (by simp) ?_ ?_ ?_
    · simp [cut_appk hcl]
    · rintro i fr2 H2 hi f98 f97 ⟨f13, f96, rfl⟩
      have hr := rowAt_map T.enc hi
      have hr2 : Zam.rowAt (ps.map T.enc ++ [[D.int IntKind.i64 k, D.sl z 1 (ms.map encStr), D.sl y 3 (qs.map T.enc)]]) (i : Int) = some ps[i].enc := by
        have hi1 : i < (ps ++ [T.mk k z ms y qs]).length := by simp; omega
        have := rowAt_map T.enc hi1
        have e1 : (ps ++ [T.mk k z ms y qs])[i] = ps[i] := List.getElem_append_left hi
        rw [e1] at this
        simpa [T.enc_mk] using this
      have hs := hS ps[i] (hpf _ (List.getElem_mem hi)) ps[i]
      generalize ps[i] = p at hr hr2 hs
      simp only [decide_true] at hs
      obtain ⟨k4, z4, n4, y4', p4⟩ := p
      simp only [T.a_mk] at hs
      rw [T.enc_mk k4 z4 n4 y4' p4] at hr hr2
      simp [f98, f96, f13, hr, hr2]
      refine CallD_of (hs _) ?_
      simp
      refine NextK_of (H.length + 4) (Nat.le_refl _) (by simp [f98, f97]) ?_
      simp [f13, f96, cut_appk hcl]
    · rintro fr2 H2 f98 f97 ⟨f13, f96, rfl⟩
      simp
      refine CallK_of' (aw _) ?_
      simp
      simp [RetK, cut_appk hcl, cut_app hcl]
end
end Go.Zam

namespace Go.Zam
set_option linter.all false
set_option maxRecDepth 100000
set_option maxHeartbeats 4000000
open Classical

section
variable {P : Program} {t : Nat} {H0 : Hp}

end
end Go.Zam

namespace Go.Zam
open Go.RowKit (Below)
open Go.Proofs Go.Shelf
set_option linter.all false
set_option maxRecDepth 100000
set_option maxHeartbeats 1000000

theorem join_leaf {P : Program} {ρ : Ren} (L : Lays.n156 P ρ) (X : Builder.Extra P ρ) (z : Bool) (xs : List (List UInt8)) (sep : List UInt8) (hN : xs.length ≤ 140737488355328) (hlen : (Lib.join xs sep).length ≤ 140737488355328) (H : Hp) :
    ACall P (ρ.f 156) [.d (.sl z 1 (xs.map Go.Zam.encStr)), .d (.str sep)] H (fun r H' => r = .d (.str (Lib.join xs sep)) ∧ H' = H) := by
  refine leaf (args := [.sl z 1 (xs.map Go.Zam.encStr), .str sep]) (fun w σ vs hσ hl hv => ?_) H
  obtain ⟨v1, v2, rfl⟩ : ∃ v1 v2, vs = [v1, v2] := by
    match vs, hl with
    | [a, b], _ => exact ⟨a, b, rfl⟩
  have h1 := hv 0 v1 _ rfl rfl
  have h2 := (hv 1 v2 _ rfl rfl).str_inv
  subst h2
  have hmap : (xs.map fun l => (⟨l.toArray⟩ : ByteArray)).map (·.data.toList) = xs := by
    rw [List.map_map]
    conv => rhs; rw [← List.map_id xs]
    exact List.map_congr_left fun l _ => by simp
  have none : ∀ (a : Option Addr) (c : Nat), xs = [] → Calls P (ρ.f 156) #[.slice a 0 c, .string ⟨sep.toArray⟩] w fun e w' => ∃ v, e = .returned v ∧ Below w.heap.size w w' ∧ ∀ σ, DR σ v (.str (Lib.join xs sep)) := fun a c e => by
    refine (Any.strings_Join_none L X a c ⟨sep.toArray⟩ w).mono ?_
    rintro e' w' ⟨rfl, rfl⟩
    refine ⟨_, rfl, Below.refl _ _, fun σ => ?_⟩
    subst e
    exact DR.strOf []
  rcases h1.sl_inv with ⟨rfl, -, hx⟩ | ⟨a, cap, rfl, -, hx⟩ | ⟨b, o, cap, f, rfl, -, hcap, -, hc, hd⟩
  · exact none _ _ (by simpa using hx)
  · exact none _ _ (by simpa using hx)
  by_cases e : xs = []
  · subst e
    exact none _ _ rfl
  have hcell : ∀ (j : Nat) x, (xs.map fun l => (⟨l.toArray⟩ : ByteArray))[j]? = some x → w.cell? ⟨b, o + j, .none⟩ = some (.string x) := fun j x hj => by
    rw [List.getElem?_map, Option.map_eq_some_iff] at hj
    obtain ⟨l, hl, rfl⟩ := hj
    have hr : (xs.map Go.Zam.encStr)[j]? = some [.str l] := by simp [hl, Go.Zam.encStr]
    have a1 := hσ _ _ _ (hc j 0 _ _ hr rfl)
    have a2 := (hd j 0 _ _ hr rfl).str_inv
    rw [a2] at a1
    simpa using a1
  have hb : b < w.heap.size := by
    obtain ⟨l, hl⟩ : ∃ l, xs[0]? = some l := by
      cases xs with
      | nil => exact absurd rfl e
      | cons l r => exact ⟨l, rfl⟩
    exact World.block_lt_of_cell? w ⟨b, o + 0, .none⟩ (hcell 0 _ (by rw [List.getElem?_map, hl]; rfl))
  have := Any.strings_Join L X b o cap (xs.map fun l => (⟨l.toArray⟩ : ByteArray)) ⟨sep.toArray⟩ w hcell hb (by simpa using hN) (by simpa using hcap) (by rw [hmap]; simpa using hlen)
  simp only [List.length_map] at this
  rw [hmap] at this
  simp only [List.length_map]
  refine this.mono ?_
  rintro e' w' ⟨rfl, hw⟩
  refine ⟨_, rfl, hw, fun σ => ?_⟩
  simpa using DR.strOf (σ := σ) (Lib.join xs sep)
end Go.Zam

namespace Go.Zam
set_option linter.all false
set_option maxRecDepth 100000

/-- a row of texts with the texts of labels ahead -/
def labs (ns ts : List Bs) : List Bs := List.zipWith (fun n t => n ++ [58, 32] ++ t) ns ts

mutual
/-- a type's text -/
def T.txt : T → Bs
  | .mk k z ns y ps => if k = 1 then [105, 110, 116] else if k = 2 then [115, 116, 114] else if k = 3 then [123] ++ Lib.join (labs ns (T.txts ps)) [44, 32] ++ [125]
      else if k = 4 ∧ ps ≠ [] then [102, 110, 40] ++ Lib.join (T.txts ps).dropLast [44, 32] ++ [41, 58, 32] ++ (T.txts ps).getLastD [] else [100, 121, 110]
def T.txts : List T → List Bs
  | [] => []
  | p :: r => T.txt p :: T.txts r
end
theorem T.txts_map : ∀ l : List T, T.txts l = l.map T.txt
  | [] => rfl
  | p :: r => by rw [T.txts, T.txts_map r]; rfl
theorem T.txt_mk (k : Int) (z : Bool) (ns : List Str') (y : Bool) (ps : List T) : T.txt (.mk k z ns y ps) = if k = 1 then [105, 110, 116] else if k = 2 then [115, 116, 114] else if k = 3 then [123] ++ Lib.join (labs ns (ps.map T.txt)) [44, 32] ++ [125]
      else if k = 4 ∧ ps ≠ [] then [102, 110, 40] ++ Lib.join (ps.map T.txt).dropLast [44, 32] ++ [41, 58, 32] ++ (ps.map T.txt).getLastD [] else [100, 121, 110] := by rw [T.txt, T.txts_map]

mutual
/-- a bound on a type's text -/
def T.wt : T → Nat
  | .mk _ _ ns _ ps => 16 + (ns.map fun n => n.length + 4).sum + T.wts ps
def T.wts : List T → Nat
  | [] => 0
  | p :: r => T.wt p + 4 + T.wts r
end
theorem T.wt_mk (k : Int) (z : Bool) (ns : List Str') (y : Bool) (ps : List T) : T.wt (.mk k z ns y ps) = 16 + (ns.map fun n => n.length + 4).sum + T.wts ps := by rw [T.wt]
theorem T.wts_mem : ∀ {l : List T} {p : T}, p ∈ l → p.wt + 4 ≤ T.wts l
  | [], _, h => by simp at h
  | x :: r, p, h => by
    rw [T.wts]
    rcases List.mem_cons.1 h with rfl | h
    · omega
    · have := T.wts_mem h; omega

theorem join_len (xs : List Bs) (sep : Bs) : (Lib.join xs sep).length ≤ (xs.map fun x => x.length + sep.length).sum := by
  cases xs with
  | nil => simp [Lib.join_nil]
  | cons x r =>
    rw [Lib.join_cons, List.length_append, Lib.joinTail_length, List.map_cons, List.sum_cons]
    have : ∀ r : List Bs, sep.length * r.length + Lib.lens r ≤ (r.map fun x => x.length + sep.length).sum := fun r => by
      induction r with
      | nil => simp [Lib.lens]
      | cons y r ih =>
        simp only [Lib.lens, List.map_cons, List.sum_cons, List.length_cons, Nat.mul_add] at ih ⊢
        omega
    have := this r
    omega
theorem labs_sum : ∀ (ns : List Str') (ts : List Bs), ((labs ns ts).map fun x => x.length + 2).sum ≤ (ns.map fun n => n.length + 4).sum + (ts.map fun t => t.length).sum
  | [], _ => by simp [labs]
  | _ :: _, [] => by simp [labs]
  | n :: ns, t :: ts => by
    have := labs_sum ns ts
    simp only [labs] at this
    simp only [labs, List.zipWith_cons_cons, List.map_cons, List.sum_cons, List.length_append, List.length_cons, List.length_nil]
    omega
theorem sum_txt : ∀ {l : List T}, (∀ p ∈ l, p.txt.length ≤ p.wt) → (l.map fun p => p.txt.length + 4).sum ≤ T.wts l
  | [], _ => by simp [T.wts]
  | p :: r, h => by
    have h1 := h p (by simp)
    have := sum_txt (l := r) fun q hq => h q (by simp [hq])
    simp only [List.map_cons, List.sum_cons, T.wts]
    omega
theorem sum_le {α : Type} {f g : α → Nat} : ∀ {l : List α}, (∀ x ∈ l, f x ≤ g x) → (l.map f).sum ≤ (l.map g).sum
  | [], _ => by simp
  | x :: r, h => by
    have h1 := h x (by simp)
    have := sum_le (l := r) fun y hy => h y (by simp [hy])
    simp only [List.map_cons, List.sum_cons]
    omega

theorem T.txt_len (v : T) : v.txt.length ≤ v.wt := by
  induction v using T.ind with
  | h k z ns y ps ih =>
  rw [T.txt_mk, T.wt_mk]
  have hs := sum_txt ih
  split
  · simp; omega
  split
  · simp; omega
  split
  · have h1 : (Lib.join (labs ns (ps.map T.txt)) [44, 32]).length ≤ ((labs ns (ps.map T.txt)).map fun x => x.length + 2).sum := join_len _ _
    have h2 := labs_sum ns (ps.map T.txt)
    have h3 : ((ps.map T.txt).map fun t => t.length).sum ≤ (ps.map fun p => p.txt.length + 4).sum := by
      rw [List.map_map]
      exact sum_le fun p _ => by simp
    simp only [List.length_append, List.length_cons, List.length_nil] at h1 ⊢
    omega
  split
  · rename_i h
    obtain ⟨l, p, rfl⟩ : ∃ l p, ps = l ++ [p] := ⟨ps.dropLast, ps.getLast h.2, (List.dropLast_concat_getLast h.2).symm⟩
    have h1 : (Lib.join (l.map T.txt) [44, 32]).length ≤ ((l.map T.txt).map fun x => x.length + 2).sum := join_len _ _
    have h3 : ((l.map T.txt).map fun t => t.length + 2).sum ≤ (l.map fun p => p.txt.length + 4).sum := by
      rw [List.map_map]
      exact sum_le fun p _ => by simp
    have e1 : ((l ++ [p]).map T.txt).dropLast = l.map T.txt := by simp
    have e2 : ((l ++ [p]).map T.txt).getLastD [] = p.txt := by simp
    rw [e1, e2]
    simp only [List.map_append, List.sum_append, List.map_cons, List.map_nil, List.sum_cons, List.sum_nil] at hs
    simp only [List.length_append, List.length_cons, List.length_nil] at h1 ⊢
    omega
  · simp; omega

theorem T.wt_part {k : Int} {z : Bool} {ns : List Str'} {y : Bool} {ps : List T} {p : T} (h : p ∈ ps) : p.wt ≤ (T.mk k z ns y ps).wt := by
  rw [T.wt_mk]; have := T.wts_mem h; omega

end Go.Zam

namespace Go.Zam
set_option linter.all false
set_option maxRecDepth 100000
set_option maxHeartbeats 4000000
open Classical

/-- what is asked of a function that tells a type's text -/
def TextT (P : Program) (f : FuncId) (v : T) : Prop := ∀ (H : Hp), ACall P f [v.a] H (fun r H' => r = .d (.str v.txt) ∧ H' = H)

/-- what is asked of strings.Join -/
def JoinS (P : Program) (f : FuncId) : Prop := ∀ (z : Bool) (xs : List Bs) (sep : Bs), xs.length ≤ 140737488355328 → (Lib.join xs sep).length ≤ 140737488355328 → ∀ H, ACall P f [.d (.sl z 1 (xs.map encStr)), .d (.str sep)] H (fun r H' => r = .d (.str (Lib.join xs sep)) ∧ H' = H)

theorem labs_len (ns ts : List Bs) : (labs ns ts).length = min ns.length ts.length := by simp [labs]
theorem labs_get {ns ts : List Bs} {i : Nat} (h : i < ns.length) (h' : i < ts.length) : (labs ns ts)[i]? = some (ns[i] ++ [58, 32] ++ ts[i]) := by
  simp [labs, List.getElem?_zipWith, h, h']

section
variable {P : Program} {t tS : TypeId}

theorem HasT.tyText {f fj : FuncId} (h : HasT P [3, 6] f (irTyText f fj t tS)) (hJ : JoinS P fj) (v : T) : v.Fit 1048576 → v.wt ≤ 1099511627776 → TextT P f v := by
  induction v using T.ind with
  | h k z ns y ps ih =>
  intro hv hw H
  have hwp : ∀ p ∈ ps, p.wt ≤ 1099511627776 := fun p hp => Nat.le_trans (T.wt_part hp) hw
  have hwl : ∀ n ∈ ns, n.length ≤ 1048576 := by cases hv with | mk _ _ _ _ _ b2 b3 b4 b5 => exact b4
  have htl := T.txt_len (.mk k z ns y ps)
  obtain ⟨Q, hQ⟩ : ∃ Q : A → Hp → Prop, Q = fun r H' => r = .d (.str (T.txt (.mk k z ns y ps))) ∧ H' = H := ⟨_, rfl⟩
  rw [← hQ]
  have hfin : Q (.d (.str (T.txt (.mk k z ns y ps)))) H := by subst hQ; exact ⟨rfl, rfl⟩
  clear hQ
  have hpl : ∀ p ∈ ps, p.txt.length ≤ 1099511627776 := fun p hp => Nat.le_trans (T.txt_len p) (hwp p hp)
  have h0 := h
  obtain ⟨fn, hf, hcf⟩ := h
  refine acall_fin hf hcf (by simp [irTyText]) fun hcl _ => ?_
  cases hv with | mk _ _ _ _ _ b2 b3 b4 b5 =>
  rw [T.txt_mk] at htl hfin
  rw [T.a_mk]
  by_cases k1 : k = 1
  · rw [if_pos k1] at hfin
    simp [irTyText, k1]
    simp [RetK, cut_app hcl]
    exact hfin
  by_cases k2 : k = 2
  · rw [if_neg k1, if_pos k2] at hfin
    simp [irTyText, k2]
    simp [RetK, cut_app hcl]
    exact hfin
  rw [if_neg k1, if_neg k2] at htl hfin
  by_cases k3 : k = 3
  · subst k3
    rw [if_pos rfl] at htl hfin
    have hlab : (labs ns (ps.map T.txt)).length ≤ 1048576 := by rw [labs_len]; omega
    have hjl : (Lib.join (labs ns (ps.map T.txt)) [44, 32]).length + 2 ≤ 1099511627776 := by
      simp only [List.length_append, List.length_cons, List.length_nil] at htl; omega
    simp [irTyText]
    refine RangeK_of (H.length + 2) ns.length (fun i fr H' => fr 1 = .ptr H.length 0 ∧ fr 19 = .d (.sl z 1 (ns.map encStr)) ∧ fr 3 = .osl true 1 (((labs ns (ps.map T.txt)).take i).map encStr) (H.length + 1) ∧
      H' = H ++ [.box t [.d (.int .i64 3), .d (.sl z 1 (ns.map encStr)), .d (.sl y 3 (ps.map T.enc))], .tok ((labs ns (ps.map T.txt)).take i).length 1 tS]) (by omega) (by decide) (by simp) (by simp) ?_ ?_ ?_
    · simp [cut_appk hcl, A.lo]
    · rintro i fr H' hi f21 f20 ⟨f1, f19, f3, rfl⟩
      have ra := rowAt_map encStr hi
      simp only [encStr] at ra
      by_cases hip : i < ps.length
      case neg =>
        have hin : ¬ (i : Int) < (ps.length : Int) := by omega
        have e : (labs ns (ps.map T.txt)).take (i + 1) = (labs ns (ps.map T.txt)).take i := by
          rw [List.take_of_length_le (by rw [labs_len]; simp; omega), List.take_of_length_le (by rw [labs_len]; simp; omega)]
        simp [f21, f19, ra, f1, hin, hip]
        refine NextK_of (H.length + 2) (Nat.le_refl _) (by simp [f21, f20]) ?_
        rw [e]
        simp [f1, f3, f19, cut_appk hcl, A.lo]
      have hin : (i : Int) < (ps.length : Int) := by omega
      have rb := rowAt_map T.enc hip
      have hg := labs_get (ns := ns) (ts := ps.map T.txt) hi (by simpa using hip)
      simp only [List.getElem_map] at hg
      have hil : i < (labs ns (ps.map T.txt)).length := by rw [labs_len]; simp; omega
      have tk : (labs ns (ps.map T.txt)).take (i + 1) = (labs ns (ps.map T.txt)).take i ++ [ns[i] ++ [58, 32] ++ ps[i].txt] := by
        rw [List.take_succ_eq_append_getElem hil]
        congr 2
        exact Option.some.inj ((List.getElem?_eq_getElem hil).symm.trans hg)
      have hx := ih ps[i] (List.getElem_mem hip) (b5 _ (List.getElem_mem hip)) (hwp _ (List.getElem_mem hip))
      have hl1 := hwl _ (List.getElem_mem hi)
      have hl2 := hpl _ (List.getElem_mem hip)
      have hc1 : (((labs ns (ps.map T.txt)).take i).length + 1) * 16 ≤ 140737488355328 := by
        rw [List.length_take]; omega
      generalize (labs ns (ps.map T.txt)).take i = L at *
      generalize ns[i] = x at *
      generalize ps[i] = p at *
      unfold TextT at hx
      generalize p.txt = px at *
      obtain ⟨k4, z4, n4, y4, p4⟩ := p
      simp only [T.a_mk] at hx
      rw [T.enc_mk] at rb
      have a1 : strOp .add x [58, 32] = some (.str (x ++ [58, 32])) := strOp_add' (by simp; omega)
      have a2 : strOp .add (x ++ [58, 32]) px = some (.str (x ++ [58, 32] ++ px)) := strOp_add' (by simp; omega)
      simp [f21, f19, ra, f1, hin, hip, rb, f3, a1, -strOp]
      refine CallK_of' (hx _) ?_
      simp [a1, a2, -strOp, f3]
      simp [appA, hc1]
      refine NextK_of (H.length + 2) (Nat.le_refl _) (by simp [f21, f20]) ?_
      rw [tk]
      simp [f1, f19, cut_appk hcl, A.lo, encStr]
    · rintro fr H' f21 f20 ⟨f1, f19, f3, rfl⟩
      have tk : (labs ns (ps.map T.txt)).take ns.length = labs ns (ps.map T.txt) := List.take_of_length_le (by rw [labs_len]; omega)
      rw [tk] at f3 ⊢
      have hx := hJ true (labs ns (ps.map T.txt)) [44, 32] (by omega) (by omega)
      generalize Lib.join (labs ns (ps.map T.txt)) [44, 32] = J at *
      generalize labs ns (ps.map T.txt) = L at *
      have a1 : strOp .add [123] J = some (.str ([123] ++ J)) := strOp_add' (by simp; omega)
      have a2 : strOp .add ([123] ++ J) [125] = some (.str ([123] ++ J ++ [125])) := strOp_add' (by simp; omega)
      simp [f3]
      refine CallK_of' (ACall.osl1 (hx _)) ?_
      simp only [List.cons_append, List.nil_append] at a1 a2
      simp [a1, a2, -strOp]
      simp [RetK, cut_app hcl]
      simpa using hfin
  rw [if_neg k3] at htl hfin
  by_cases k4 : k = 4
  case neg =>
    rw [if_neg (fun e => k4 e.1)] at hfin
    simp [irTyText, k1, k2, k3, k4]
    simp [RetK, cut_app hcl]
    exact hfin
  subst k4
  simp [irTyText]
  refine RangeK_of (H.length + 2) ps.length (fun i fr H' => fr 1 = .ptr H.length 0 ∧ fr 51 = .d (.sl y 3 (ps.map T.enc)) ∧ fr 6 = .osl true 1 (((ps.map T.txt).take i).map encStr) (H.length + 1) ∧
    H' = H ++ [.box t [.d (.int .i64 4), .d (.sl z 1 (ns.map encStr)), .d (.sl y 3 (ps.map T.enc))], .tok ((ps.map T.txt).take i).length 1 tS]) (by omega) (by decide) (by simp) (by simp) ?_ ?_ ?_
  · simp [cut_appk hcl, A.lo]
  · rintro i fr H' hi f53 f52 ⟨f1, f51, f6, rfl⟩
    have rb := rowAt_map T.enc hi
    have tk := take_map_succ T.txt hi
    have hx := ih ps[i] (List.getElem_mem hi) (b5 _ (List.getElem_mem hi)) (hwp _ (List.getElem_mem hi))
    have hc1 : (((ps.map T.txt).take i).length + 1) * 16 ≤ 140737488355328 := by
      rw [List.length_take]; simp; omega
    generalize (ps.map T.txt).take i = L at *
    generalize ps[i] = p at *
    unfold TextT at hx
    generalize p.txt = px at *
    obtain ⟨k4, z4, n4, y4, p4⟩ := p
    simp only [T.a_mk] at hx
    rw [T.enc_mk] at rb
    simp [f53, f51, rb, f6]
    refine CallK_of' (hx _) ?_
    simp [f6, appA, hc1]
    refine NextK_of (H.length + 2) (Nat.le_refl _) (by simp [f53, f52]) ?_
    rw [tk]
    simp [f1, f51, cut_appk hcl, A.lo, encStr]
  · rintro fr H' f53 f52 ⟨f1, f51, f6, rfl⟩
    rw [List.take_of_length_le (by simp)] at f6 ⊢
    by_cases hp : ps = []
    · subst hp
      rw [if_neg (fun e => e.2 rfl)] at hfin
      simp [f6]
      simp [RetK, cut_app hcl]
      exact hfin
    rw [if_pos (show (4 : Int) = 4 ∧ ps ≠ [] from ⟨rfl, hp⟩)] at htl hfin
    obtain ⟨l, p, rfl⟩ : ∃ l p, ps = l ++ [p] := ⟨ps.dropLast, ps.getLast hp, (List.dropLast_concat_getLast hp).symm⟩
    have e1 : ((l ++ [p]).map T.txt).dropLast = l.map T.txt := by simp
    have e2 : ((l ++ [p]).map T.txt).getLastD [] = p.txt := by simp
    rw [e1, e2] at htl hfin
    have hb3 : l.length + 1 ≤ 1048576 := by simpa using b3
    have hx := hJ false (l.map T.txt) [44, 32] (by simp; omega) (by simp only [List.length_append, List.length_cons, List.length_nil] at htl; omega)
    have hpx := hpl p (by simp)
    have hjl : (Lib.join (l.map T.txt) [44, 32]).length ≤ 1099511627776 := by simp only [List.length_append, List.length_cons, List.length_nil] at htl; omega
    have hw1 : IntKind.i64.wrap (l.length : Int) = (l.length : Int) := wrap_i64 (by omega) (by omega)
    have hn0 : ¬ (l.length : Int) + 1 = 0 := by omega
    simp only [List.map_append, List.map_cons, List.map_nil] at f6 ⊢
    have s1 : subL (l.map (encStr ∘ T.txt) ++ [encStr p.txt]) 0 (l.length : Int) = some (l.map (encStr ∘ T.txt)) := by
      rw [subL_ok (by simp; omega)]
      simp
    have s2 : (l.map (encStr ∘ T.txt) ++ [encStr p.txt]).isEmpty = false := by simp
    have s3 : Zam.rowAt (l.map (encStr ∘ T.txt) ++ [encStr p.txt]) (l.length : Int) = some (encStr p.txt) := by
      have h1 : l.length < (l ++ [p]).length := by simp
      have := rowAt_map (encStr ∘ T.txt) h1
      simpa using this
    have hmm : (l.map T.txt).map encStr = l.map (encStr ∘ T.txt) := List.map_map
    rw [hmm] at hx
    generalize Lib.join (l.map T.txt) [44, 32] = J at *
    generalize p.txt = px at *
    have a1 : strOp .add [102, 110, 40] J = some (.str ([102, 110, 40] ++ J)) := strOp_add' (by simp; omega)
    have a2 : strOp .add ([102, 110, 40] ++ J) [41, 58, 32] = some (.str ([102, 110, 40] ++ J ++ [41, 58, 32])) := strOp_add' (by simp; omega)
    have a3 : strOp .add ([102, 110, 40] ++ J ++ [41, 58, 32]) px = some (.str ([102, 110, 40] ++ J ++ [41, 58, 32] ++ px)) := strOp_add' (by simp; omega)
    simp only [encStr] at s1 s2 s3
    simp [f6, hw1, hn0, encStr, s1, s2, s3]
    refine CallD_of (hx _) ?_
    simp only [List.cons_append, List.nil_append, List.append_assoc] at a1 a2 a3
    simp [f6, a1, a2, a3, -strOp, encStr, s1, s2, s3]
    simp [RetK, cut_app hcl]
    simpa using hfin
end
end Go.Zam

namespace Go.Zam
set_option linter.all false
set_option maxRecDepth 100000
set_option maxHeartbeats 2000000
open Classical

def irTAwake9 (fp ft t : Nat) : IFn :=
 { nt := 14, res := [.t 0], body := (
  .seq (.ops [
    ⟨(some 0), none, .mv (.c (.bool false))⟩] false)
  (.seq (.ops [
    ⟨(some 4), none, .call fp [(.c (.str [123, 98, 58, 32, 105, 110, 116, 44, 32, 97, 58, 32, 100, 121, 110, 125]))]⟩,
    ⟨(some 3), none, .mv (.t 4)⟩,
    ⟨(some 5), none, .ext (.t 3) 0⟩,
    ⟨(some 6), none, .ext (.t 3) 1⟩,
    ⟨(some 1), none, .alloc t [(.int .i64 0), (.sl true 1 []), (.sl true 3 [])]⟩,
    ⟨none, none, .store 3 (.t 1) (.t 5)⟩,
    ⟨(some 2), none, .mv (.t 6)⟩] false)
  (.seq (.ops [
    ⟨(some 7), none, .mv (.t 2)⟩,
    ⟨(some 8), none, .bin .eql (.t 7) (.c (.int .i64 0))⟩,
    ⟨(some 9), none, .mv (.t 8)⟩,
    ⟨(some 10), (some (9, true)), .load 3 true (.t 1)⟩,
    ⟨(some 11), (some (9, true)), .call ft [(.t 10)]⟩,
    ⟨(some 12), (some (9, true)), .bin .eql (.t 11) (.c (.str [123, 97, 58, 32, 100, 121, 110, 44, 32, 98, 58, 32, 105, 110, 116, 125]))⟩,
    ⟨(some 13), none, .pick (.t 9) (.t 12) (.c (.bool false))⟩,
    ⟨(some 0), none, .mv (.t 13)⟩] false)
  (.ret)))) }

def sBA : Bs := [123, 98, 58, 32, 105, 110, 116, 44, 32, 97, 58, 32, 100, 121, 110, 125]
theorem ex_BA : typeO sBA = (N.new 32 0 9 [] 0 [nFld 1 4 [98] 29, nFld 5 8 [97] 31], 0) := by kernel_rfl
theorem recT_swap {x y : Str'} (p q : T) (h : Op.bytesLess x y = true) : recT [y, x] [q, p] = (.new 3 [x, y] [p, q], 0) := by
  have h1 : cP (x, p) (y, q) < 0 := cP_lt.2 h
  have hs : ssort cP [(y, q), (x, p)] = [(x, p), (y, q)] := ssort_cons (a := [(x, p)]) (b := []) (x := (y, q)) cP_cmp (by simp [Sorted]) (by simpa using h1) (by simp)
  have hd : ¬ Dup [(x, p), (y, q)] := by
    rintro ⟨j, a, b, h1, h2, e⟩
    match j with
    | 0 =>
      simp at h1 h2
      subst h1; subst h2
      simp only at e
      subst e
      rw [bl_irrefl] at h; cases h
    | j + 1 => simp at h2
  unfold recT
  rw [if_pos (show [y, x].length = [q, p].length from rfl), show [y, x].zip [q, p] = [(y, q), (x, p)] from rfl, hs, if_neg hd]
  rfl
theorem typ_swap {a b f t f' t' : Int} {w w' : Bs} {k k' : Int} {v v' : T} (h : (N.new k (f + 2) (f + 3) [] 0 []).ty = (v, 0)) (h' : (N.new k' (f' + 2) (f' + 3) [] 0 []).ty = (v', 0)) (hv : v.dep = 1) (hv' : v'.dep = 1) (hw : Op.bytesLess w' w = true) :
    (N.new 32 a b [] 0 [nFld f t w k, nFld f' t' w' k']).typ = (T.new 3 [w', w] [v', v], 0) := by
  have e : (N.new 32 a b [] 0 [nFld f t w k, nFld f' t' w' k']).ty = (T.new 3 [w', w] [v', v], 0) := by
    rw [N.new, N.ty_mk]
    have hb : badE ([nFld f t w k, nFld f' t' w' k'].map N.fty) = 0 := by simp [fld_ty, h, h', badE]
    rw [if_neg (by decide), if_neg (by decide), if_neg (by decide), if_pos rfl, if_neg (by rw [hb]; exact fun h => h rfl)]
    simp only [List.map_cons, List.map_nil, fld_ty, h, h']
    exact recT_swap v' v hw
  unfold N.typ
  rw [e, if_neg (by simp), if_neg (by rw [T.new, T.dep_mk]; simp [T.deps, hv, hv'])]
theorem typ_BA : typO sBA = (T.new 3 [[97], [98]] [T.nil, tI], 0) := by
  unfold typO
  rw [ex_BA]
  exact typ_swap (leaf_ty _ _).1 (leaf_ty _ _).2.2 rfl rfl (by decide)
theorem txt_BA : (T.new 3 [[97], [98]] [T.nil, tI]).txt = [123, 97, 58, 32, 100, 121, 110, 44, 32, 98, 58, 32, 105, 110, 116, 125] := by kernel_rfl

section
variable {P : Program} {t : Nat} {H0 : Hp}

/-- whetstonelaw09.awake -/
theorem Has.tAwake9 {f fp ft : FuncId} (h : Has P f (irTAwake9 fp ft t))
    (hp : ∀ s, s.length ≤ 1048576 → ∀ H, Pre0 H0 H → ACall P fp [.d (.str s)] H (fun r H' => r = .tup [(typO s).1.a, .d (.int .i64 (typO s).2)] ∧ H' = H))
    (hT : ∀ v : T, v.Fit 1048576 → v.wt ≤ 1099511627776 → TextT P ft v) : AwakeT P H0 f := by
  intro H hH
  obtain ⟨fn, hf, hcf⟩ := h
  refine acall_fin hf hcf (by simp [irTAwake9]) fun hcl _ => ?_
  have p1 := fun H hH => hp sBA (by decide) H hH
  have p2 := hT (T.new 3 [[97], [98]] [T.nil, tI]) (two_fit (by decide) (by decide) (nil_fit) tI_fit) (by decide)
  unfold TextT at p2
  rw [typ_BA] at p1
  rw [txt_BA] at p2
  simp only [sBA] at p1
  simp only [T.new, T.nil, tI, T.a_mk, T.enc_mk, List.map_cons, List.map_nil] at p1 p2
  simp [irTAwake9]
  refine CallK_of' (p1 _ hH) ?_
  simp
  refine CallK_of' (p2 _) ?_
  simp
  simp [RetK, cut_appk hcl, cut_app hcl]
end
end Go.Zam

set_option linter.all false
namespace Go.Proofs
open Go.Shelf Go.RowKit
variable {P : Program} {ρ : Ren}

set_option maxHeartbeats 32000000 in
set_option maxRecDepth 100000 in
theorem AnyPu.internal_strconv_ParseUint_10_b63 (L : LaysPu.n16 P ρ) (t : ByteArray) (hne : t.size ≠ 0) (hmax : t.size ≤ 9223372036854775806) (w : World) :
    Calls P (ρ.f 16) #[.string t, .int .i64 10, .int .i64 63] w fun e w' => e = .returned (Lib.uintTupleM (ρ.t 34) 9223372036854775807 (Lib.parseUintM 9223372036854775807 0 t.data.toList)) ∧ w' = Lib.bytesWorld w (ρ.t 5) t := by
  have mixed := L.mixed
  have t9 := L.t9; have a9 := L.a9; have z9 := L.z9; have v9 := L.v9
  have t3 := L.t3; have a3 := L.a3; have z3 := L.z3; have v3 := L.v3
  have t22 := L.t22; have a22 := L.a22; have z22 := L.z22; have v22 := L.v22
  have t24 := L.t24; have a24 := L.a24; have z24 := L.z24; have v24 := L.v24
  have t4 := L.t4; have a4 := L.a4; have z4 := L.z4; have v4 := L.v4
  have t34 := L.t34; have a34 := L.a34; have z34 := L.z34; have v34 := L.v34
  have t5 := L.t5; have a5 := L.a5; have z5 := L.z5; have v5 := L.v5
  have t36 := L.t36; have a36 := L.a36; have z36 := L.z36; have v36 := L.v36
  have t37 := L.t37; have a37 := L.a37; have z37 := L.z37; have v37 := L.v37
  have t0 := L.t0; have a0 := L.a0; have z0 := L.z0; have v0 := L.v0
  have e19 : ∀ args w, (callFunc (ρ.f 19) args).run P w = .ok (.enter (ρ.f 19) args) w := enters_of L.f19 (by kernel_rfl) rfl
  have hemp : t.toList.isEmpty = false := by
    rw [← decide_eq_emptyBytes]
    exact decide_eq_false (fun h => hne (by rw [h]; rfl))
  have hcv := Lib.run_convert_string_bytes (P := P) w (ρ.t 9) (ρ.t 37) (ρ.t 5) t (u := .string) L.t9 L.t37 L.t5
  have hB : ∀ j, j < t.size → (Lib.bytesWorld w (ρ.t 5) t).cell? ⟨w.heap.size, j, none⟩ = some (.int .u8 (t.data.toList.getD j 0).toNat) := fun j hj => Lib.bytesWorld_cell w (ρ.t 5) t j hj
  obtain ⟨W1, hW1⟩ : ∃ W1, W1 = Lib.bytesWorld w (ρ.t 5) t := ⟨_, rfl⟩
  rw [← hW1] at hcv hB ⊢
  clear hW1
  obtain ⟨bs, hL⟩ : ∃ bs, bs = t.data.toList := ⟨_, rfl⟩
  have hLn : bs.length = t.size := by rw [hL, Lib.size_eq]
  rw [← hL] at hB ⊢
  clear hL
  -- 'maxVal := uint64(1)<<uint(bitSize) - 1': its value, for the walk to take
  have hmv : IntKind.u64.wrap (IntKind.u64.wrap 9223372036854775808 - 1) = 9223372036854775807 := by
    rw [IntKind.wrap_u64, IntKind.wrap_u64]
    decide
  go_enter L.f16, BodyPu.n16_ntmps ρ
  go_wp2
  go_loop [12, 13, 101] (fun vu vn vi => ∃ (k acc : Nat) (a : Int), vu = .bool false ∧ vn = .int .u64 a ∧ vi = .int .i64 k ∧ k ≤ t.size ∧ Hid (a = (acc : Int) ∧ acc ≤ 9223372036854775807 ∧ Lib.parseUintM 9223372036854775807 0 bs = Lib.parseUintM 9223372036854775807 acc (bs.drop k)))
    (fun _ _ vi => t.size - (intOf vi).toNat)
  case atStart => exact ⟨0, 0, 0, rfl, rfl, rfl, by omega, rfl, by omega, rfl⟩
  case round =>
    obtain ⟨k, acc, a, rfl, rfl, rfl, hk, hh⟩ := hrel
    obtain ⟨ha, hacc, hdec⟩ := hh.out
    clear hh
    have a0 : 0 ≤ a := by omega
    have a1 : a ≤ 9223372036854775807 := by omega
    by_cases hkn : k < t.size
    · have hc := hB k hkn
      have hdrop : bs.drop k = bs[k]'(by omega) :: bs.drop (k + 1) := List.drop_eq_getElem_cons (by omega)
      have hget : bs.getD k 0 = bs[k]'(by omega) := by simp [List.getD, List.getElem?_eq_getElem (show k < bs.length by omega)]
      rw [hdrop] at hdec
      rw [hget] at hc
      generalize bs[k]'(by omega) = c at hc hdec
      have hc256 : c.toNat < 256 := c.toNat_lt
      clear hB hdrop hget
      by_cases hdig : 48 ≤ c.toNat ∧ c.toNat ≤ 57
      · obtain ⟨hd0, hd1⟩ := hdig
        by_cases hcut : 1844674407370955162 ≤ acc
        · have hF : Lib.parseUintM 9223372036854775807 acc (c :: bs.drop (k + 1)) = .range := by simp [Lib.parseUintM, hd0, hd1, hcut]
          rw [hF] at hdec
          have icut : 1844674407370955162 ≤ a := by omega
          clear hcut hacc hF ha
          go_wp2
          go_ret2
          exact ⟨rfl, rfl⟩
        by_cases hov2 : 18446744073709551616 ≤ acc * 10 + (c.toNat - 48)
        · have hov : 9223372036854775807 < acc * 10 + (c.toNat - 48) := by omega
          have hF : Lib.parseUintM 9223372036854775807 acc (c :: bs.drop (k + 1)) = .range := by simp [Lib.parseUintM, hd0, hd1, hcut, hov]
          rw [hF] at hdec
          have icut : a < 1844674407370955162 := by omega
          have iov : 18446744073709551616 ≤ a * 10 + ((c.toNat : Int) - 48) := by omega
          have hwr : IntKind.u64.wrap (a * 10 + ((c.toNat : Int) - 48)) = a * 10 + ((c.toNat : Int) - 48) - 18446744073709551616 := by
            rw [IntKind.wrap_u64]
            omega
          clear hcut hacc hF hov hov2 ha
          go_wp2
          go_ret2
          exact ⟨rfl, rfl⟩
        by_cases hov : 9223372036854775807 < acc * 10 + (c.toNat - 48)
        · -- OVER THE SIZE
          have hF : Lib.parseUintM 9223372036854775807 acc (c :: bs.drop (k + 1)) = .range := by simp [Lib.parseUintM, hd0, hd1, hcut, hov]
          rw [hF] at hdec
          have iov : 9223372036854775807 < a * 10 + ((c.toNat : Int) - 48) := by omega
          have iov2 : a * 10 + ((c.toNat : Int) - 48) < 18446744073709551616 := by omega
          have icut : a < 1844674407370955162 := by omega
          clear hcut hacc hF hov hov2 ha
          go_wp2
          go_ret2
          exact ⟨rfl, rfl⟩
        · have hF : Lib.parseUintM 9223372036854775807 acc (c :: bs.drop (k + 1)) = Lib.parseUintM 9223372036854775807 (acc * 10 + (c.toNat - 48)) (bs.drop (k + 1)) := by simp [Lib.parseUintM, hd0, hd1, hcut, hov]
          have HN : Hid (a * 10 + ((c.toNat : Int) - 48) = ((acc * 10 + (c.toNat - 48) : Nat) : Int) ∧ acc * 10 + (c.toNat - 48) ≤ 9223372036854775807 ∧ Lib.parseUintM 9223372036854775807 0 bs = Lib.parseUintM 9223372036854775807 (acc * 10 + (c.toNat - 48)) (bs.drop (k + 1))) := Lib.hid ⟨by omega, by omega, hdec.trans hF⟩
          have iov : a * 10 + ((c.toNat : Int) - 48) ≤ 9223372036854775807 := by omega
          have icut : a < 1844674407370955162 := by omega
          clear hcut hacc hF hov hov2 hdec ha
          go_wp2
          refine ⟨⟨k + 1, acc * 10 + (c.toNat - 48), a * 10 + ((c.toNat : Int) - 48), rfl, (by first | rfl | (congr 1; omega)), (by first | rfl | (congr 1; omega)), by omega, HN⟩, by simp [intOf]; omega⟩
      · -- NO DIGIT: whatever way the text goes: (0, ErrSyntax)
        have hF : Lib.parseUintM 9223372036854775807 acc (c :: bs.drop (k + 1)) = Lib.NumEnd.syntax := by simp [Lib.parseUintM, hdig]
        rw [hF] at hdec
        clear hacc hF ha
        have hv0 := bits_lo_u8 .or (c.toNat : Int) 32
        have hv1 := bits_hi_u8 .or (c.toNat : Int) 32
        have hu0 := bits_lo_u8 .or 95 32       -- at '_' the walk writes the byte out
        have hu1 := bits_hi_u8 .or 95 32
        go_wp2_with (go_at_fn (ρ.f 19); refine (AnyPu.internal_strconv_lower { L with } _ _).mono ?_; rintro e w' ⟨rfl, rfl⟩)
        all_goals go_ret2
        all_goals first | exact ⟨rfl, rfl⟩ | exact ⟨by rw [hdec]; rfl, rfl⟩
    · -- THE BYTES ARE AT AN END
      have hkk : k = t.size := by omega
      subst hkk
      have hF : Lib.parseUintM 9223372036854775807 acc (bs.drop t.size) = .ok acc := by rw [List.drop_eq_nil_of_le (by omega)]; rfl
      rw [hF] at hdec
      subst ha
      clear hacc hF a0 a1
      go_wp2
      go_ret2
      exact ⟨rfl, rfl⟩



theorem AnyPu.internal_strconv_ParseUint_10_at63 (L : LaysPu.n16 P ρ) (t : ByteArray) (hmax : t.size ≤ 9223372036854775806) (w : World) :
    Calls P (ρ.f 16) #[.string t, .int .i64 10, .int .i64 63] w fun e w' => e = .returned (Lib.uintTupleM (ρ.t 34) 9223372036854775807 (Lib.parseUintB 63 t.data.toList)) ∧ (w' = w ∨ w' = Lib.bytesWorld w (ρ.t 5) t) := by
  have eM : (2 : Nat) ^ 63 - 1 = 9223372036854775807 := by decide
  by_cases h0 : t.size = 0
  · have ht : t = ⟨#[]⟩ := by
      apply ByteArray.ext
      exact Array.eq_empty_of_size_eq_zero h0
    subst ht
    exact (AnyPu.internal_strconv_ParseUint_empty { L with } 10 63 w).mono fun e w' ⟨he, hw⟩ => ⟨he, Or.inl hw⟩
  · have hne : t.data.toList ≠ [] := fun h => h0 (by rw [Lib.size_eq, h]; rfl)
    refine (AnyPu.internal_strconv_ParseUint_10_b63 { L with } t h0 hmax w).mono fun e w' ⟨he, hw⟩ => ⟨?_, Or.inr hw⟩
    rw [he, Lib.parseUintB, if_neg hne, eM]


set_option maxHeartbeats 4000000 in
set_option maxRecDepth 100000 in
theorem Any.strconv_ParseUint_10_at63_ok (L : LaysPu.n14 P ρ) (s : ByteArray) (hmax : s.size ≤ 9223372036854775806) (u : Nat) (h : Lib.parseUintB 63 s.data.toList = .ok u) (w : World) :
    Calls P (ρ.f 14) #[.string s, .int .i64 10, .int .i64 63] w fun e w' => e = .returned (.tuple #[.int .u64 u, .nilIface]) ∧ (w' = w ∨ w' = Lib.bytesWorld w (ρ.t 5) s) := by
  have mixed := L.mixed
  have t9 := L.t9; have a9 := L.a9; have z9 := L.z9; have v9 := L.v9
  have t3 := L.t3; have a3 := L.a3; have z3 := L.z3; have v3 := L.v3
  have t22 := L.t22; have a22 := L.a22; have z22 := L.z22; have v22 := L.v22
  have t24 := L.t24; have a24 := L.a24; have z24 := L.z24; have v24 := L.v24
  have t25 := L.t25; have a25 := L.a25; have z25 := L.z25; have v25 := L.v25
  have t4 := L.t4; have a4 := L.a4; have z4 := L.z4; have v4 := L.v4
  have e16 : ∀ args w, (callFunc (ρ.f 16) args).run P w = .ok (.enter (ρ.f 16) args) w := enters_of L.f16 (by kernel_rfl) rfl
  have hI := AnyPu.internal_strconv_ParseUint_10_at63 { L with } s hmax w
  rw [h] at hI
  have hI : Calls P (ρ.f 16) #[.string s, .int .i64 10, .int .i64 63] w fun e w' => e = .returned (.tuple #[.int .u64 u, .nilIface]) ∧ (w' = w ∨ w' = Lib.bytesWorld w (ρ.t 5) s) := hI
  clear h
  go_enter L.f14, BodyPu.n14_ntmps ρ
  go_wp2_with (go_at_fn (ρ.f 16); refine hI.mono ?_; rintro e W1 ⟨rfl, hW⟩)
  go_wp2
  go_ret2
  exact ⟨rfl, hW⟩

set_option maxHeartbeats 4000000 in
set_option maxRecDepth 100000 in
theorem Any.strconv_ParseUint_10_at63_syntax (L : LaysPu.n14 P ρ) (s : ByteArray) (hlim : s.size ≤ 281474976710656) (h : Lib.parseUintB 63 s.data.toList = Lib.NumEnd.syntax) (ev : Value) (w : World) (hv : w.cell? ⟨(ρ.g 0), 0, none⟩ = some ev) (hev : ev = .nilIface ∨ ∃ te pe, ev = .iface te pe) :
    Calls P (ρ.f 14) #[.string s, .int .i64 10, .int .i64 63] w fun e w' => ∃ N, e = .returned (.tuple #[.int .u64 0, .iface (ρ.t 39) (.pointer (some ⟨N, 0, none⟩))]) ∧ w.heap.size ≤ N ∧ w'.heap[N]? = some (.cells #[.string ⟨#[80, 97, 114, 115, 101, 85, 105, 110, 116]⟩, .string s, ev] (ρ.t 44) (0, 0)) ∧ Below w.heap.size w w' := by
  have mixed := L.mixed
  have t9 := L.t9; have a9 := L.a9; have z9 := L.z9; have v9 := L.v9
  have t3 := L.t3; have a3 := L.a3; have z3 := L.z3; have v3 := L.v3
  have t22 := L.t22; have a22 := L.a22; have z22 := L.z22; have v22 := L.v22
  have t24 := L.t24; have a24 := L.a24; have z24 := L.z24; have v24 := L.v24
  have t25 := L.t25; have a25 := L.a25; have z25 := L.z25; have v25 := L.v25
  have t4 := L.t4; have a4 := L.a4; have z4 := L.z4; have v4 := L.v4
  have e16 : ∀ args w, (callFunc (ρ.f 16) args).run P w = .ok (.enter (ρ.f 16) args) w := enters_of L.f16 (by kernel_rfl) rfl
  have e17 : ∀ args w, (callFunc (ρ.f 17) args).run P w = .ok (.enter (ρ.f 17) args) w := enters_of L.f17 (by kernel_rfl) rfl
  have hG : (ρ.g 0) < w.heap.size := Lib.lt_of_cell hv
  have hI := AnyPu.internal_strconv_ParseUint_10_at63 { L with } s (by omega) w
  rw [h] at hI
  have hI : Calls P (ρ.f 16) #[.string s, .int .i64 10, .int .i64 63] w fun e w' => e = .returned (.tuple #[.int .u64 0, .iface (ρ.t 34) (.int .i64 2)]) ∧ (w' = w ∨ w' = Lib.bytesWorld w (ρ.t 5) s) := hI
  clear h
  go_enter L.f14, BodyPu.n14_ntmps ρ
  go_wp2_with (go_at_fn (ρ.f 16); refine hI.mono ?_)
  rintro e W1 ⟨rfl, hW⟩
  have hb1 : Below w.heap.size w W1 := by
    rcases hW with rfl | rfl
    · exact Below.refl _ _
    · exact Lib.bytesWorld_below _ _ _
  have hv1 : W1.cell? ⟨(ρ.g 0), 0, none⟩ = some ev := (hb1.cell (show (⟨(ρ.g 0), 0, none⟩ : Addr).block < w.heap.size from hG)).trans hv
  clear hW
  go_wp2_with (go_at_fn (ρ.f 17); refine (AnyPu.strconv_toError_syntax { L with } ⟨#[80, 97, 114, 115, 101, 85, 105, 110, 116]⟩ s 10 63 ev _ hlim ?_ hev).mono ?_)
  · exact hv1
  rintro e W2 ⟨N, rfl, h1, h2, h3⟩
  go_wp2
  go_ret2
  exact ⟨N, rfl, Nat.le_trans hb1.size h1, h2, hb1.trans (h3.mono hb1.size)⟩

set_option maxHeartbeats 4000000 in
set_option maxRecDepth 100000 in
theorem Any.strconv_ParseUint_10_at63_range (L : LaysPu.n14 P ρ) (s : ByteArray) (hlim : s.size ≤ 281474976710656) (h : Lib.parseUintB 63 s.data.toList = .range) (ev : Value) (w : World) (hv : w.cell? ⟨(ρ.g 1), 0, none⟩ = some ev) (hev : ev = .nilIface ∨ ∃ te pe, ev = .iface te pe) :
    Calls P (ρ.f 14) #[.string s, .int .i64 10, .int .i64 63] w fun e w' => ∃ N, e = .returned (.tuple #[.int .u64 9223372036854775807, .iface (ρ.t 39) (.pointer (some ⟨N, 0, none⟩))]) ∧ w.heap.size ≤ N ∧ w'.heap[N]? = some (.cells #[.string ⟨#[80, 97, 114, 115, 101, 85, 105, 110, 116]⟩, .string s, ev] (ρ.t 44) (0, 0)) ∧ Below w.heap.size w w' := by
  have mixed := L.mixed
  have t9 := L.t9; have a9 := L.a9; have z9 := L.z9; have v9 := L.v9
  have t3 := L.t3; have a3 := L.a3; have z3 := L.z3; have v3 := L.v3
  have t22 := L.t22; have a22 := L.a22; have z22 := L.z22; have v22 := L.v22
  have t24 := L.t24; have a24 := L.a24; have z24 := L.z24; have v24 := L.v24
  have t25 := L.t25; have a25 := L.a25; have z25 := L.z25; have v25 := L.v25
  have t4 := L.t4; have a4 := L.a4; have z4 := L.z4; have v4 := L.v4
  have e16 : ∀ args w, (callFunc (ρ.f 16) args).run P w = .ok (.enter (ρ.f 16) args) w := enters_of L.f16 (by kernel_rfl) rfl
  have e17 : ∀ args w, (callFunc (ρ.f 17) args).run P w = .ok (.enter (ρ.f 17) args) w := enters_of L.f17 (by kernel_rfl) rfl
  have hG : (ρ.g 1) < w.heap.size := Lib.lt_of_cell hv
  have hI := AnyPu.internal_strconv_ParseUint_10_at63 { L with } s (by omega) w
  rw [h] at hI
  have hI : Calls P (ρ.f 16) #[.string s, .int .i64 10, .int .i64 63] w fun e w' => e = .returned (.tuple #[.int .u64 9223372036854775807, .iface (ρ.t 34) (.int .i64 1)]) ∧ (w' = w ∨ w' = Lib.bytesWorld w (ρ.t 5) s) := hI
  clear h
  go_enter L.f14, BodyPu.n14_ntmps ρ
  go_wp2_with (go_at_fn (ρ.f 16); refine hI.mono ?_)
  rintro e W1 ⟨rfl, hW⟩
  have hb1 : Below w.heap.size w W1 := by
    rcases hW with rfl | rfl
    · exact Below.refl _ _
    · exact Lib.bytesWorld_below _ _ _
  have hv1 : W1.cell? ⟨(ρ.g 1), 0, none⟩ = some ev := (hb1.cell (show (⟨(ρ.g 1), 0, none⟩ : Addr).block < w.heap.size from hG)).trans hv
  clear hW
  go_wp2_with (go_at_fn (ρ.f 17); refine (AnyPu.strconv_toError_range { L with } ⟨#[80, 97, 114, 115, 101, 85, 105, 110, 116]⟩ s 10 63 ev _ hlim ?_ hev).mono ?_)
  · exact hv1
  rintro e W2 ⟨N, rfl, h1, h2, h3⟩
  go_wp2
  go_ret2
  exact ⟨N, rfl, Nat.le_trans hb1.size h1, h2, hb1.trans (h3.mono hb1.size)⟩


end Go.Proofs

namespace Go.Proofs.Zy
open Go Go.Zam Go.Proofs
set_option maxRecDepth 100000
theorem tcf72 : compF Tryz.prog [7] Tryz.f72 = some (irTkLex 87 88 89 109 95) := by kernel_rfl
theorem h72 : HasT Tryz.prog [7] 72 (irTkLex 87 88 89 109 95) := ⟨_, Tryz.func72, tcf72⟩
theorem tcf67 : compF Tryz.prog [] Tryz.f67 = some (irTkIsKey 84 83) := by kernel_rfl
theorem h67 : Has Tryz.prog 67 (irTkIsKey 84 83) := ⟨_, Tryz.func67, tcf67⟩
theorem tcf87 : compF Tryz.prog [] Tryz.f87 = some (irRnBad 111) := by kernel_rfl
theorem h87 : Has Tryz.prog 87 (irRnBad 111) := ⟨_, Tryz.func87, tcf87⟩
theorem tcf88 : compF Tryz.prog [] Tryz.f88 = some (irScLead 112 113 114 115) := by kernel_rfl
theorem h88 : Has Tryz.prog 88 (irScLead 112 113 114 115) := ⟨_, Tryz.func88, tcf88⟩
theorem tcf89 : compF Tryz.prog [] Tryz.f89 = some (irScNext 112 66 116 67 68 117 118 119 95) := by kernel_rfl
theorem h89 : Has Tryz.prog 89 (irScNext 112 66 116 67 68 117 118 119 95) := ⟨_, Tryz.func89, tcf89⟩
theorem tcf83 : compF Tryz.prog [] Tryz.f83 = some (irSlHas 44) := by kernel_rfl
theorem h83 : Has Tryz.prog 83 (irSlHas 44) := ⟨_, Tryz.func83, tcf83⟩
theorem tcf44 : compF Tryz.prog [] Tryz.f44 = some (irSlIdx) := by kernel_rfl
theorem h44 : Has Tryz.prog 44 (irSlIdx) := ⟨_, Tryz.func44, tcf44⟩
theorem tcf84 : compF Tryz.prog [] Tryz.f84 = some (irTkKeys) := by kernel_rfl
theorem h84 : Has Tryz.prog 84 (irTkKeys) := ⟨_, Tryz.func84, tcf84⟩
theorem tcf66 : compF Tryz.prog [] Tryz.f66 = some (irLetter) := by kernel_rfl
theorem h66 : Has Tryz.prog 66 (irLetter) := ⟨_, Tryz.func66, tcf66⟩
theorem tcf68 : compF Tryz.prog [] Tryz.f68 = some (irDigit) := by kernel_rfl
theorem h68 : Has Tryz.prog 68 (irDigit) := ⟨_, Tryz.func68, tcf68⟩
theorem tcf112 : compF Tryz.prog [] Tryz.f112 = some (irScMore) := by kernel_rfl
theorem h112 : Has Tryz.prog 112 (irScMore) := ⟨_, Tryz.func112, tcf112⟩
theorem tcf113 : compF Tryz.prog [] Tryz.f113 = some (irTkBlank) := by kernel_rfl
theorem h113 : Has Tryz.prog 113 (irTkBlank) := ⟨_, Tryz.func113, tcf113⟩
theorem tcf114 : compF Tryz.prog [] Tryz.f114 = some (irScHash) := by kernel_rfl
theorem h114 : Has Tryz.prog 114 (irScHash) := ⟨_, Tryz.func114, tcf114⟩
theorem tcf115 : compF Tryz.prog [] Tryz.f115 = some (irScNoNl) := by kernel_rfl
theorem h115 : Has Tryz.prog 115 (irScNoNl) := ⟨_, Tryz.func115, tcf115⟩
theorem tcf116 : compF Tryz.prog [] Tryz.f116 = some (irScWord 112 127) := by kernel_rfl
theorem h116 : Has Tryz.prog 116 (irScWord 112 127) := ⟨_, Tryz.func116, tcf116⟩
theorem tcf127 : compF Tryz.prog [] Tryz.f127 = some (irScWordB 66 68) := by kernel_rfl
theorem h127 : Has Tryz.prog 127 (irScWordB 66 68) := ⟨_, Tryz.func127, tcf127⟩
theorem tcf118 : compF Tryz.prog [] Tryz.f118 = some (irScStr 129) := by kernel_rfl
theorem h118 : Has Tryz.prog 118 (irScStr 129) := ⟨_, Tryz.func118, tcf118⟩
theorem tcf119 : compF Tryz.prog [] Tryz.f119 = some (irScSign 130 131) := by kernel_rfl
theorem h119 : Has Tryz.prog 119 (irScSign 130 131) := ⟨_, Tryz.func119, tcf119⟩
theorem tcf129 : compF Tryz.prog [4] Tryz.f129 = some (irRnUnquote 135 136 71 80 5) := by kernel_rfl
theorem h129 : HasT Tryz.prog [4] 129 (irRnUnquote 135 136 71 80 5) := ⟨_, Tryz.func129, tcf129⟩
theorem tcf130 : compF Tryz.prog [] Tryz.f130 = some (irTkSigns) := by kernel_rfl
theorem h130 : Has Tryz.prog 130 (irTkSigns) := ⟨_, Tryz.func130, tcf130⟩
theorem tcf48 : compF Tryz.prog [] Tryz.f48 = some (irIsName 61 62 63) := by kernel_rfl
theorem h48 : Has Tryz.prog 48 (irIsName 61 62 63) := ⟨_, Tryz.func48, tcf48⟩
theorem tcf63 : compF Tryz.prog [] Tryz.f63 = some (irLetter) := by kernel_rfl
theorem h63 : Has Tryz.prog 63 (irLetter) := ⟨_, Tryz.func63, tcf63⟩
end Go.Proofs.Zy

namespace Go.Proofs.Zy
open Go Go.Zam Go.Proofs Go.Shelf
set_option maxRecDepth 100000
def bldRen : Ren := ⟨fun n => match n with | 240 => 85 | 276 => 109 | 169 => 71 | n => n, fun t => match t with | 0 => 0 | 3 => 3 | 4 => 4 | 5 => 5 | 9 => 9 | 20 => 20 | 37 => 78 | 70 => 77 | 72 => 80 | 127 => 105 | 164 => 130 | n => n, fun g => g⟩

theorem lay240 : Lays.n240 Tryz.prog bldRen where
  mixed := by kernel_rfl
  f240 := Tryz.func85.trans (congrArg some (by kernel_rfl))
  f276 := Tryz.func109.trans (congrArg some (by kernel_rfl))
  t0 := by kernel_rfl
  a0 := Tryz.isAgg0
  z0 := fun _ => by kernel_rfl
  v0 := Tryz.zeroValue0
  t4 := by kernel_rfl
  a4 := Tryz.isAgg4
  z4 := fun _ => by kernel_rfl
  v4 := Tryz.zeroValue4
  t9 := by kernel_rfl
  a9 := Tryz.isAgg9
  z9 := fun _ => by kernel_rfl
  v9 := Tryz.zeroValue9
  t20 := by kernel_rfl
  a20 := Tryz.isAgg20
  z20 := fun _ => by kernel_rfl
  v20 := Tryz.zeroValue20
  t70 := by kernel_rfl
  a70 := Tryz.isAgg77
  z70 := fun _ => by kernel_rfl
  v70 := Tryz.zeroValue77
  t72 := by kernel_rfl
  a72 := Tryz.isAgg80
  z72 := fun _ => by kernel_rfl
  v72 := Tryz.zeroValue80
  t164 := by kernel_rfl
  a164 := Tryz.isAgg130
  z164 := fun _ => by kernel_rfl
  v164 := Tryz.zeroValue130
theorem lay169 : Lays.n169 Tryz.prog bldRen where
  mixed := by kernel_rfl
  f169 := Tryz.func71.trans (congrArg some (by kernel_rfl))
  t0 := by kernel_rfl
  a0 := Tryz.isAgg0
  z0 := fun _ => by kernel_rfl
  v0 := Tryz.zeroValue0
  t3 := by kernel_rfl
  a3 := Tryz.isAgg3
  z3 := fun _ => by kernel_rfl
  v3 := Tryz.zeroValue3
  t9 := by kernel_rfl
  a9 := Tryz.isAgg9
  z9 := fun _ => by kernel_rfl
  v9 := Tryz.zeroValue9
  t37 := by kernel_rfl
  a37 := Tryz.isAgg78
  z37 := fun _ => by kernel_rfl
  v37 := Tryz.zeroValue78
  t70 := by kernel_rfl
  a70 := Tryz.isAgg77
  z70 := fun _ => by kernel_rfl
  v70 := Tryz.zeroValue77
  t72 := by kernel_rfl
  a72 := Tryz.isAgg80
  z72 := fun _ => by kernel_rfl
  v72 := Tryz.zeroValue80
  t127 := by kernel_rfl
  a127 := Tryz.isAgg105
  z127 := fun _ => by kernel_rfl
  v127 := Tryz.zeroValue105
theorem bldExtra : Builder.Extra Tryz.prog bldRen where
  sizeBuilder := by kernel_rfl
  liesBuilder := by kernel_rfl
  t5 := by kernel_rfl
  a5 := Tryz.isAgg5
  z5 := fun _ => by kernel_rfl
  v5 := Tryz.zeroValue5
  infoByte := by kernel_rfl
  cellsByte := by kernel_rfl
  sizeByte := by kernel_rfl
  neB5 := by decide

theorem copyCheckOk {H : Hp} {i : Nat} {x a : A} (hi : H[i]? = some (.box 80 [a, x])) (ha : a = .d .nilp ∨ a = .ptr i 0) :
    ACall Tryz.prog 85 [.ptr i 0] H (fun r H' => r = .tup [] ∧ H' = H.set i (.box 80 [.ptr i 0, x])) := copyCheck_acall lay240 bldExtra.toX72 hi ha

theorem stringOk {H : Hp} {i t : Nat} {a : A} {s : List UInt8} (hi : H[i]? = some (.box 80 [a, .osl true 1 (byteRows s) t])) (ht : H[t]? = some (.tok s.length 1 5)) (hlen : s.length ≤ 4611686018427387904) :
    ACall Tryz.prog 71 [.ptr i 0] H (fun r H' => r = .d (.str s) ∧ H' = H) := string_acall lay169 bldExtra hi ht hlen
end Go.Proofs.Zy

namespace Go.Proofs.Zy
open Go Go.Zam Go.Proofs
open Go.RowKit (Below)
set_option maxRecDepth 100000
set_option linter.all false
set_option maxHeartbeats 1000000

theorem indexOk : IndexOk Tryz.prog 135 := fun s c H => by
  refine leaf (args := [.str s, .int .u8 c.toNat]) (x := .int .i64 (Lib.indexByte s c)) (fun w σ vs _ hl hv => ?_) H
  match vs, hl with
  | [v0, v1], _ =>
  have e0 := (hv 0 v0 _ rfl rfl).str_inv
  have e1 := (hv 1 v1 _ rfl rfl).int_inv
  subst e0; subst e1
  refine (Tryz.strings_IndexByte ⟨s.toArray⟩ c.toNat w).mono ?_
  rintro e w' ⟨rfl, rfl⟩
  refine ⟨_, rfl, Below.refl _ _, fun σ => ?_⟩
  have : (Int.toNat (c.toNat : Int)).toUInt8 = c := by simp
  rw [this]
  exact .int _ _

theorem prefixOk : PrefixOk Tryz.prog 131 := fun s p H => by
  refine leaf (args := [.str s, .str p]) (x := .bool (p.isPrefixOf s)) (fun w σ vs _ hl hv => ?_) H
  match vs, hl with
  | [v0, v1], _ =>
  have e0 := (hv 0 v0 _ rfl rfl).str_inv
  have e1 := (hv 1 v1 _ rfl rfl).str_inv
  subst e0; subst e1
  refine (Tryz.strings_HasPrefix ⟨s.toArray⟩ ⟨p.toArray⟩ w).mono ?_
  rintro e w' ⟨rfl, rfl⟩
  exact ⟨_, rfl, Below.refl _ _, fun σ => .bool _⟩

theorem decodeOk {H0 : Hp} (hG : TabsG 1 2 3 4 H0) : DecodeOk Tryz.prog H0 111 := fun s H hp => by
  refine leafG (args := [.str s]) hG (fun w σ vs hT hl hv => ?_) H hp
  match vs, hl with
  | [v0], _ =>
  have e0 := (hv 0 v0 _ rfl rfl).str_inv
  subst e0
  refine (Tryz.utf8_DecodeRuneInString ⟨s.toArray⟩ w hT.1).mono ?_
  rintro e w' ⟨rfl, hb⟩
  refine ⟨_, rfl, hb, fun κ => ?_⟩
  rw [decodeGo_eq]
  refine VR.tup [_, _] [_, _] rfl fun i v a hi ha => ?_
  match i with
  | 0 => cases hi; cases ha; exact .d (.int _ _)
  | 1 => cases hi; cases ha; exact .d (.int _ _)
  | i + 2 => cases hi

theorem numberCalls (s : ByteArray) (hlim : s.size ≤ 1048576) (w : World) (h0 : ∃ te pe, w.cell? ⟨3, 0, none⟩ = some (.iface te pe)) (h1 : ∃ te pe, w.cell? ⟨4, 0, none⟩ = some (.iface te pe)) :
    Calls Tryz.prog 117 #[.string s] w fun e w' => e = .returned (.int .i64 (if numOk s.data.toList then 0 else 23)) ∧ Below w.heap.size w w' := by
  obtain ⟨t0, p0, h0⟩ := h0
  obtain ⟨t1, p1, h1⟩ := h1
  rcases h : Lib.parseUintB 63 s.data.toList with u | _ | _
  · have hr : numOk s.data.toList = true := by simp only [numOk, h]
    rw [hr]
    go_enter Tryz.func117, Tryz.ntmps117
    go_wp2_with (go_at_call 128; refine (Any.strconv_ParseUint_10_at63_ok Tryz.laysPu14 s (by omega) u h _).mono ?_; rintro e w' ⟨rfl, hw⟩)
    go_wp2
    go_ret
    refine ⟨by first | rfl | (congr 2; omega), ?_⟩
    rcases hw with rfl | rfl
    · exact Below.refl _ _
    · exact Lib.bytesWorld_below _ _ _
  · have hr : numOk s.data.toList = false := by simp only [numOk, h]
    rw [hr]
    go_enter Tryz.func117, Tryz.ntmps117
    go_wp2_with (go_at_call 128; refine (Any.strconv_ParseUint_10_at63_syntax Tryz.laysPu14 s (by omega) h (.iface t0 p0) _ ?_ (.inr ⟨_, _, rfl⟩)).mono ?_)
    · exact h0
    rintro e W1 ⟨N, rfl, -, -, hb⟩
    go_wp2
    go_ret
    exact ⟨rfl, hb⟩
  · have hr : numOk s.data.toList = false := by simp only [numOk, h]
    rw [hr]
    go_enter Tryz.func117, Tryz.ntmps117
    go_wp2_with (go_at_call 128; refine (Any.strconv_ParseUint_10_at63_range Tryz.laysPu14 s (by omega) h (.iface t1 p1) _ ?_ (.inr ⟨_, _, rfl⟩)).mono ?_)
    · exact h1
    rintro e W1 ⟨N, rfl, -, -, hb⟩
    go_wp2
    go_ret
    exact ⟨rfl, hb⟩

theorem numberOk {H0 : Hp} (hG : TabsG 1 2 3 4 H0) : NumOk Tryz.prog H0 117 := fun s H hp hl => by
  refine leafG (args := [.str s]) (x := .d _) hG (fun w σ vs hT hl' hv => ?_) H hp
  match vs, hl' with
  | [v0], _ =>
  have e0 := (hv 0 v0 _ rfl rfl).str_inv
  subst e0
  refine (numberCalls ⟨s.toArray⟩ (by simpa [ByteArray.size] using hl) w hT.2.1 hT.2.2).mono ?_
  rintro e w' ⟨rfl, hb⟩
  exact ⟨_, rfl, hb, fun κ => .d (.int _ _)⟩

theorem cfWB : compF Tryz.prog [] Tryz.f136 = some (irWriteByte 85 5) := by kernel_rfl
theorem copyOk : CopyOk Tryz.prog 85 80 := fun H i x a hi ha => copyCheckOk hi ha
theorem writeBOk : WriteBOk Tryz.prog 136 80 := fun H i t a bs c => writeByte_acall Tryz.func136 cfWB copyOk H i t a bs c
theorem stringOk' : StringOk Tryz.prog 71 80 := fun H i t a s hi ht hl => stringOk hi ht (by omega)
theorem unquoteOk (s : Bs) (H : Hp) (hs : s.length ≤ 1048576) : ACall Tryz.prog 129 [.d (.str s)] H (fun r H' => r = unqR (unqV s) ∧ H' = H) := h129.unquote indexOk writeBOk stringOk' s hs H

theorem letterOk : ByteOk Tryz.prog 66 letterB := h66.letter
theorem digitOk : ByteOk Tryz.prog 68 digitB := h68.digit
theorem isKeyOk (s : Bs) (H : Hp) : ACall Tryz.prog 67 [.d (.str s)] H (fun r H' => r = .d (.bool (decide (s ∈ keysL))) ∧ H' = H) := h67.isKey h84 h83 h44 s H
theorem wordOk {H : Hp} {i : Nat} {ts : TypeId} {text : Bs} {n : Nat} (hi : H[i]? = some (scan ts text n)) (hn : n ≤ text.length) (hl : text.length ≤ 1048576) :
    ACall Tryz.prog 116 [.ptr i 0] H (fun r H' => r = .d (.str ((text.drop n).take (Zam.runN Zam.wordB (text.drop n)))) ∧ H' = H.set i (scan ts text (n + Zam.runN Zam.wordB (text.drop n)))) :=
  h116.word h112 (by kernel_rfl) (h127.wordB letterOk digitOk) hi hn (by omega)
theorem leadOk {H : Hp} {i : Nat} {text : Bs} {n : Nat} (hi : H[i]? = some (scan 109 text n)) (hn : n ≤ text.length) (hl : text.length ≤ 1048576) :
    ACall Tryz.prog 88 [.ptr i 0] H (fun r H' => r = .d (.str ((text.drop n).take (leadS false (text.drop n)))) ∧ H' = H.set i (scan 109 text (n + leadS false (text.drop n)))) :=
  h88.lead h112 (by kernel_rfl) h113.blank (by kernel_rfl) h114.hash (by kernel_rfl) h115.noNl hi hn (by omega)
theorem nextOk {H0 : Hp} (hG : TabsG 1 2 3 4 H0) {H : Hp} {i : Nat} {text : Bs} {n : Nat} (hH : Pre0 H0 H) (h0i : H0.length ≤ i) (hi : H[i]? = some (scan 109 text n)) (hn : n ≤ text.length) (hl : text.length ≤ 1048576) :
    ACall Tryz.prog 89 [.ptr i 0] H (NextQ H i 109 text n (text.drop n) (tokN (text.drop n))) :=
  h89.next h112 (by kernel_rfl) letterOk (by kernel_rfl) digitOk wordOk isKeyOk (numberOk hG) (fun hi hn hl => h118.str unquoteOk hi hn hl) (fun hi hn hl => h119.sign h130 prefixOk hi hn (by omega)) hH h0i hi hn hl
theorem badOk {H0 : Hp} (hG : TabsG 1 2 3 4 H0) (s : Bs) (H : Hp) (hs : s.length ≤ 1048576) (hH : Pre0 H0 H) : ACall Tryz.prog 87 [.d (.str s)] H (fun r H' => r = .d (.int .i64 (badS s)) ∧ H' = H) := h87.bad (decodeOk hG) s hs H hH
theorem lexOk {H0 : Hp} (hG : TabsG 1 2 3 4 H0) (s : Bs) (hs : s.length ≤ 1048576) (H : Hp) (hH : Pre0 H0 H) :
    ACall Tryz.prog 72 [.d (.str s)] H (fun r H' => r = .tup [.d (.sl true 4 ((lexS s).1.map encTk)), .d (.int .i64 (lexS s).2.1), .d (.int .i64 (lexS s).2.2)] ∧ H' = H) :=
  h72.lex (badOk hG) leadOk (nextOk hG) s hs H hH
end Go.Proofs.Zy

namespace Go.Proofs
open Go.RowKit Go.Maps Go.Sort Go.Shelf
set_option linter.all false
variable {P : Program} {ρ : Ren}

/-- an iterator's word, where whoever takes its elements leaves alone what lay before -/
def SeqGivesB (F : Fence) (n : Nat) (P : Program) (g : Nat) (lb : Array Value) (S : List (List UInt8) → Prop) (N : Nat) (w : World) : Prop :=
  ∀ (l : Nat) (J : List (List UInt8) → World → Prop) (W : World), Below w.heap.size w W → AbidesFrom W.heap.size J → (∀ s W, J s W → Below w.heap.size w W) →
    (∀ pre x W1, J pre W1 → pre.length < N → YieldAt F (n - 1) P l #[Go.Proofs.encStr x] W1 fun e W' => e = .returned (.bool true) ∧ J (pre ++ [x]) W' ∧ KeepsWalks W1 W') →
    J [] W →
    CallsIn F n P g (#[.func (.yield l) #[] #[]] ++ lb) W fun e W' => (∃ v, e = .returned v) ∧ ∃ xs, S xs ∧ J xs W'

set_option maxRecDepth 100000 in
set_option maxHeartbeats 2000000 in
theorem appendSeqB_in (L : SlLaysZ.n11 P ρ) (F : Fence) (n : Nat) (h11 : F.fn (ρ.f 11)) (hro : F.round = none) (hn : 2 ≤ n) (g : Nat) (lb : Array Value) (hFg : F.fn g) (eg : ∀ args w, (callFunc g args).run P w = .ok (.enter g args) w)
    (S : List (List UInt8) → Prop) (N : Nat) (hN : N ≤ maxLen) (hNb : N * 16 ≤ 140737488355328) (w : World) (hseq : SeqGivesB F (n - 1) P g lb S N w) :
    CallsIn F n P (ρ.f 11) #[.slice none 0 0, .func (.func g) #[] lb] w fun e w' => ∃ (v : Value) (ss : List (List UInt8)), e = .returned v ∧ S ss ∧ w'.ownsRow w.heap.size (ρ.t 26) 1 v ss.length (ss.map Go.Proofs.encStr) ∧ (v = .slice none 0 0 ↔ ss = []) ∧ Below w.heap.size w w' := by
  have h1 : 1 ≤ n := by omega
  have mixed := L.mixed; have t0 := L.t0; have a0 := L.a0; have z0 := L.z0; have v0 := L.v0; have t24 := L.t24; have a24 := L.a24; have z24 := L.z24; have v24 := L.v24; have t26 := L.t26; have a26 := L.a26; have z26 := L.z26; have v26 := L.v26; have t28 := L.t28; have a28 := L.a28; have z28 := L.z28; have v28 := L.v28
  have hne : ρ.t 24 ≠ ρ.t 26 := fun e => by have h := L.t24; rw [e, L.t26] at h; cases h
  have u0 := run_underlying L.t0; have u24 := run_underlying L.t24; have u26 := run_underlying L.t26; have u28 := run_underlying L.t28
  obtain ⟨_, _, FG⟩ := L.f11
  refine callsIn_of_wp_marks FG rfl h11 ?_ hro
  simp only [SlBodyZ.n11_ntmps ρ, List.size_toArray, List.length_cons, List.length_nil, Nat.reduceAdd, Nat.reduceSub, Array.replicate_succ, Array.replicate_zero, List.push_toArray, List.append_toArray, List.nil_append, List.cons_append]
  gi_wp2
  refine wpIn_rangeFunc ?_
  intro fn hfn
  rw [hro]
  obtain ⟨W0, hW0⟩ : ∃ W0, w.alloc (.cells #[.slice none 0 0] (ρ.t 24)) = W0 := ⟨_, rfl⟩
  have hs0 : W0.heap.size = w.heap.size + 1 := by rw [← hW0]; simp
  have hv0 : W0.heap[w.heap.size]? = some (.cells #[.slice none 0 0] (ρ.t 24) (0, 0)) := by rw [← hW0]; exact World.alloc_heap_new w _
  have hb0 : Below w.heap.size w W0 := by rw [← hW0]; exact (Below.refl _ w).alloc (Nat.le_refl _) _
  rw [hW0]
  obtain ⟨W1, hW1⟩ : ∃ W1, (W0.alloc (.deferred (some []))).alloc (.loop (AnyZ.apRec ρ fn (.func (.func g) #[] lb) w.heap.size W0.heap.size .ready none)) = W1 := ⟨_, rfl⟩
  have hold : ∀ k, k < W0.heap.size → W1.heap[k]? = W0.heap[k]? := fun k hk => by
    rw [← hW1]; exact (Below.heap_alloc _ _ k (by simp; omega)).trans (Below.heap_alloc _ _ k hk)
  have hb1 : Below w.heap.size w W1 := by rw [← hW1]; exact (hb0.alloc hb0.size _).alloc (by have := hb0.size; simp; omega) _
  have hs1 : W1.heap.size = W0.heap.size + 2 := by rw [← hW1]; simp
  have hM : AnyZ.ApAt ρ w fn (.func (.func g) #[] lb) w.heap.size (W0.heap.size + 1) W0.heap.size [] W1 :=
    ⟨⟨_, (hold w.heap.size (by omega)).trans hv0, ⟨rfl, .inl ⟨rfl, rfl⟩⟩, by simp⟩,
     by rw [← hW1]; have := World.alloc_heap_new (W0.alloc (.deferred (some []))) (.loop (AnyZ.apRec ρ fn (.func (.func g) #[] lb) w.heap.size W0.heap.size .ready none)); rwa [World.size_alloc] at this,
     by rw [← hW1]; exact (Below.heap_alloc _ _ _ (by simp)).trans (World.alloc_heap_new W0 _), hb1⟩
  refine ⟨W0.heap.size + 1, [{ target := .collected W0.heap.size, args := #[] }], W1, { target := .fn (.func g) lb, args := #[.func (.yield (W0.heap.size + 1)) #[] #[]] }, W1, g,
    #[.func (.yield (W0.heap.size + 1)) #[] #[]] ++ lb, W1, ?_, ?_, ?_, ?_, fun _ => h1, ?_⟩
  · rw [← hW1]; exact run_enterLoop_outer _ _ _ _ _
  · simp [resolve, go_sem]
  · intro f' hf'; simp [Target.leads] at hf'; subst hf'; exact hFg
  · simp [invoke, go_sem, eg]
  · refine (hseq (W0.heap.size + 1) (AnyZ.ApAt ρ w fn (.func (.func g) #[] lb) w.heap.size (W0.heap.size + 1) W0.heap.size) W1 hb1 (AnyZ.ap_abides ρ _ _ _ _ _ _ _ hb1.size) (fun s W h => h.below)
      (fun pre x W hJ hl => AnyZ.apYield { L with } F (n - 1 - 1) w fn hfn _ w.heap.size (W0.heap.size + 1) W0.heap.size (by omega) (by omega) (by omega) (Nat.le_refl _) (by omega) N hN hNb pre x W hJ hl) hM).mono ?_
    rintro e W2 ⟨⟨v0, rfl⟩, ss, hS, h2⟩
    obtain ⟨v, hv, hrow, hnil⟩ := h2.box
    have hend := run_endLoop (P := P) h2.L (by simp [AnyZ.apRec])
    obtain ⟨W3, hW3⟩ : ∃ W3, W2.putObj (W0.heap.size + 1) (.loop { AnyZ.apRec ρ fn (.func (.func g) #[] lb) w.heap.size W0.heap.size .ready none with state := .exhausted }) = W3 := ⟨_, rfl⟩
    rw [hW3] at hend
    have hg3 : W2.grownBy W3 (some (W0.heap.size + 1)) := by rw [← hW3]; exact grownBy_putObj_a _ _ _
    have hv3 : W3.heap[w.heap.size]? = some (.cells #[v] (ρ.t 24) (0, 0)) := by rw [← hW3]; exact (World.putObj_heap_other (by omega)).trans hv
    have hK3 : W3.heap[W0.heap.size]? = some (.deferred (some [])) := by rw [← hW3]; exact (World.putObj_heap_other (by omega)).trans h2.K
    have hrow3 := hrow.kept hg3 (ownsRow_ne_a hrow h2.L (fun cur e => by first | cases e | exact hne (Obj.cells.inj e).2.1))
    have hb3 : Below w.heap.size w W3 := h2.below.grown hg3 h2.below.size (fun k e => by cases e; omega)
    obtain ⟨hc3, hf3⟩ := cell_of_box_a hv3
    clear hW3
    refine ⟨none, W3, hend, ?_⟩
    gi_wp2
    rw [← hs0]
    refine ⟨by simp, .inl ⟨_, _, rfl, run_takeDeferred hK3, ?_⟩⟩
    exact ⟨_, results_tmp rfl _ _ _, v, ss, rfl, hS, hrow3.kept (grownBy_putObj_a _ _ _) (ownsRow_ne_a hrow3 hK3 (fun cur e => by first | cases e | exact hne (Obj.cells.inj e).2.1)), hnil, hb3.grown (grownBy_putObj_a _ _ _) hb3.size (fun k e => by cases e; omega)⟩

end Go.Proofs

namespace Go.Proofs
open Go.Shelf
set_option maxRecDepth 100000
def Tryz.laysSlN44_f42_ren : Go.Shelf.Ren := ⟨fun | 44 => 42 | n => n, fun | 25 => 22 | 26 => 9 | 3 => 3 | 4 => 4 | 0 => 0 | n => n, fun | n => n⟩
theorem Tryz.laysSlN44_f42 : Go.Proofs.SlLaysN.n44 Tryz.prog Tryz.laysSlN44_f42_ren := {
  mixed := by kernel_rfl
  f44 := ⟨Tryz.f42.name, by decide, Tryz.func42.trans (congrArg some (by kernel_rfl))⟩
  t0 := Tryz.underlying0
  a0 := Tryz.isAgg0
  z0 := Tryz.sizeOf0
  v0 := Tryz.zeroValue0
  t3 := Tryz.underlying3
  a3 := Tryz.isAgg3
  z3 := Tryz.sizeOf3
  v3 := Tryz.zeroValue3
  t4 := Tryz.underlying4
  a4 := Tryz.isAgg4
  z4 := Tryz.sizeOf4
  v4 := Tryz.zeroValue4
  t25 := Tryz.underlying22
  a25 := Tryz.isAgg22
  z25 := Tryz.sizeOf22
  v25 := Tryz.zeroValue22
  t26 := Tryz.underlying9
  a26 := Tryz.isAgg9
  z26 := Tryz.sizeOf9
  v26 := Tryz.zeroValue9
  i26 := by kernel_rfl }
open Go.RowKit Go.Lib Go.Sort in
theorem Tryz.slices_Compact_string (blk off cap : Nat) (zs : List (List UInt8)) (w : World) (hH : Holds encStr w blk off zs.toArray) (hsz : zs.length ≤ 9223372036854775807) (hcap : zs.length ≤ cap) :
    Calls Tryz.prog 42 #[.slice (some ⟨blk, off, none⟩) zs.length cap] w fun e w' => e = .returned (.slice (some ⟨blk, off, none⟩) (Lib.compact zs).length cap) ∧ ∃ q, w' = putRow encStr (Sort.ahead w q) blk off (Lib.compact zs ++ List.replicate (zs.length - (Lib.compact zs).length) []).toArray := AnyG.slices_Compact_string Tryz.laysSlN44_f42 blk off cap zs w hH hsz hcap
open Go.RowKit Go.Lib Go.Sort in
theorem Tryz.slices_Compact_string_empty (a : Option Addr) (cap : Nat) (w : World) :
    Calls Tryz.prog 42 #[.slice a 0 cap] w fun e w' => e = .returned (.slice a 0 cap) ∧ w' = w := AnyG.slices_Compact_string_empty Tryz.laysSlN44_f42 a cap w
def Tryz.laysSlM6_f59_ren : Go.Shelf.Ren := ⟨fun | 6 => 59 | 8 => 81 | 9 => 80 | 19 => 107 | 20 => 108 | 21 => 99 | 22 => 100 | 23 => 101 | 24 => 102 | 25 => 103 | 26 => 104 | 27 => 64 | 28 => 105 | 29 => 106 | 36 => 121 | 31 => 122 | 32 => 123 | 37 => 124 | 38 => 125 | 39 => 82 | 41 => 132 | n => n, fun | 27 => 22 | 29 => 9 | 3 => 3 | 32 => 75 | 26 => 22 | 0 => 0 | 44 => 127 | 46 => 129 | 4 => 4 | 36 => 121 | 35 => 120 | 41 => 61 | 5 => 5 | 9 => 9 | 53 => 139 | 57 => 143 | 63 => 148 | 64 => 149 | n => n, fun | n => n⟩
theorem Tryz.laysSlM6_f59 : Go.Proofs.SlLaysM.n6 Tryz.prog Tryz.laysSlM6_f59_ren := {
  mixed := by kernel_rfl
  f6 := ⟨Tryz.f59.name, by decide, Tryz.func59.trans (congrArg some (by kernel_rfl))⟩
  f8 := Tryz.func81.trans (congrArg some (by kernel_rfl))
  f9 := ⟨Tryz.f80.name, by decide, Tryz.func80.trans (congrArg some (by kernel_rfl))⟩
  f19 := Tryz.func107.trans (congrArg some (by kernel_rfl))
  f20 := Tryz.func108.trans (congrArg some (by kernel_rfl))
  f21 := ⟨Tryz.f99.name, by decide, Tryz.func99.trans (congrArg some (by kernel_rfl))⟩
  f22 := ⟨Tryz.f100.name, by decide, Tryz.func100.trans (congrArg some (by kernel_rfl))⟩
  f23 := ⟨Tryz.f101.name, by decide, Tryz.func101.trans (congrArg some (by kernel_rfl))⟩
  f24 := ⟨Tryz.f102.name, by decide, Tryz.func102.trans (congrArg some (by kernel_rfl))⟩
  f25 := ⟨Tryz.f103.name, by decide, Tryz.func103.trans (congrArg some (by kernel_rfl))⟩
  f26 := ⟨Tryz.f104.name, by decide, Tryz.func104.trans (congrArg some (by kernel_rfl))⟩
  f27 := ⟨Tryz.f64.name, by decide, Tryz.func64.trans (congrArg some (by kernel_rfl))⟩
  f28 := ⟨Tryz.f105.name, by decide, Tryz.func105.trans (congrArg some (by kernel_rfl))⟩
  f29 := ⟨Tryz.f106.name, by decide, Tryz.func106.trans (congrArg some (by kernel_rfl))⟩
  f31 := Tryz.func122.trans (congrArg some (by kernel_rfl))
  f32 := Tryz.func123.trans (congrArg some (by kernel_rfl))
  f36 := ⟨Tryz.f121.name, by decide, Tryz.func121.trans (congrArg some (by kernel_rfl))⟩
  f37 := ⟨Tryz.f124.name, by decide, Tryz.func124.trans (congrArg some (by kernel_rfl))⟩
  f38 := ⟨Tryz.f125.name, by decide, Tryz.func125.trans (congrArg some (by kernel_rfl))⟩
  f39 := ⟨Tryz.f82.name, by decide, Tryz.func82.trans (congrArg some (by kernel_rfl))⟩
  f41 := ⟨Tryz.f132.name, by decide, Tryz.func132.trans (congrArg some (by kernel_rfl))⟩
  t0 := Tryz.underlying0
  a0 := Tryz.isAgg0
  z0 := Tryz.sizeOf0
  v0 := Tryz.zeroValue0
  t3 := Tryz.underlying3
  a3 := Tryz.isAgg3
  z3 := Tryz.sizeOf3
  v3 := Tryz.zeroValue3
  t4 := Tryz.underlying4
  a4 := Tryz.isAgg4
  z4 := Tryz.sizeOf4
  v4 := Tryz.zeroValue4
  t5 := Tryz.underlying5
  a5 := Tryz.isAgg5
  z5 := Tryz.sizeOf5
  v5 := Tryz.zeroValue5
  t9 := Tryz.underlying9
  a9 := Tryz.isAgg9
  z9 := Tryz.sizeOf9
  v9 := Tryz.zeroValue9
  t26 := Tryz.underlying22
  a26 := Tryz.isAgg22
  z26 := Tryz.sizeOf22
  v26 := Tryz.zeroValue22
  t27 := Tryz.underlying22
  a27 := Tryz.isAgg22
  z27 := Tryz.sizeOf22
  v27 := Tryz.zeroValue22
  t29 := Tryz.underlying9
  a29 := Tryz.isAgg9
  z29 := Tryz.sizeOf9
  v29 := Tryz.zeroValue9
  t32 := Tryz.underlying75
  a32 := Tryz.isAgg75
  z32 := Tryz.sizeOf75
  v32 := Tryz.zeroValue75
  t35 := Tryz.underlying120
  a35 := Tryz.isAgg120
  z35 := Tryz.sizeOf120
  v35 := Tryz.zeroValue120
  t36 := Tryz.underlying121
  a36 := Tryz.isAgg121
  z36 := Tryz.sizeOf121
  v36 := Tryz.zeroValue121
  t41 := Tryz.underlying61
  a41 := Tryz.isAgg61
  z41 := Tryz.sizeOf61
  v41 := Tryz.zeroValue61
  t44 := Tryz.underlying127
  a44 := Tryz.isAgg127
  z44 := Tryz.sizeOf127
  v44 := Tryz.zeroValue127
  t46 := Tryz.underlying129
  a46 := Tryz.isAgg129
  z46 := Tryz.sizeOf129
  v46 := Tryz.zeroValue129
  t53 := Tryz.underlying139
  a53 := Tryz.isAgg139
  z53 := Tryz.sizeOf139
  v53 := Tryz.zeroValue139
  t57 := Tryz.underlying143
  a57 := Tryz.isAgg143
  z57 := Tryz.sizeOf143
  v57 := Tryz.zeroValue143
  t63 := Tryz.underlying148
  a63 := Tryz.isAgg148
  z63 := Tryz.sizeOf148
  v63 := Tryz.zeroValue148
  t64 := Tryz.underlying149
  a64 := Tryz.isAgg149
  z64 := Tryz.sizeOf149
  v64 := Tryz.zeroValue149 }
open Go.Sort Go.RowKit in
theorem Tryz.slices_Sort_string (blk off cap : Nat) (ss : List (List UInt8)) (w : World) (hH : Holds encStr w blk off ss.toArray) (hblk : blk < w.heap.size) (hsz : ss.length < 4611686018427387904) :
    Calls Tryz.prog 59 #[.slice (some ⟨blk, off, none⟩) ss.length cap] w fun e w' =>
      e = .returned (.tuple #[]) ∧ ∃ n os, w' = grow (putRow encStr (Sort.ahead w n) blk off (ss.mergeSort fun x y => decide (x ≤ y)).toArray) os := AnyM.slices_Sort_string Tryz.laysSlM6_f59 blk off cap ss w hH hblk hsz
open Go.RowKit Go.Sort in
theorem Tryz.slices_Sort_string_none (p : Option Addr) (cap : Nat) (w : World) :
    Calls Tryz.prog 59 #[.slice p 0 cap] w fun e w' => e = .returned (.tuple #[]) ∧ w' = w := AnyM.slices_Sort_string_none Tryz.laysSlM6_f59 p cap w
end Go.Proofs

namespace Go.Proofs
open Go.Shelf
set_option maxRecDepth 100000
def Tryz.laysZ11_ren : Go.Shelf.Ren := ⟨fun | 11 => 79 | n => n, fun | 24 => 22 | 26 => 9 | 28 => 53 | 0 => 0 | 33 => 60 | 4 => 4 | n => n, fun | n => n⟩
theorem Tryz.laysZ11 : Go.Proofs.SlLaysZ.n11 Tryz.prog Tryz.laysZ11_ren := {
  mixed := by kernel_rfl
  f11 := ⟨Tryz.f79.name, by decide, Tryz.func79.trans (congrArg some (by kernel_rfl))⟩
  t0 := Tryz.underlying0
  a0 := Tryz.isAgg0
  z0 := Tryz.sizeOf0
  v0 := Tryz.zeroValue0
  t24 := Tryz.underlying22
  a24 := Tryz.isAgg22
  z24 := Tryz.sizeOf22
  v24 := Tryz.zeroValue22
  t26 := Tryz.underlying9
  a26 := Tryz.isAgg9
  z26 := Tryz.sizeOf9
  v26 := Tryz.zeroValue9
  t28 := Tryz.underlying53
  a28 := Tryz.isAgg53
  z28 := Tryz.sizeOf53
  v28 := Tryz.zeroValue53
  i26 := by kernel_rfl }

namespace Zy
open Go Go.Zam Go.Proofs Go.RowKit Go.Shelf
set_option linter.all false
attribute [local go_sem] Oper.semAt_some

set_option maxRecDepth 100000 in
set_option maxHeartbeats 2000000 in
/-- the iterator of slices.Values: all texts come, in order -/
theorem values1_in (w : World) (F : Fence) (n : Nat) (hf : F.fn 60) (hro : F.round = none) (hn : 1 ≤ n) (l Bs b off len cap : Nat) (zs : List (List UInt8)) (hlen : len = zs.length) (hreach : len ≤ 1048576) (hb : b < w.heap.size) (hBs : Bs < w.heap.size) (J : List (List UInt8) → World → Prop)
    (hJB : ∀ s W, J s W → Below w.heap.size w W)
    (hY : ∀ pre x W, J pre W → pre.length < len → YieldAt F (n - 1) Tryz.prog l #[encStr x] W fun e W' => e = .returned (.bool true) ∧ J (pre ++ [x]) W' ∧ KeepsWalks W W')
    (W : World) (hB : w.cell? ⟨Bs, 0, none⟩ = some (.slice (some ⟨b, off, none⟩) len cap)) (hc : ∀ j, j < len → w.cell? ⟨b, off + j, none⟩ = some (encStr (zs[j]?.getD []))) (h0 : J [] W) :
    CallsIn F n Tryz.prog 60 #[.func (.yield l) #[] #[], .pointer (some ⟨Bs, 0, none⟩)] W fun e W' => (∃ v, e = .returned v) ∧ J zs W' := by
  have hBs' := ((hJB _ _ h0).cell (p := ⟨Bs, 0, none⟩) hBs).trans hB
  refine callsIn_of_wp Tryz.func60 rfl hf ?_ hro
  simp only [Tryz.ntmps60, List.size_toArray, List.length_cons, List.length_nil, Nat.reduceAdd, Nat.reduceSub, Array.replicate_succ, Array.replicate_zero, List.push_toArray, List.append_toArray, List.nil_append, List.cons_append]
  gi_wp2
  gi_loopw [7] (fun i wr => ∃ k : Nat, k ≤ len ∧ i = .int .i64 k ∧ J (zs.take k) wr)
    (fun i _ => len - (intOf i).toNat)
  case atStart => exact ⟨0, Nat.zero_le _, rfl, h0⟩
  case round =>
    obtain ⟨k, hk, rfl, hJs⟩ := hrel
    have hcx : k < len → wr.cell? ⟨b, off + k, none⟩ = some (encStr (zs[k]?.getD [])) := fun h => ((hJB _ _ hJs).cell (p := ⟨b, off + k, none⟩) hb).trans (hc k h)
    by_cases hlt : k < len
    · obtain ⟨fn, tmps, assign, body, hy, hR⟩ := hY _ (zs[k]?.getD []) wr hJs (by simp; omega)
      have hcx' := hcx hlt
      have hst : zs.take (k + 1) = zs.take k ++ [zs[k]?.getD []] := by
        have h1 : k < zs.length := by omega
        rw [List.take_succ_eq_append_getElem h1]; simp [h1]
      clear hcx
      generalize zs[k]?.getD [] = x at hcx' hy hR hst
      gi_wp2
      refine hR.mono ?_
      rintro e W3 ⟨rfl, hJ3, hk3⟩
      gi_wp2
      go_roundw
      case rel => exact ⟨k + 1, by omega, by simp, by rw [hst]; exact hJ3⟩
      case measure => simp [intOf]; omega
    · obtain rfl : k = len := by omega
      gi_wp2
      go_end0
      rw [List.take_of_length_le (by omega)] at hJs
      exact ⟨⟨_, rfl⟩, hJs⟩

set_option maxRecDepth 100000 in
set_option maxHeartbeats 1000000 in
/-- .. at no element: no round. -/
theorem values0_in (F : Fence) (n : Nat) (hf : F.fn 60) (hro : F.round = none) (l Bs : Nat) (p : Option Addr) (cap : Nat) (J : List (List UInt8) → World → Prop) (W : World) (hBs : W.cell? ⟨Bs, 0, none⟩ = some (.slice p 0 cap)) (h0 : J [] W) :
    CallsIn F n Tryz.prog 60 #[.func (.yield l) #[] #[], .pointer (some ⟨Bs, 0, none⟩)] W fun e W' => (∃ v, e = .returned v) ∧ J [] W' := by
  refine callsIn_of_wp Tryz.func60 rfl hf ?_ hro
  simp only [Tryz.ntmps60, List.size_toArray, List.length_cons, List.length_nil, Nat.reduceAdd, Nat.reduceSub, Array.replicate_succ, Array.replicate_zero, List.push_toArray, List.append_toArray, List.nil_append, List.cons_append]
  gi_wp2
  gi_loopw [7] (fun i wr => i = .int .i64 0 ∧ J [] wr) (fun _ _ => 0)
  case atStart => exact ⟨rfl, h0⟩
  case round =>
    obtain ⟨rfl, hJs⟩ := hrel
    gi_wp2
    go_end0
    exact ⟨⟨_, rfl⟩, hJs⟩

theorem collectOk : CollectStr Tryz.prog 79 60 := fun w Bs sv L hB hl hsv => by
  have hBs : Bs < w.heap.size := World.block_lt_of_cell? w ⟨Bs, 0, none⟩ hB
  have hseq : SeqGivesB Fence.wide 1 Tryz.prog 60 #[.pointer (some ⟨Bs, 0, none⟩)] (fun ss => ss = L) L.length w := fun l J W hW _ hJB hY h0 => by
    by_cases hL : L = []
    · subst hL
      obtain ⟨p, cap, rfl⟩ : ∃ p cap, sv = .slice p 0 cap := by
        rcases hsv with ⟨rfl, -⟩ | ⟨ad, cap, rfl, -⟩
        · exact ⟨_, _, rfl⟩
        · exact ⟨_, _, rfl⟩
      refine (values0_in Fence.wide 1 trivial rfl l Bs p cap J W ((hW.cell (p := ⟨Bs, 0, none⟩) hBs).trans hB) h0).mono ?_
      rintro e W' ⟨h1, h2⟩
      exact ⟨h1, [], rfl, h2⟩
    · rcases hsv with ⟨-, h⟩ | ⟨⟨b, off, sp⟩, cap, rfl, hc⟩
      · exact absurd h hL
      obtain ⟨rfl, hc⟩ := hc hL
      have hpos := List.length_pos_iff.2 hL
      have hb : b < w.heap.size := World.block_lt_of_cell? w ⟨b, off + 0, none⟩ (hc 0 _ (List.getElem?_eq_getElem hpos))
      refine (values1_in w Fence.wide 1 trivial rfl (Nat.le_refl _) l Bs b off L.length cap L rfl hl hb hBs J hJB (fun pre x W h1 h2 => hY pre x W h1 h2) W hB (fun j hj => ?_) h0).mono ?_
      · rw [hc j _ (List.getElem?_eq_getElem hj)]
        simp [hj]
      rintro e W' ⟨h1, h2⟩
      exact ⟨h1, L, rfl, h2⟩
  refine (callsIn_wide.1 (appendSeqB_in Tryz.laysZ11 Fence.wide 2 trivial rfl (Nat.le_refl _) 60 _ trivial (enters_of Tryz.func60 (by kernel_rfl) rfl) (fun ss => ss = L) L.length (by simp [maxLen]; omega) (by omega) w hseq)).mono ?_
  rintro e w' ⟨v, ss, rfl, rfl, h1, h2, h3⟩
  exact ⟨v, _, rfl, h1, h2, h3⟩

theorem sortOk : SortStr Tryz.prog 59 := fun blk off cap ss w hH hblk hsz => Tryz.slices_Sort_string blk off cap ss w hH hblk hsz
theorem sort0Ok (p : Option Addr) (cap : Nat) (w : World) : Calls Tryz.prog 59 #[.slice p 0 cap] w fun e w' => e = .returned (.tuple #[]) ∧ w' = w := Tryz.slices_Sort_string_none p cap w
theorem compactOk : CompactStr Tryz.prog 42 := ⟨fun blk off cap ss w hH h1 h2 => Tryz.slices_Compact_string blk off cap ss w hH h1 h2, fun a cap w => Tryz.slices_Compact_string_empty a cap w⟩

end Zy
end Go.Proofs

namespace Go.Proofs.Zy
open Go Go.Zam Go.Proofs Classical
set_option maxRecDepth 100000
set_option linter.all false
theorem ycf16 : compF Tryz.prog [] Tryz.f16 = some (irRSame 16 25) := by kernel_rfl
theorem yh16 : Has Tryz.prog 16 (irRSame 16 25) := ⟨_, Tryz.func16, ycf16⟩
theorem ycf19 : compF Tryz.prog [28] Tryz.f19 = some (irTyRecord 41 40 43 42 44 25) := by kernel_rfl
theorem yh19 : HasT Tryz.prog [28] 19 (irTyRecord 41 40 43 42 44 25) := ⟨_, Tryz.func19, ycf19⟩
theorem ycf20 : compF Tryz.prog [] Tryz.f20 = some (irRRecord 45 25) := by kernel_rfl
theorem yh20 : Has Tryz.prog 20 (irRRecord 45 25) := ⟨_, Tryz.func20, ycf20⟩
theorem ycf21 : compF Tryz.prog [4000000] Tryz.f21 = some (irTyFunc 46 25) := by kernel_rfl
theorem yh21 : HasT Tryz.prog [4000000] 21 (irTyFunc 46 25) := ⟨_, Tryz.func21, ycf21⟩
theorem ycf26 : compF Tryz.prog [] Tryz.f26 = some (irTyDepth 26 25) := by kernel_rfl
theorem yh26 : Has Tryz.prog 26 (irTyDepth 26 25) := ⟨_, Tryz.func26, ycf26⟩
theorem ycf32 : compF Tryz.prog [3, 6] Tryz.f32 = some (irTyText 32 51 25 9) := by kernel_rfl
theorem yh32 : HasT Tryz.prog [3, 6] 32 (irTyText 32 51 25 9) := ⟨_, Tryz.func32, ycf32⟩
theorem ycf33 : compF Tryz.prog [] Tryz.f33 = some (irTyParse 52 53 25 66) := by kernel_rfl
theorem yh33 : Has Tryz.prog 33 (irTyParse 52 53 25 66) := ⟨_, Tryz.func33, ycf33⟩
theorem ycf39 : compF Tryz.prog [] Tryz.f39 = some (irTSmall 25 57) := by kernel_rfl
theorem ycf57 : compF Tryz.prog [] Tryz.f57 = some (irTSize 25 57) := by kernel_rfl
theorem ycf17 : compF Tryz.prog [] Tryz.f17 = some (irTLight 25 39) := by kernel_rfl
theorem ycf40 : compF Tryz.prog [] Tryz.f40 = some (irSlSorted 58 59) := by kernel_rfl
theorem yh40 : Has Tryz.prog 40 (irSlSorted 58 59) := ⟨_, Tryz.func40, ycf40⟩
theorem ycf41 : compF Tryz.prog [] Tryz.f41 = some (irSlValues 60 22) := by kernel_rfl
theorem yh41 : Has Tryz.prog 41 (irSlValues 60 22) := ⟨_, Tryz.func41, ycf41⟩
theorem ycf45 : compF Tryz.prog [10] Tryz.f45 = some (irRWith 25 9) := by kernel_rfl
theorem yh45 : HasT Tryz.prog [10] 45 (irRWith 25 9) := ⟨_, Tryz.func45, ycf45⟩
theorem ycf46 : compF Tryz.prog [2, 5] Tryz.f46 = some (irClT 25) := by kernel_rfl
theorem yh46 : HasT Tryz.prog [2, 5] 46 (irClT 25) := ⟨_, Tryz.func46, ycf46⟩
theorem ycf53 : compF Tryz.prog [] Tryz.f53 = some (irTyOf 77 26 66 25) := by kernel_rfl
theorem yh53 : Has Tryz.prog 53 (irTyOf 77 26 66 25) := ⟨_, Tryz.func53, ycf53⟩
theorem ycf77 : compF Tryz.prog [29] Tryz.f77 = some (irTyOfN 98 77 66 25 9) := by kernel_rfl
theorem yh77 : HasT Tryz.prog [29] 77 (irTyOfN 98 77 66 25 9) := ⟨_, Tryz.func77, ycf77⟩
theorem ycf98 : compF Tryz.prog [4, 5] Tryz.f98 = some (irTyRecN 77 19 66 25 9) := by kernel_rfl
theorem yh98 : HasT Tryz.prog [4, 5] 98 (irTyRecN 77 19 66 25 9) := ⟨_, Tryz.func98, ycf98⟩
theorem ycf58 : compF Tryz.prog [] Tryz.f58 = some (irSlCollect 79) := by kernel_rfl
theorem yh58 : Has Tryz.prog 58 (irSlCollect 79) := ⟨_, Tryz.func58, ycf58⟩
theorem ycf44 : compF Tryz.prog [] Tryz.f44 = some (irSlIdx) := by kernel_rfl
theorem yh44 : Has Tryz.prog 44 (irSlIdx) := ⟨_, Tryz.func44, ycf44⟩
theorem ycf74 : compF Tryz.prog [] Tryz.f74 = some (irPNow 95) := by kernel_rfl
theorem yh74 : Has Tryz.prog 74 (irPNow 95) := ⟨_, Tryz.func74, ycf74⟩
theorem ycf75 : compF Tryz.prog [] Tryz.f75 = some (irPFail) := by kernel_rfl
theorem yh75 : Has Tryz.prog 75 (irPFail) := ⟨_, Tryz.func75, ycf75⟩
theorem ycf120 : compF Tryz.prog [] Tryz.f120 = some (irPIs 74 95) := by kernel_rfl
theorem yh120 : Has Tryz.prog 120 (irPIs 74 95) := ⟨_, Tryz.func120, ycf120⟩
theorem ycf91 : compF Tryz.prog [] Tryz.f91 = some (irPTook 120) := by kernel_rfl
theorem yh91 : Has Tryz.prog 91 (irPTook 120) := ⟨_, Tryz.func91, ycf91⟩
theorem ycf95 : compF Tryz.prog [] Tryz.f95 = some (irPWant 91 75) := by kernel_rfl
theorem yh95 : Has Tryz.prog 95 (irPWant 91 75) := ⟨_, Tryz.func95, ycf95⟩
theorem ycf94 : compF Tryz.prog [] Tryz.f94 = some (irPWord 74 75 95) := by kernel_rfl
theorem yh94 : Has Tryz.prog 94 (irPWord 74 75 95) := ⟨_, Tryz.func94, ycf94⟩
theorem ycf90 : compF Tryz.prog [10] Tryz.f90 = some (irPNode 66) := by kernel_rfl
theorem yh90 : HasT Tryz.prog [10] 90 (irPNode 66) := ⟨_, Tryz.func90, ycf90⟩
theorem ycf97 : compF Tryz.prog [] Tryz.f97 = some (irPDone 66) := by kernel_rfl
theorem yh97 : Has Tryz.prog 97 (irPDone 66) := ⟨_, Tryz.func97, ycf97⟩
theorem ycf96 : compF Tryz.prog [] Tryz.f96 = some (irPPut 66) := by kernel_rfl
theorem yh96 : Has Tryz.prog 96 (irPPut 66) := ⟨_, Tryz.func96, ycf96⟩
theorem ycf92 : compF Tryz.prog [] Tryz.f92 = some (irPList 91 96 95) := by kernel_rfl
theorem yh92 : Has Tryz.prog 92 (irPList 91 96 95) := ⟨_, Tryz.func92, ycf92⟩
theorem ycf73 : compF Tryz.prog [] Tryz.f73 = some (irPKind 90 91 93 92 95 73 96 75 97 90 66) := by kernel_rfl
theorem yh73 : Has Tryz.prog 73 (irPKind 90 91 93 92 95 73 96 75 97 90 66) := ⟨_, Tryz.func73, ycf73⟩
theorem ycf93 : compF Tryz.prog [] Tryz.f93 = some (irPTField 90 94 95 73 96 97 66) := by kernel_rfl
theorem yh93 : Has Tryz.prog 93 (irPTField 90 94 95 73 96 97 66) := ⟨_, Tryz.func93, ycf93⟩
theorem ycf52 : compF Tryz.prog [] Tryz.f52 = some (irPType 72 73 74 75 76 66 92) := by kernel_rfl
theorem yh52 : Has Tryz.prog 52 (irPType 72 73 74 75 76 66 92) := ⟨_, Tryz.func52, ycf52⟩
theorem ycf76 : compF Tryz.prog [] Tryz.f76 = some (irTDepth 76 66) := by kernel_rfl
theorem yh76 : Has Tryz.prog 76 (irTDepth 76 66) := ⟨_, Tryz.func76, ycf76⟩
theorem ycf43 : compF Tryz.prog [1000005] Tryz.f43 = some (irCloneM 1 16 9) := by kernel_rfl
theorem yh43 : HasT Tryz.prog [1000005] 43 (irCloneM 1 16 9) := ⟨_, Tryz.func43, ycf43⟩
theorem rSameOk (v : T) (hv : v.Fit 1048576) : SameT Tryz.prog 16 v := Has.rSame yh16 v hv
theorem sizeOk (v : T) (hv : v.Fit 1048576) (m d : Int) (H : Hp) : ACall Tryz.prog 57 [v.a, .d (.int .i64 m), .d (.int .i64 d)] H (fun r H' => (∃ c : Int, r = .d (.int .i64 c)) ∧ H' = H) := tsize_acall Tryz.func57 ycf57 v hv m d H
theorem smallOk (v : T) (hv : v.Fit 1048576) (m d : Int) (H : Hp) : ACall Tryz.prog 39 [v.a, .d (.int .i64 m), .d (.int .i64 d)] H (fun r H' => (∃ c : Bool, r = .d (.bool c)) ∧ H' = H) := tsmall_acall Tryz.func39 ycf39 sizeOk v hv m d H
theorem lightOk (v : T) (hv : v.Fit 1048576) (H : Hp) : ACall Tryz.prog 17 [v.a] H (fun r H' => (∃ c : Bool, r = .d (.bool c)) ∧ H' = H) := tlight_acall Tryz.func17 ycf17 smallOk v hv H
theorem sortedOk {L : List Str'} (hl : L.length ≤ 1048576) {H : Hp} {i bt : Nat} {z : Bool} (hi : H[i]? = some (.box bt [.d (.sl z 1 (L.map Go.Zam.encStr))])) : ACall Tryz.prog 40 [.fn (.func 60) [] [.ptr i 0]] H (fun r H' => r = .d (.sl L.isEmpty 1 ((msort L).map Go.Zam.encStr)) ∧ H' = H) := Has.slSorted yh40 yh58 collectOk sortOk sort0Ok hl hi
theorem recordOk : RecT Tryz.prog 19 := Has.tyRecord (fa := 0) (fso := 0) yh19 yh41 sortedOk yh43 compactOk yh44
theorem funcOk (v : T) (z : Bool) (ps : List T) (hb : (ps.length + 1) * 56 ≤ 140737488355328) (H : Hp) : ACall Tryz.prog 21 [v.a, .d (.sl z 3 (ps.map T.enc))] H (fun r H' => r = (T.fn v z ps).a ∧ H' = H) := Has.tyFunc yh21 yh46 v z ps hb H
theorem tDepthOk (v : T) (hv : v.Fit 1048576) (hd : v.dep ≤ 1125899906842624) (H : Hp) : ACall Tryz.prog 26 [v.a] H (fun r H' => r = .d (.int .i64 (v.dep : Int)) ∧ H' = H) := Has.tyDepth yh26 v hv hd H
theorem ofNOk (n : N) (hn : n.size ≤ 1048576) : OfT Tryz.prog 77 n := (Has.tyOfN yh77 yh98 recordOk n hn).1
def F : PF := { now := 74, fail := 75, is := 120, took := 91, want := 95, word := 94, node := 90, done := 97, put := 96, list := 92, file := 0, use_ := 0, def_ := 0, params := 0, param := 0, typed := 0, kind := 73, tfield := 93, block := 0, stmt := 0, sets := 0, expr := 0, with_ := 0, sum := 0, term := 0, post := 0, atom := 0, entry := 0, tn := 66, tt := 95, tp := 92, tb := 90 }
theorem hasK : KHas Tryz.prog F where
  now := yh74
  fail := yh75
  is := yh120
  took := yh91
  want := yh95
  word := yh94
  node := yh90
  done := yh97
  put := yh96
  list := yh92
  kind := yh73
  tfield := yh93
  kTField := by kernel_rfl
  kKind := by kernel_rfl
theorem typeOk {H0 : Hp} (hG : TabsG 1 2 3 4 H0) (s : Bs) (hs : s.length ≤ 1048576) (H : Hp) (hH : Pre0 H0 H) : ACall Tryz.prog 52 [.d (.str s)] H (fun r H' => r = .tup [(typeO s).1.v, .d (.int .i64 (typeO s).2)] ∧ H' = H) := Has.type_ (F := F) yh52 hasK yh76 (fun s hs H hH => lexOk hG s hs H hH) s hs H hH
theorem tyOfOk (n : N) (hn : n.size ≤ 1048576) (hw : n.Wd 1048576) (H : Hp) : ACall Tryz.prog 53 [n.v] H (fun r H' => r = .tup [n.typ.1.a, .d (.int .i64 n.typ.2)] ∧ H' = H) := Has.tyOf yh53 n (ofNOk n hn) (fun H => tDepthOk _ (N.ty_ok n hn hw).1.1 (by have := (N.ty_ok n hn hw).1.2; omega) H) H
theorem tyParseOk {H0 : Hp} (hG : TabsG 1 2 3 4 H0) (s : Bs) (hs : s.length ≤ 1048576) (H : Hp) (hH : Pre0 H0 H) : ACall Tryz.prog 33 [.d (.str s)] H (fun r H' => r = .tup [(typO s).1.a, .d (.int .i64 (typO s).2)] ∧ H' = H) := Has.tyParse yh33 s H hH (fun H hH => typeOk hG s hs H hH) (fun H => tyOfOk _ (typeO_ok s hs).1 (typeO_ok s hs).2 H)
end Go.Proofs.Zy

namespace Go.Proofs.Zy
open Go Go.Zam Go.Proofs Classical
set_option maxRecDepth 100000
set_option linter.all false
end Go.Proofs.Zy

namespace Go.Proofs.Zy
open Go Go.Zam Go.Proofs
set_option maxRecDepth 100000
set_option linter.all false
theorem tfit_of {b : Nat} (v : T) : D.bulkC v.enc ≤ b → v.Fit b := by
  induction v using T.ind with
  | h k z ns y ps ih =>
  intro hb
  simp only [T.enc_mk, D.bulkC, D.bulk] at hb
  have l1 := bulkR_len (enc := Go.Zam.encStr) (fun m => by simp only [Go.Zam.encStr, D.bulkC, D.bulk]; omega) ns
  have l2 := bulkR_len (enc := T.enc) (fun m => by cases m; simp only [T.enc_mk, D.bulkC, D.bulk]; omega) ps
  refine .mk _ _ _ _ _ (by omega) (by omega) (fun x hx => ?_) (fun p hp => ih p hp ?_)
  · have := bulkR_mem (List.mem_map_of_mem (f := Go.Zam.encStr) hx)
    simp only [Go.Zam.encStr, D.bulkC, D.bulk] at this
    omega
  · have := bulkR_mem (List.mem_map_of_mem (f := T.enc) hp)
    omega

theorem ty25 : ∀ n ds, Typed Tryz.prog n 25 ds → ∃ v : T, ds = v.enc ∧ True := by
  intro n
  induction n using Nat.strongRecOn with
  | ind n ih =>
  intro ds h
  obtain ⟨m, rfl, h⟩ := typed_structR Tryz.underlying25 h
  obtain ⟨a, r, rfl, ha, d, r, rfl, hd, e, r, rfl, he, rfl⟩ := h
  obtain ⟨k, rfl, -⟩ := typed_i64 Tryz.underlying3 ha
  obtain ⟨z, ns, rfl⟩ := typed_sl (sz := 1) (enc := Go.Zam.encStr) Tryz.underlying22 (by kernel_rfl) (fun n ds h => by
    obtain ⟨x, rfl⟩ := typed_str Tryz.underlying9 h
    exact ⟨x, rfl⟩) hd
  obtain ⟨y, ps, rfl, hp⟩ := typed_slR (sz := 3) (enc := T.enc) (R := fun _ => True) Tryz.underlying23 (by kernel_rfl) (fun q hq ds h => ih q (by omega) ds h) he
  exact ⟨.mk k z ns y ps, by rw [T.enc_mk]; rfl, trivial⟩

theorem arg_typ {n : Nat} {ds : List D} {a : A} (h : Typed Tryz.prog n 25 ds) (ha : ArgOf Tryz.prog 25 ds a) : ∃ v : T, a = v.a ∧ D.bulkC v.enc = D.bulkC ds := by
  obtain ⟨v, rfl, -⟩ := ty25 n ds h
  refine ⟨v, ?_, rfl⟩
  unfold ArgOf at ha
  rw [Tryz.underlying25] at ha
  exact ha

end Go.Proofs.Zy

namespace Go.Proofs
open Go.Shelf
def Tryz.lays156_ren : Go.Shelf.Ren := ⟨fun | 156 => 51 | 165 => 69 | 166 => 70 | 169 => 71 | 240 => 85 | 241 => 86 | 276 => 109 | 277 => 110 | n => n, fun | 31 => 22 | 9 => 9 | 3 => 3 | 4 => 4 | 0 => 0 | 20 => 20 | 72 => 80 | 76 => 84 | 70 => 77 | 37 => 78 | 75 => 83 | 127 => 105 | 164 => 130 | 5 => 5 | 80 => 86 | n => n, fun | n => n⟩
theorem Tryz.lays156 : Go.Proofs.Lays.n156 Tryz.prog Tryz.lays156_ren := {
  mixed := by kernel_rfl
  f156 := Tryz.func51.trans (congrArg some (by kernel_rfl))
  f165 := Tryz.func69.trans (congrArg some (by kernel_rfl))
  f166 := Tryz.func70.trans (congrArg some (by kernel_rfl))
  f169 := Tryz.func71.trans (congrArg some (by kernel_rfl))
  f240 := Tryz.func85.trans (congrArg some (by kernel_rfl))
  f241 := Tryz.func86.trans (congrArg some (by kernel_rfl))
  f276 := Tryz.func109.trans (congrArg some (by kernel_rfl))
  f277 := Tryz.func110.trans (congrArg some (by kernel_rfl))
  t0 := Tryz.underlying0
  a0 := Tryz.isAgg0
  z0 := Tryz.sizeOf0
  v0 := Tryz.zeroValue0
  t3 := Tryz.underlying3
  a3 := Tryz.isAgg3
  z3 := Tryz.sizeOf3
  v3 := Tryz.zeroValue3
  t4 := Tryz.underlying4
  a4 := Tryz.isAgg4
  z4 := Tryz.sizeOf4
  v4 := Tryz.zeroValue4
  t9 := Tryz.underlying9
  a9 := Tryz.isAgg9
  z9 := Tryz.sizeOf9
  v9 := Tryz.zeroValue9
  t20 := Tryz.underlying20
  a20 := Tryz.isAgg20
  z20 := Tryz.sizeOf20
  v20 := Tryz.zeroValue20
  t31 := Tryz.underlying22
  a31 := Tryz.isAgg22
  z31 := Tryz.sizeOf22
  v31 := Tryz.zeroValue22
  t37 := Tryz.underlying78
  a37 := Tryz.isAgg78
  z37 := Tryz.sizeOf78
  v37 := Tryz.zeroValue78
  t70 := Tryz.underlying77
  a70 := Tryz.isAgg77
  z70 := Tryz.sizeOf77
  v70 := Tryz.zeroValue77
  t72 := Tryz.underlying80
  a72 := Tryz.isAgg80
  z72 := Tryz.sizeOf80
  v72 := Tryz.zeroValue80
  t75 := Tryz.underlying83
  a75 := Tryz.isAgg83
  z75 := Tryz.sizeOf83
  v75 := Tryz.zeroValue83
  t76 := Tryz.underlying84
  a76 := Tryz.isAgg84
  z76 := Tryz.sizeOf84
  v76 := Tryz.zeroValue84
  t127 := Tryz.underlying105
  a127 := Tryz.isAgg105
  z127 := Tryz.sizeOf105
  v127 := Tryz.zeroValue105
  t164 := Tryz.underlying130
  a164 := Tryz.isAgg130
  z164 := Tryz.sizeOf130
  v164 := Tryz.zeroValue130 }
end Go.Proofs

namespace Go.Proofs.Zy
open Go Go.Zam Go.Proofs Classical
set_option maxRecDepth 100000
set_option linter.all false
theorem joinExtra : Builder.Extra Tryz.prog Tryz.lays156_ren := {
  sizeBuilder := by kernel_rfl
  liesBuilder := by kernel_rfl
  t5 := Tryz.underlying5
  a5 := Tryz.isAgg5
  z5 := Tryz.sizeOf5
  v5 := Tryz.zeroValue5
  infoByte := by kernel_rfl
  cellsByte := by kernel_rfl
  sizeByte := by kernel_rfl
  neB5 := by decide }
theorem joinSOk : JoinS Tryz.prog 51 := fun z xs sep hN hl H => join_leaf Tryz.lays156 joinExtra z xs sep hN hl H
theorem textOk (v : T) (hv : v.Fit 1048576) (hw : v.wt ≤ 1099511627776) : TextT Tryz.prog 32 v := HasT.tyText yh32 joinSOk v hv hw
theorem ycf18 : compF Tryz.prog [] Tryz.f18 = some (irTAwake9 33 32 25) := by kernel_rfl
theorem yh18 : Has Tryz.prog 18 (irTAwake9 33 32 25) := ⟨_, Tryz.func18, ycf18⟩
theorem awake9Ok {H0 : Hp} (hG : TabsG 1 2 3 4 H0) : AwakeT Tryz.prog H0 18 := Has.tAwake9 yh18 (fun s hs H hH => tyParseOk hG s hs H hH) textOk
theorem arg_typs' {n : Nat} {ds : List D} {a : A} (h : Typed Tryz.prog n 23 ds) (ha : ArgOf Tryz.prog 23 ds a) : ∃ z, ∃ l : List T, a = .d (.sl z 3 (l.map T.enc)) ∧ l.length ≤ D.bulkC ds ∧ ∀ v ∈ l, D.bulkC v.enc ≤ D.bulkC ds := by
  obtain ⟨z, l, rfl, -⟩ := typed_slR (sz := 3) (enc := T.enc) (R := fun _ => True) Tryz.underlying23 (by kernel_rfl) (fun q hq ds h => ty25 q ds h) h
  refine ⟨z, l, argOf_one (by rw [Tryz.underlying23]; simp) ha, ?_, fun v hv => ?_⟩
  · have := bulkR_len (enc := T.enc) (fun m => by cases m; simp only [T.enc_mk, D.bulkC, D.bulk]; omega) l
    simp only [D.bulkC, D.bulk]; omega
  · have := bulkR_mem (List.mem_map_of_mem (f := T.enc) hv)
    simp only [D.bulkC, D.bulk]; omega
theorem arg_strs {n : Nat} {ds : List D} {a : A} (h : Typed Tryz.prog n 22 ds) (ha : ArgOf Tryz.prog 22 ds a) : ∃ z, ∃ l : List Str', a = .d (.sl z 1 (l.map Go.Zam.encStr)) ∧ l.length ≤ D.bulkC ds ∧ ∀ x ∈ l, x.length ≤ D.bulkC ds := by
  obtain ⟨z, l, rfl⟩ := typed_sl (sz := 1) (enc := Go.Zam.encStr) Tryz.underlying22 (by kernel_rfl) (fun n ds h => by
    obtain ⟨x, rfl⟩ := typed_str Tryz.underlying9 h
    exact ⟨x, rfl⟩) h
  refine ⟨z, l, argOf_one (by rw [Tryz.underlying22]; simp) ha, ?_, fun x hx => ?_⟩
  · have := bulkR_len (enc := Go.Zam.encStr) (fun m => by simp only [Go.Zam.encStr, D.bulkC, D.bulk]; omega) l
    simp only [D.bulkC, D.bulk]; omega
  · have := bulkR_mem (List.mem_map_of_mem (f := Go.Zam.encStr) hx)
    simp only [Go.Zam.encStr, D.bulkC, D.bulk] at this
    simp only [D.bulkC, D.bulk, Go.Zam.encStr]; omega
end Go.Proofs.Zy

namespace Go.Proofs.Zy
open Go Go.Zam Go.Proofs Classical
set_option maxRecDepth 100000
set_option linter.all false
theorem ycf4 : compF Tryz.prog [] Tryz.f4 = some (irLMakes 18 17 19 20 21 16 25) := by kernel_rfl
theorem yh4 : Has Tryz.prog 4 (irLMakes 18 17 19 20 21 16 25) := ⟨_, Tryz.func4, ycf4⟩
theorem withOk : WithT Tryz.prog 45 := fun k z y ns ps at' n p h1 h2 b1 b2 H => HasT.rWith yh45 k z y ns ps at' n p h1 h2 b1 b2 H
theorem rRecordOk : RecT Tryz.prog 20 := Has.rRecord yh20 withOk
theorem lMakesOk {H0 : Hp} (hG : TabsG 1 2 3 4 H0) (ns : List Str') (ps : List T) (v : T) (nz pz : Bool) (hn : ns.length ≤ 1048576) (hnw : ∀ n ∈ ns, n.length ≤ 1048576) (hp : ps.length ≤ 1048576) (hpf : ∀ p ∈ ps, p.Fit 1048576) (hv : v.Fit 1048576) (H : Hp) (hH : Pre0 H0 H) :
    ACall Tryz.prog 4 [.d (.sl nz 1 (ns.map Go.Zam.encStr)), .d (.sl pz 3 (ps.map T.enc)), v.a] H (fun r H' => r = .d (.bool true) ∧ H' = H) :=
  Has.lMakes yh4 (awake9Ok hG) (fun v hv H => lightOk v hv H) recordOk rRecordOk rSameOk (fun v z ps hb H => funcOk v z ps hb H) ns ps v nz pz hn hnw hp hpf hv H hH
end Go.Proofs.Zy
