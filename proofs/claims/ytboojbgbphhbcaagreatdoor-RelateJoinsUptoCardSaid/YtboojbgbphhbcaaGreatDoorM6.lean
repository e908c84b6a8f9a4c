/-
  Texts of one proof, one behind the other: An abstract machine over the model, hundred and fifth part: whether types are the same, over any program that asks. The lengths are bounded. An abstract machine over the model, hundredth part: labels with their types, sorted. No program in sight. No condition. An abstract machine over the model, hundred and sixth part: a label looked for among sorted ones, over any program that asks. The lengths are bounded. An abstract machine over the model, hundred and eleventh part: texts sorted into a new row; rows of texts without equal neighbours, over any program that asks. The lengths are bounded. An abstract machine over the model, hundred and twelfth part: the record of labels with their types, sorted: plain facts. No program in sight. No condition. An abstract machine over the model, hundred and thirteenth part: term.Record, over any program that has its functions. The lengths are bounded. An abstract machine over the model, hundred and first part: the type that a tree tells. No program in sight. No condition. An abstract machine over the model, hundred and fourteenth part: types made out of others: functions, twins; how deep one is, over any program that asks. The lengths are bounded. An abstract machine over the model, fifty-fifth part: plain facts on texts that are UTF-8. No program in sight. No condition. An abstract machine over the model, fifty-sixth part: plain facts on a text's tokens. No program in sight. No condition. An abstract machine over the model, seventy-ninth part: the tree of a text, over any program that has the functions. The lengths are bounded. An abstract machine over the model, ninety-ninth part: parse.Type: what it answers at any text. No program in sight. The lengths are bounded. An abstract machine over the model, hundred and fifteenth part: term.Of, term.Parse, over any program that has their functions. The lengths are bounded. An abstract machine over the model, hundred and sixteenth part: types that trees tell: how great they are; the statements' examples. No program in sight. What the arguments of these laws are: types as the program holds them, texts, lists of both. An abstract machine over the model, hundred and seventh part: when a type goes where another one is wanted, over any program that asks. The lengths are bounded. An abstract machine over the model, hundred and eighth part: the document's answer on when a type goes where another one is wanted, over any program that asks. The lengths are bounded. An abstract machine over the model, hundred and ninth part: whether a type may be, the document's answer, over any program that asks. The lengths are bounded. An abstract machine over the model, hundred and seventeenth part: whether a type is without any, the document's answer; the guards of the tenth chapter's laws, over any program that asks. The lengths are bounded. An abstract machine over the model, hundred and eighteenth part: the tenth chapter's sentinel, and its laws on going, over any program that asks. The lengths are bounded. An abstract machine over the model, hundred and nineteenth part: the tenth chapter's first laws, over any program that asks. The lengths are bounded. An abstract machine over the model, hundred and twentieth part: what two types have in common, as the program holds it. Plain Lean. No program in sight. An abstract machine over the model, hundred and twenty-first part: what two types have in common, over any program that asks. The lengths are bounded. An abstract machine over the model, hundred and twenty-second part: the tenth chapter's law on what two types have in common, over any program that asks. The lengths are bounded. An abstract machine over the model, hundred and twenty-third part: what two types have in common, the document's answer, over any program that asks. The lengths are bounded. An abstract machine over the model, hundred and twenty-fourth part: what many types have in common; the tenth chapter's law on it, over any program that asks. The lengths are bounded.
-/
import Derived.Test.YtboojbgbphhbcaaGreatDoorM5
import Derived.Test.YtboojbgbphhbcaaGreatDoorM3
import Derived.Test.YtboojbgbphhbcaaGreatDoorM4
import Derived.Lib.SlicesCompact
import Derived.Sort.Walk0
import Derived.KernelRfl
namespace Go.Zam
set_option linter.all false
set_option maxRecDepth 100000
set_option maxHeartbeats 1000000
open Classical

theorem T.st_eq (k k' : Int) (z z' : Bool) (ns ns' : List (List UInt8)) (y y' : Bool) (ps ps' : List T) :
    (T.mk k z ns y ps).st = (T.mk k' z' ns' y' ps').st ↔ k = k' ∧ ns = ns' ∧ ps.map T.st = ps'.map T.st := by
  rw [T.st_mk, T.st_mk]; simp

section
variable {P : Program}

theorem Has.slEqS {f : FuncId} (h : Has P f irSlEqS) (H : Hp) (z y : Bool) (a b : List (List UInt8)) (ha : a.length ≤ 1048576) : ACall P f [.d (.sl z 1 (a.map encStr)), .d (.sl y 1 (b.map encStr))] H (fun r H' => r = .d (.bool (decide (a = b))) ∧ H' = H) := by
  obtain ⟨fn, hf, hcf⟩ := h
  refine acall_fin hf hcf (by simp [irSlEqS]) fun hcl _ => ?_
  simp [irSlEqS]
  refine BrK_split (fun h => ?_) (fun h => ?_)
  · have hne : a ≠ b := fun e => by subst e; simp at h
    simp [RetK, cut_self hcl, hne]
  have hl : a.length = b.length := by simp at h; omega
  simp
  refine RangeK_of H.length a.length (fun i fr H' => fr 0 = .d (.sl z 1 (a.map encStr)) ∧ fr 1 = .d (.sl y 1 (b.map encStr)) ∧ a.take i = b.take i ∧ H' = H) (by omega) (by decide) (by simp) (by simp) ?_ ?_ ?_
  · simp [cut_self hcl]
  · rintro i fr H' hi f13 f12 ⟨f0, f1, he, rfl⟩
    have hib : i < b.length := by omega
    have ra := rowAt_map encStr hi
    have rb := rowAt_map encStr hib
    have ta : a.take (i + 1) = a.take i ++ [a[i]] := List.take_succ_eq_append_getElem hi
    have tb : b.take (i + 1) = b.take i ++ [b[i]] := List.take_succ_eq_append_getElem hib
    simp only [encStr] at ra rb
    simp [f13, f0, f1, ra, rb]
    refine BrK_split (fun h => ?_) (fun h => ?_)
    · have hne : a ≠ b := fun e => by subst e; simp at h
      simp
      simp [RetK, cut_self hcl, hne]
    · simp at h
      have tt : a.take (i + 1) = b.take (i + 1) := by rw [ta, tb, he, h]
      simp
      refine NextK_of H'.length (Nat.le_refl _) (by simp [f13, f12]) ?_
      simp [f0, f1, cut_self hcl, tt]
  · rintro fr H' f13 f12 ⟨f0, f1, he, rfl⟩
    have : a = b := by rw [List.take_of_length_le (Nat.le_refl _), hl, List.take_of_length_le (Nat.le_refl _)] at he; exact he
    simp
    simp [RetK, cut_self hcl, this]

/-- what is asked of a function that says whether two types are the same -/
def SameT (P : Program) (f : FuncId) (v : T) : Prop := ∀ (w : T) (H : Hp), ACall P f [v.a, w.a] H (fun r H' => r = .d (.bool (decide (v.st = w.st))) ∧ H' = H)

/-- slices.EqualFunc at types, where what is called is known of the parts -/
theorem Has.tyEqF {f g : FuncId} {t : TypeId} (h : Has P f (irTyEqF t)) (hk : callOk P g = true) (H : Hp) (z y : Bool) (a b : List T) (ha : a.length ≤ 1048576) (hs : ∀ v ∈ a, SameT P g v) :
    ACall P f [.d (.sl z 3 (a.map T.enc)), .d (.sl y 3 (b.map T.enc)), .d (.fn g)] H (fun r H' => r = .d (.bool (decide (a.map T.st = b.map T.st))) ∧ H' = H) := by
  obtain ⟨fn, hf, hcf⟩ := h
  refine acall_fin hf hcf (by simp [irTyEqF]) fun hcl _ => ?_
  simp [irTyEqF]
  refine BrK_split (fun h => ?_) (fun h => ?_)
  · have hne : a.map T.st ≠ b.map T.st := fun e => by have := congrArg List.length e; simp at this h; omega
    simp [RetK, cut_self hcl, hne]
  have hl : a.length = b.length := by simp at h; omega
  simp
  refine RangeK_of H.length a.length (fun i fr H' => fr 0 = .d (.sl z 3 (a.map T.enc)) ∧ fr 1 = .d (.sl y 3 (b.map T.enc)) ∧ fr 2 = .d (.fn g) ∧ fr 15 = .d (.sl z 3 (a.map T.enc)) ∧ (a.map T.st).take i = (b.map T.st).take i ∧ H' = H) (by omega) (by decide) (by simp) (by simp) ?_ ?_ ?_
  · simp [cut_self hcl]
  · rintro i fr H' hi f17 f16 ⟨f0, f1, f2, f15, he, rfl⟩
    have hib : i < b.length := by omega
    have ra := rowAt_map T.enc hi
    have rb := rowAt_map T.enc hib
    have ta := take_map_succ T.st hi
    have tb := take_map_succ T.st hib
    have hx := hs a[i] (List.getElem_mem hi) b[i]
    have hne : a[i].st ≠ b[i].st → a.map T.st ≠ b.map T.st := fun h e => h (by
      have := congrArg (fun l => l[i]?) e
      simpa [hi, hib] using this)
    generalize a[i] = p at ra ta hx hne
    generalize b[i] = q at rb tb hx hne
    cases p with | mk k1 z1 ns1 y1 ps1 =>
    cases q with | mk k2 z2 ns2 y2 ps2 =>
    simp only [T.a_mk, T.enc_mk] at ra rb hx
    simp [f17, f15, f0, f1, f2, ra, rb]
    refine ⟨hk, CallK_of' (hx _) ?_⟩
    simp
    refine BrK_split (fun h => ?_) (fun h => ?_)
    · simp at h
      simp [RetK, cut_app hcl, hne h]
    · simp at h
      have tt : (a.map T.st).take (i + 1) = (b.map T.st).take (i + 1) := by rw [ta, tb, he, h]
      simp
      refine NextK_of H'.length (Nat.le_refl _) (by simp [f17, f16]) ?_
      simp [f0, f1, f2, f15, cut_app hcl]
      simpa using tt
  · rintro fr H' f17 f16 ⟨f0, f1, f2, f15, he, rfl⟩
    have : a.map T.st = b.map T.st := by
      have e1 : (a.map T.st).take a.length = a.map T.st := by rw [List.take_of_length_le (by simp)]
      have e2 : (b.map T.st).take a.length = b.map T.st := by rw [List.take_of_length_le (by simp [hl])]
      rw [e1, e2] at he; exact he
    simp
    simp [RetK, cut_self hcl, this]

theorem Has.tySame {f fs ff : FuncId} {t : TypeId} (h : Has P f (irTySame fs ff f t)) (hs : Has P fs irSlEqS) (he : Has P ff (irTyEqF t)) (hk : callOk P f = true) (v : T) : v.Fit 1048576 → SameT P f v := by
  induction v using T.ind with
  | h k z ns y ps ih =>
  rintro (⟨_, _, _, _, _, b2, b3, b4, b5⟩) w H
  cases w with | mk k' z' ns' y' ps' =>
  have h0 := h
  obtain ⟨fn, hf, hcf⟩ := h
  refine acall_fin hf hcf (by simp [irTySame]) fun hcl _ => ?_
  rw [T.a_mk, T.a_mk]
  by_cases hk' : k = k'
  · simp [irTySame, hk']
    refine CallK_of' (hs.slEqS _ z z' ns ns' b2) ?_
    by_cases hns : ns = ns'
    · simp [hns]
      refine CallK_of' (he.tyEqF hk _ y y' ps ps' b3 (fun v hv => ih v hv (b5 v hv))) ?_
      simp
      simp [RetK, cut_app hcl, T.st_eq, hk', hns]
    · simp [hns]
      simp [RetK, cut_app hcl, T.st_eq, hk', hns]
  · simp [irTySame, hk']
    simp [RetK, cut_app hcl, T.st_eq, hk']

theorem Has.rSame {f : FuncId} {t : TypeId} (h : Has P f (irRSame f t)) (v : T) : v.Fit 1048576 → SameT P f v := by
  induction v using T.ind with
  | h k z ns y ps ih =>
  rintro (⟨_, _, _, _, _, b2, b3, b4, b5⟩) w H
  cases w with | mk k' z' ns' y' ps' =>
  have h0 := h
  obtain ⟨fn, hf, hcf⟩ := h
  refine acall_fin hf hcf (by simp [irRSame]) fun hcl _ => ?_
  rw [T.a_mk, T.a_mk]
  by_cases hk : k = k'
  case neg =>
    simp [irRSame, hk]
    simp [RetK, cut_app hcl, T.st_eq, hk]
  by_cases hl : ns.length = ns'.length
  case neg =>
    have hne : ns ≠ ns' := fun e => hl (by rw [e])
    have hl' : ¬ (ns.length : Int) = ns'.length := by omega
    simp [irRSame, hk, hl, hl']
    simp [RetK, cut_app hcl, T.st_eq, hk, hne]
  by_cases hm : ps.length = ps'.length
  case neg =>
    have hne : ps.map T.st ≠ ps'.map T.st := fun e => hm (by have := congrArg List.length e; simpa using this)
    have hm' : ¬ (ps.length : Int) = ps'.length := by omega
    simp [irRSame, hk, hl, hm, hm']
    simp [RetK, cut_app hcl, T.st_eq, hk, hne]
  simp [irRSame, hk, hl, hm]
  generalize hB : H ++ [Ob.box t [A.d (D.int IntKind.i64 k'), A.d (D.sl z 1 (List.map encStr ns)), A.d (D.sl y 3 (List.map T.enc ps))],
    Ob.box t [A.d (D.int IntKind.i64 k'), A.d (D.sl z' 1 (List.map encStr ns')), A.d (D.sl y' 3 (List.map T.enc ps'))]] = B
  have hB0 : B[H.length]? = some (Ob.box t [A.d (D.int IntKind.i64 k'), A.d (D.sl z 1 (List.map encStr ns)), A.d (D.sl y 3 (List.map T.enc ps))]) := by rw [← hB]; simp
  have hB1 : B[H.length + 1]? = some (Ob.box t [A.d (D.int IntKind.i64 k'), A.d (D.sl z' 1 (List.map encStr ns')), A.d (D.sl y' 3 (List.map T.enc ps'))]) := by rw [← hB]; simp
  have hBl : B.length = H.length + 2 := by rw [← hB]; simp
  have hBc : Hp.cut (H.length + 2) B = B := by rw [← hB, cut_appk hcl]; simp
  have hBz : Hp.cut H.length B = H := by rw [← hB, cut_app hcl]
  refine ForK_of (H.length + 2) ns.length (fun i fr H' => fr 2 = .ptr H.length 0 ∧ fr 3 = .ptr (H.length + 1) 0 ∧ ns.take i = ns'.take i ∧ H' = B) (by omega) (by decide) (by simp [hBl]) (by simp) ?_ ?_
  · simp [hBc]
  rintro i fr H' hi f5 ⟨f2, f3, he, rfl⟩
  simp [f5, f2, f3, hB0]
  refine BrK_split (fun h => ?_) (fun h => ?_)
  · have hlt : i < ns.length := by simp at h; omega
    have hlt' : i < ns'.length := by omega
    have ra := rowAt_map encStr hlt
    have rb := rowAt_map encStr hlt'
    have ta : ns.take (i + 1) = ns.take i ++ [ns[i]] := List.take_succ_eq_append_getElem hlt
    have tb : ns'.take (i + 1) = ns'.take i ++ [ns'[i]] := List.take_succ_eq_append_getElem hlt'
    simp only [encStr] at ra rb
    simp [f5, f2, f3, hB0, hB1, ra, rb]
    refine BrK_split (fun h => ?_) (fun h => ?_)
    · have hne : ns ≠ ns' := fun e => by subst e; simp at h
      simp
      simp [RetK, hBz, hBl, T.st_eq, hne]
    · simp at h
      have tt : ns.take (i + 1) = ns'.take (i + 1) := by rw [ta, tb, he, h]
      simp
      refine NextF_of (H.length + 2) (Nat.le_refl _) hlt (by simp [hBl, f5]) ?_
      simp [f2, f3, hBc, tt]
  have hii : i = ns.length := by simp at h; omega
  have hns : ns = ns' := by
    rw [hii, List.take_of_length_le (Nat.le_refl _), hl, List.take_of_length_le (Nat.le_refl _)] at he; exact he
  simp
  refine ForK_of (H.length + 2) ps.length (fun i fr H2 => fr 2 = .ptr H.length 0 ∧ fr 3 = .ptr (H.length + 1) 0 ∧ (ps.map T.st).take i = (ps'.map T.st).take i ∧ H2 = H') (by omega) (by decide) (by simp [hBl]) (by simp) ?_ ?_
  · simp [hBc, f2, f3]
  rintro j fr2 H2 hj f6 ⟨f2, f3, hf, rfl⟩
  simp [f6, f2, f3, hB0]
  refine BrK_split (fun h => ?_) (fun h => ?_)
  · have hlt : j < ps.length := by simp at h; omega
    have hlt' : j < ps'.length := by omega
    have ra := rowAt_map T.enc hlt
    have rb := rowAt_map T.enc hlt'
    have ta := take_map_succ T.st hlt
    have tb := take_map_succ T.st hlt'
    have hx := ih ps[j] (List.getElem_mem hlt) (b5 _ (List.getElem_mem hlt)) ps'[j] H2
    have hne : ps[j].st ≠ ps'[j].st → ps.map T.st ≠ ps'.map T.st := fun h e => h (by
      have := congrArg (fun l => l[j]?) e
      simpa [hlt, hlt'] using this)
    generalize ps[j] = p at ra ta hx hne
    generalize ps'[j] = q at rb tb hx hne
    cases p with | mk k1 z1 ns1 y1 ps1 =>
    cases q with | mk k2 z2 ns2 y2 ps2 =>
    simp only [T.a_mk, T.enc_mk] at ra rb hx
    simp [f6, f2, f3, hB0, hB1, ra, rb]
    refine CallD_of hx ?_
    simp
    refine BrK_split (fun h => ?_) (fun h => ?_)
    · simp at h
      have hne := hne h
      simp
      simp [RetK, hBz, hBl, T.st_eq, hne]
    · simp at h
      have tt : (ps.map T.st).take (j + 1) = (ps'.map T.st).take (j + 1) := by rw [ta, tb, hf, h]
      simp
      refine NextF_of (H.length + 2) (Nat.le_refl _) hlt (by simp [hBl, f6]) ?_
      simp [f2, f3, hBc, tt]
  have hjj : j = ps.length := by simp at h; omega
  have hps : ps.map T.st = ps'.map T.st := by
    rw [hjj, List.take_of_length_le (by simp), List.take_of_length_le (by simp [hm])] at hf; exact hf
  simp
  simp [RetK, hBz, hBl, T.st_eq, hk, hns, hps]

end
end Go.Zam

namespace Go.Zam
set_option linter.all false
set_option maxRecDepth 100000
set_option maxHeartbeats 1000000

def T.nil : T := .mk 0 true [] true []
/-- a label with its type -/
abbrev Lt := Str' × T
def cP (a b : Lt) : Int := cmpStr a.1 b.1
theorem cP_cmp : Cmp cP := cmpStr_cmp.on Prod.fst
/-- two neighbours of one name -/
def Dup (S : List Lt) : Prop := ∃ (j : Nat) (a b : Lt), S[j]? = some a ∧ S[j + 1]? = some b ∧ a.1 = b.1

theorem cP_lt {a b : Lt} : cP a b < 0 ↔ Op.bytesLess a.1 b.1 = true := cmpStr_lt
theorem cP_zero {a b : Lt} : cP a b = 0 ↔ a.1 = b.1 := cmpStr_zero

theorem strict_of : ∀ {S : List Lt}, Sorted cP S → ¬ Dup S → (S.map Prod.fst).Nodup
  | [], _, _ => by simp
  | a :: r, hs, hd => by
    obtain ⟨h1, h2⟩ := Sorted.cons.1 hs
    have hd' : ¬ Dup r := fun ⟨j, x, y, hx, hy, e⟩ => hd ⟨j + 1, x, y, by simpa using hx, by simpa using hy, e⟩
    have ih := strict_of h2 hd'
    rw [List.map_cons, List.nodup_cons]
    refine ⟨fun hm => ?_, ih⟩
    obtain ⟨y, hy, e⟩ := List.mem_map.1 hm
    cases r with
    | nil => simp at hy
    | cons b r =>
      have hab : cP a b < 0 := by
        have h3 := h1 b (by simp)
        have h4 : cP a b ≠ 0 := fun h => hd ⟨0, a, b, rfl, rfl, cP_zero.1 h⟩
        omega
      have hay : cP a y < 0 := by
        rcases List.mem_cons.1 hy with rfl | hy'
        · exact hab
        · exact cP_cmp.lt_le hab ((Sorted.cons.1 h2).1 y hy')
      have := cP_zero.2 (show a.1 = y.1 from e.symm)
      omega

theorem dup_iff (L : List Lt) : Dup (ssort cP L) ↔ ¬ (L.map Prod.fst).Nodup := by
  have hp := (ssort_perm cP_cmp L).map Prod.fst
  constructor
  · rintro ⟨j, a, b, ha, hb, e⟩ hn
    have hn' := (hp.nodup_iff).1 hn
    have h1 : ((ssort cP L).map Prod.fst)[j]? = some a.1 := by simp [ha]
    have h2 : ((ssort cP L).map Prod.fst)[j + 1]? = some b.1 := by simp [hb]
    obtain ⟨l1, g1⟩ := List.getElem?_eq_some_iff.1 h1
    obtain ⟨l2, g2⟩ := List.getElem?_eq_some_iff.1 h2
    exact List.pairwise_iff_getElem.1 hn' j (j + 1) l1 l2 (by omega) (by rw [g1, g2, e])
  · intro hn
    refine Classical.byContradiction fun hd => hn ?_
    exact (hp.nodup_iff).2 (strict_of (ssort_spec cP_cmp L).1 hd)

open Classical in
/-- what Record yields -/
noncomputable def recT (ns : List Str') (ps : List T) : T × Int :=
  if ns.length = ps.length then
    if Dup (ssort cP (ns.zip ps)) then (T.nil, 40) else (.new 3 ((ssort cP (ns.zip ps)).map Prod.fst) ((ssort cP (ns.zip ps)).map Prod.snd), 0)
  else (T.nil, 1)

end Go.Zam

namespace Go.Zam
set_option linter.all false
set_option maxRecDepth 100000
set_option maxHeartbeats 1000000
open Classical

section
variable {P : Program}

theorem Has.slIsNaN {f : FuncId} (h : Has P f irSlIsNaN) (s : Str') (H : Hp) : ACall P f [.d (.str s)] H (fun r H' => r = .d (.bool false) ∧ H' = H) := by
  obtain ⟨fn, hf, hcf⟩ := h
  refine acall_fin hf hcf (by simp [irSlIsNaN]) fun hcl _ => ?_
  simp [irSlIsNaN]
  simp [RetK, cut_self hcl]

theorem Has.cmpLess {f fn : FuncId} (h : Has P f (irCmpLess fn)) (hn : Has P fn irSlIsNaN) (a b : Str') (H : Hp) : ACall P f [.d (.str a), .d (.str b)] H (fun r H' => r = .d (.bool (Op.bytesLess a b)) ∧ H' = H) := by
  obtain ⟨fn, hf, hcf⟩ := h
  refine acall_fin hf hcf (by simp [irCmpLess]) fun hcl _ => ?_
  simp [irCmpLess]
  refine CallK_of' (hn.slIsNaN a _) ?_
  simp
  simp [RetK, cut_self hcl]

theorem inc_lt {ns : List Str'} (h : Ty.Inc ns) : ∀ {i j : Nat} {x y : Str'}, ns[i]? = some x → ns[j]? = some y → i < j → Op.bytesLess x y = true := by
  induction ns with
  | nil => intro i j x y hi; simp at hi
  | cons a r ih =>
    intro i j x y hi hj hij
    cases i with
    | zero =>
      simp at hi
      subst hi
      obtain ⟨q, rfl⟩ : ∃ q, j = q + 1 := ⟨j - 1, by omega⟩
      exact h.lt y (List.mem_of_getElem? (by simpa using hj))
    | succ i =>
      obtain ⟨q, rfl⟩ : ∃ q, j = q + 1 := ⟨j - 1, by omega⟩
      exact ih h.tail (by simpa using hi) (by simpa using hj) (by omega)

def binM : Fr → Hp → Nat := fun fr _ => match fr 7, fr 8 with | .d (.int _ a), .d (.int _ b) => (b - a).toNat | _, _ => 0

theorem Has.slBins {f fl fn : FuncId} (h : Has P f (irSlBins fl fn)) (hl : ∀ a b H, ACall P fl [.d (.str a), .d (.str b)] H (fun r H' => r = .d (.bool (Op.bytesLess a b)) ∧ H' = H)) (hn : Has P fn irSlIsNaN)
    (z : Bool) (ns : List Str') (x : Str') (hi : Ty.Inc ns) (hlen : ns.length ≤ 1048576) (H : Hp) :
    ACall P f [.d (.sl z 1 (ns.map encStr)), .d (.str x)] H (fun r H' => (∃ i : Nat, r = .tup [.d (.int .i64 (i : Int)), .d (.bool (decide (x ∈ ns)))] ∧ (x ∈ ns → ns[i]? = some x)) ∧ H' = H) := by
  obtain ⟨fn, hf, hcf⟩ := h
  refine acall_fin hf hcf (by simp [irSlBins]) fun hcl _ => ?_
  simp [irSlBins]
  refine LoopK_of H.length (fun fr H' => ∃ i j : Nat, i ≤ j ∧ j ≤ ns.length ∧ fr 0 = .d (.sl z 1 (ns.map encStr)) ∧ fr 1 = .d (.str x) ∧ fr 6 = .d (.int .i64 (ns.length : Int)) ∧ fr 7 = .d (.int .i64 (i : Int)) ∧ fr 8 = .d (.int .i64 (j : Int)) ∧
    (∀ (k : Nat) (y : Str'), k < i → ns[k]? = some y → Op.bytesLess y x = true) ∧ (∀ (k : Nat) (y : Str'), j ≤ k → ns[k]? = some y → Op.bytesLess y x = false) ∧ H' = H) binM (by simp) ?_ ?_
  · refine ⟨0, ns.length, Nat.zero_le _, Nat.le_refl _, by simp, by simp, by simp, by simp, by simp, fun k y hk => by omega, fun k y hk e => ?_, cut_self hcl⟩
    have := (List.getElem?_eq_some_iff.1 e).1
    omega
  rintro fr H' ⟨i, j, hij, hjn, f0, f1, f6, f7, f8, hlo, hhi, rfl⟩
  simp [f7, f8]
  refine BrK_split (fun h => ?_) (fun h => ?_)
  · have hlt : i < j := by simpa using h
    have hw : IntKind.i64.wrap ((i : Int) + j) = ((i + j : Nat) : Int) := by rw [wrap_i64 (by omega) (by omega)]; omega
    have hw2 : IntKind.u64.wrap ((i + j : Nat) : Int) = ((i + j : Nat) : Int) := wrap_u64 (by omega) (by omega)
    have hs : shOp .shr .u64 (((i + j : Nat) : Int)) 1 = some (.int .u64 (((i + j) / 2 : Nat) : Int)) := by
      simp only [shOp, IntKind.bits]
      rw [if_neg (by decide)]
      show some (D.int IntKind.u64 (Int.fdiv ((i + j : Nat) : Int) (2 ^ 1))) = _
      rw [Int.fdiv_eq_ediv_of_nonneg _ (by decide)]
      norm_cast
    have hw3 : IntKind.i64.wrap (((i + j) / 2 : Nat) : Int) = (((i + j) / 2 : Nat) : Int) := wrap_i64 (by omega) (by omega)
    have hm1 : (i + j) / 2 < j := by omega
    have hm2 : i ≤ (i + j) / 2 := by omega
    generalize (i + j) / 2 = m at hs hw3 hm1 hm2
    generalize i + j = ij at hw hw2 hs
    have hmn : m < ns.length := by omega
    have hr := rowAt_map encStr hmn
    have hg : ns[m]? = some ns[m] := List.getElem?_eq_getElem hmn
    generalize ns[m] = y at hr hg
    simp only [encStr] at hr
    simp [f0, f1, f7, f8, hw, hw2, hs, hw3, encStr, hr]
    refine CallK_of' (hl _ _ _) ?_
    simp
    refine BrK_split (fun h2 => ?_) (fun h2 => ?_)
    · have hw4 : IntKind.i64.wrap ((m : Int) + 1) = ((m + 1 : Nat) : Int) := by rw [wrap_i64 (by omega) (by omega)]; omega
      simp [hw4]
      refine AgainK_of (m := H'.length) (by simp) ⟨m + 1, j, by omega, hjn, by simp [f0], by simp [f1], by simp [f6], by simp, by simp [f8], fun k y' hk e => ?_, hhi, cut_self hcl⟩ ?_
      · rcases Nat.lt_or_ge k m with hlt' | hge
        · exact bl_trans _ _ _ (inc_lt hi e hg hlt') h2
        · have : k = m := by omega
          subst this
          rw [hg] at e
          cases e
          exact h2
      · simp [binM, f7, f8]; omega
    · simp
      refine AgainK_of (m := H'.length) (by simp) ⟨i, m, by omega, by omega, by simp [f0], by simp [f1], by simp [f6], by simp [f7], by simp, hlo, fun k y' hk e => ?_, cut_self hcl⟩ ?_
      · rcases Nat.lt_or_ge m k with hlt' | hge
        · refine Bool.eq_false_iff.2 fun h3 => ?_
          have := bl_trans _ _ _ (inc_lt hi hg e hlt') h3
          rw [h2] at this; cases this
        · have : k = m := by omega
          subst this
          rw [hg] at e
          cases e
          exact h2
      · simp [binM, f7, f8]; omega
  · have hij2 : i = j := by have : ¬ i < j := by simpa using h
                            omega
    subst hij2
    simp [f0, f1, f6, f7]
    have hmem : x ∈ ns → ns[i]? = some x := fun hm => by
      obtain ⟨q, hq⟩ := List.getElem?_of_mem hm
      rcases Nat.lt_trichotomy q i with h1 | h1 | h1
      · have := hlo q x h1 hq; rw [bl_irrefl] at this; cases this
      · rw [← h1]; exact hq
      · have hil : i < ns.length := by have := (List.getElem?_eq_some_iff.1 hq).1; omega
        have hgi : ns[i]? = some ns[i] := List.getElem?_eq_getElem hil
        have h2 := inc_lt hi hgi hq h1
        have h3 := hhi i _ (Nat.le_refl _) hgi
        rw [h2] at h3; cases h3
    refine GdK_split (by simp) (fun h1 => ?_) (fun h1 => ?_)
    · have hil : i < ns.length := by simpa using h1
      have hr := rowAt_map encStr hil
      have hg : ns[i]? = some ns[i] := List.getElem?_eq_getElem hil
      generalize ns[i] = y at hr hg
      simp only [encStr] at hr
      simp [f0, f1, f7, encStr, hr]
      by_cases hyx : y = x
      · subst hyx
        have hin : y ∈ ns := List.mem_of_getElem? hg
        simp
        simp [RetK, cut_self hcl, hin, f7]
        exact ⟨i, rfl, hg⟩
      · have hin : x ∉ ns := fun hm => by rw [hmem hm] at hg; cases hg; exact hyx rfl
        simp [hyx, f0, f7, encStr, hr]
        refine CallK_of' (hn.slIsNaN _ _) ?_
        simp
        simp [RetK, cut_self hcl, hin, f7]
        exact ⟨i, rfl⟩
    · have hge : ¬ i < ns.length := by simpa using h1
      have hin : x ∉ ns := fun hm => hge (List.getElem?_eq_some_iff.1 (hmem hm)).1
      simp
      simp [RetK, cut_self hcl, hin, f7]
      exact ⟨i, rfl⟩

end

/-- the part of a label -/
def lookT (x : Str') : List Str' → List T → Option T
  | y :: ns, p :: ps => if y = x then some p else lookT x ns ps
  | _, _ => none

theorem lookT_st (x : Str') : ∀ (ns : List Str') (ps : List T), (lookT x ns ps).map T.st = Ty.look x ns (ps.map T.st)
  | [], _ => rfl
  | _ :: _, [] => rfl
  | y :: ns, p :: ps => by
    rw [lookT, List.map_cons, Ty.look]
    split
    · rfl
    · exact lookT_st x ns ps
theorem lookT_at {x : Str'} : ∀ {ns : List Str'} {ps : List T} {i : Nat} {p : T}, Ty.Inc ns → ns[i]? = some x → ps[i]? = some p → lookT x ns ps = some p
  | [], _, i, _, _, h, _ => by simp at h
  | _ :: _, [], i, _, _, _, h => by simp at h
  | y :: ns, q :: ps, i, p, hi, h1, h2 => by
    rw [lookT]
    cases i with
    | zero =>
      simp at h1 h2
      rw [if_pos h1, h2]
    | succ i =>
      simp at h1 h2
      rw [if_neg (fun e => by subst e; exact hi.notMem (List.mem_of_getElem? h1))]
      exact lookT_at hi.tail h1 h2
theorem lookT_none {x : Str'} : ∀ {ns : List Str'} {ps : List T}, x ∉ ns → lookT x ns ps = none
  | [], _, _ => rfl
  | _ :: _, [], _ => rfl
  | y :: ns, q :: ps, h => by
    rw [lookT, if_neg (fun e => h (by simp [e]))]
    exact lookT_none fun hm => h (by simp [hm])
theorem lookT_some {x : Str'} {p : T} : ∀ {ns : List Str'} {ps : List T}, lookT x ns ps = some p → ∃ i : Nat, ns[i]? = some x ∧ ps[i]? = some p
  | [], _, h => by simp [lookT] at h
  | _ :: _, [], h => by simp [lookT] at h
  | y :: ns, q :: ps, h => by
    rw [lookT] at h
    split at h
    · rename_i e
      exact ⟨0, by simp [e], by simpa using h⟩
    · obtain ⟨i, h1, h2⟩ := lookT_some h
      exact ⟨i + 1, by simpa using h1, by simpa using h2⟩

/-- the part of a record's label, if it is one, and has it -/
def T.fld (x : Str') : T → Option T
  | .mk k _ ns _ ps => if k = 3 then lookT x ns ps else none

theorem T.a_nil : T.nil.a = .agg [.d (.int .i64 0), .d (.sl true 1 []), .d (.sl true 3 [])] := rfl

/-- what is asked of a function that yields the part of a label -/
def FieldT (P : Program) (f : FuncId) : Prop := ∀ (v : T), v.Fit 1048576 → v.st.Rt → ∀ (x : Str') (H : Hp), ACall P f [v.a, .d (.str x)] H (fun r H' => r = .tup [((v.fld x).getD T.nil).a, .d (.bool (v.fld x).isSome)] ∧ H' = H)

section
variable {P : Program}

theorem Has.tyField {f fb : FuncId} {t : TypeId} (h : Has P f (irTyField fb t)) (hb : ∀ (z : Bool) (ns : List Str') (x : Str'), Ty.Inc ns → ns.length ≤ 1048576 → ∀ H,
    ACall P fb [.d (.sl z 1 (ns.map encStr)), .d (.str x)] H (fun r H' => (∃ i : Nat, r = .tup [.d (.int .i64 (i : Int)), .d (.bool (decide (x ∈ ns)))] ∧ (x ∈ ns → ns[i]? = some x)) ∧ H' = H)) : FieldT P f := by
  intro v hv hr x H
  obtain ⟨k, z, ns, y, ps⟩ := v
  cases hv with | mk _ _ _ _ _ b2 b3 b4 b5 =>
  rw [T.st_mk] at hr
  obtain ⟨fn, hf, hcf⟩ := h
  refine acall_fin hf hcf (by simp [irTyField]) fun hcl _ => ?_
  rw [T.a_mk]
  by_cases hk : k = 3
  case neg =>
    simp [irTyField, hk]
    simp [RetK, cut_app hcl, T.fld, hk, T.a_nil]
  have hlen : ns.length = ps.length := by simpa using hr.len hk
  simp [irTyField, hk]
  refine CallK_of (hb z ns x hr.inc b2 _) ?_
  rintro r H' ⟨⟨i, rfl, hi⟩, rfl⟩
  by_cases hm : x ∈ ns
  · have hx := hi hm
    have hil : i < ps.length := by have := (List.getElem?_eq_some_iff.1 hx).1; omega
    have hp : ps[i]? = some ps[i] := List.getElem?_eq_getElem hil
    have hra := rowAt_map T.enc hil
    have hlk := lookT_at (ps := ps) hr.inc hx hp
    have hge : ¬ (ps.length : Int) ≤ (i : Int) := by omega
    generalize ps[i] = p at hp hra hlk
    obtain ⟨k1, z1, ns1, y1, ps1⟩ := p
    rw [T.enc_mk] at hra
    simp [hm, hge, hra]
    simp [RetK, cut_app hcl, T.fld, hlk, T.a_mk]
  · have hlk := lookT_none (ps := ps) hm
    simp [hm]
    simp [RetK, cut_app hcl, T.fld, hlk, T.a_nil]

end
end Go.Zam

namespace Go.Zam
open Go.RowKit (Below)
open Go.Proofs Go.Sort
set_option linter.all false
set_option maxRecDepth 100000
set_option maxHeartbeats 1000000

/-- what the library's contract of Compact says -/
def CompactStr (P : Program) (f : FuncId) : Prop :=
  (∀ (blk off cap : Nat) (ss : List (List UInt8)) (w : World), Holds Go.Proofs.encStr w blk off ss.toArray → ss.length ≤ 9223372036854775807 → ss.length ≤ cap →
    Calls P f #[.slice (some ⟨blk, off, none⟩) ss.length cap] w fun e w' => e = .returned (.slice (some ⟨blk, off, none⟩) (Lib.compact ss).length cap) ∧ ∃ q, w' = putRow Go.Proofs.encStr (Go.Sort.ahead w q) blk off (Lib.compact ss ++ List.replicate (ss.length - (Lib.compact ss).length) []).toArray) ∧
  ∀ (a : Option Addr) (cap : Nat) (w : World), Calls P f #[.slice a 0 cap] w fun e w' => e = .returned (.slice a 0 cap) ∧ w' = w

theorem compact_len_le (L : List (List UInt8)) : (Lib.compact L).length ≤ L.length := by
  unfold Lib.compact Lib.compactUpTo
  rw [List.length_map]
  exact Nat.le_trans (List.length_filter_le _ _) (by simp)
theorem compact_pos {L : List (List UInt8)} (h : L ≠ []) : 0 < (Lib.compact L).length := by
  have hpos := List.length_pos_iff.2 h
  unfold Lib.compact Lib.compactUpTo
  rw [List.length_map, List.length_pos_iff]
  intro e
  have : (0 : Nat) ∈ (List.range L.length).filter (Lib.keeps L.toArray) := List.mem_filter.2 ⟨List.mem_range.2 hpos, by simp [Lib.keeps]⟩
  rw [e] at this; cases this

theorem compact_acall {P : Program} {f : FuncId} (hC : CompactStr P f) {L : List (List UInt8)} (hne : L ≠ []) (hl : L.length ≤ 1048576) {H : Hp} {i : Nat} (hi : H[i]? = some (.arr 1 (strRows L))) :
    ACall P f [.msl i 0 L.length] H (fun r H' => r = .msl i 0 (Lib.compact L).length ∧ ∃ rows, H' = H.set i (.arr 1 rows)) := by
  intro κ w vs hr hvl hv
  match vs, hvl with
  | [v], _ =>
  have hv0 := hv 0 v _ rfl rfl
  have hpos : 0 < L.length := List.length_pos_iff.2 hne
  cases hv0 with
  | msl _ _ _ b sz o cap hb hcl ho hz =>
  obtain ⟨b', s', hβ', hsh, hc⟩ := hr.ob i _ hi
  obtain ⟨rfl, rfl⟩ : b = b' ∧ sz = 1 := by
    rcases hb with ⟨s, hb⟩ | hb
    · rw [hβ'] at hb; cases hb; exact ⟨rfl, rfl⟩
    · rw [hβ'] at hb; cases hb
  have ho' : o = 0 := by have := ho hpos; omega
  subst ho'
  have hH0 : ∀ n, Holds Go.Proofs.encStr (Go.Sort.ahead w n) b 0 L.toArray := fun n j hj => by
    have hj' : j < L.length := by simpa using hj
    have hrow : (strRows L)[j]? = some [.d (.str L[j])] := by rw [strRows, List.getElem?_map, List.getElem?_eq_getElem hj']; rfl
    obtain ⟨-, h2⟩ := hc j _ hrow
    obtain ⟨u, u1, u2, u3⟩ := h2 0 _ rfl
    have := u3.d_inv.str_inv
    subst this
    rw [Nat.mul_one, Nat.add_zero] at u1 u2
    rw [Nat.zero_add]
    refine ⟨?_, u2⟩
    rw [cell?_ahead, u1]
    simp [Go.Proofs.encStr, getElem!_pos, hj']
  refine (hC.1 b 0 cap L w (hH0 0) (by omega) hcl).mono ?_
  rintro e w' ⟨rfl, n, rfl⟩
  have h1 : HR κ H (Go.Sort.ahead w n) := hr.later (below_ahead w n)
  have hle := compact_len_le L
  have hml : (Lib.compact L ++ List.replicate (L.length - (Lib.compact L).length) ([] : List UInt8)).length = L.length := by simp; omega
  have h2 := h1.putRows hi hβ' hml (hH0 n) L.length (Nat.le_refl _)
  rw [List.take_of_length_le (by omega), List.drop_of_length_le (Nat.le_refl _), List.append_nil] at h2
  have hp := compact_pos hne
  exact ⟨_, κ, _, _, rfl, K.le_refl κ, h2, .msl _ _ _ b 1 0 cap (.inl ⟨_, hβ'⟩) (by omega) (fun _ => by omega) (fun h0 => by omega), rfl, _, rfl⟩

theorem compact0_acall {P : Program} {f : FuncId} (hC : CompactStr P f) {H : Hp} : ACall P f [.d (.sl true 1 [])] H (fun r H' => r = .d (.sl true 1 []) ∧ H' = H) := by
  intro κ w vs hr hvl hv
  match vs, hvl with
  | [v], _ =>
  have hd := (hv 0 v _ rfl rfl).d_inv
  have hn1 : v = .slice none 0 0 := by
    rcases hd.sl_inv with ⟨h1, -⟩ | ⟨_, _, _, h1, -⟩ | ⟨_, _, _, _, _, h1, -⟩
    · exact h1
    · cases h1
    · exact absurd rfl (h1 rfl)
  subst hn1
  refine (hC.2 none 0 w).mono ?_
  rintro e w' ⟨rfl, rfl⟩
  exact ⟨_, κ, _, _, rfl, K.le_refl κ, hr, .d (.nilsl 1), rfl, rfl⟩

theorem sort0_acall {P : Program} {f : FuncId} (hC : ∀ (a : Option Addr) (cap : Nat) (w : World), Calls P f #[.slice a 0 cap] w fun e w' => e = .returned (.tuple #[]) ∧ w' = w) {H : Hp} : ACall P f [.d (.sl true 1 [])] H (fun r H' => r = .tup [] ∧ H' = H) := by
  intro κ w vs hr hvl hv
  match vs, hvl with
  | [v], _ =>
  have hd := (hv 0 v _ rfl rfl).d_inv
  have hn1 : v = .slice none 0 0 := by
    rcases hd.sl_inv with ⟨h1, -⟩ | ⟨_, _, _, h1, -⟩ | ⟨_, _, _, _, _, h1, -⟩
    · exact h1
    · cases h1
    · exact absurd rfl (h1 rfl)
  subst hn1
  refine (hC none 0 w).mono ?_
  rintro e w' ⟨rfl, rfl⟩
  exact ⟨_, κ, _, _, rfl, K.le_refl κ, hr, .tup [] [] rfl (by simp), rfl, rfl⟩

/-- texts, sorted -/
def msort (L : List Str') : List Str' := L.mergeSort fun x y => decide (x ≤ y)

section
variable {P : Program}

def irSlCollect (c1 : Nat) : IFn :=
 { nt := 5, res := [.t 2], body := (
  .seq (.ops [
    ⟨(some 2), none, .mv (.c (.sl true 1 []))⟩] false)
  (.seq (.ops [
    ⟨(some 3), none, .mv (.t 0)⟩,
    ⟨(some 4), none, .call c1 [(.c (.sl true 1 [])), (.t 3)]⟩,
    ⟨(some 2), none, .mv (.t 4)⟩] false)
  (.ret))) }

theorem Has.slValues {f g : FuncId} {t : TypeId} (h : Has P f (irSlValues g t)) (z : Bool) (L : List Str') (H : Hp) :
    ACall P f [.d (.sl z 1 (L.map encStr))] H (fun r H' => r = .fn (.func g) [] [.ptr H.length 0] ∧ H' = H ++ [.box t [.d (.sl z 1 (L.map encStr))]]) := by
  obtain ⟨fn, hf, hcf⟩ := h
  refine acall_fink 1 hf hcf (by simp [irSlValues]) fun hcl _ => ?_
  simp [irSlValues]
  simp [RetK, cut_appk hcl, A.lo]

theorem Has.slCollect {f fa g : FuncId} (h : Has P f (irSlCollect fa)) (hC : CollectStr P fa g) {L : List Str'} (hl : L.length ≤ 1048576) {H : Hp} {i bt : Nat} {z : Bool} (hi : H[i]? = some (.box bt [.d (.sl z 1 (L.map encStr))])) :
    ACall P f [.fn (.func g) [] [.ptr i 0]] H (fun r H' => (L = [] ∧ r = .d (.sl true 1 []) ∧ H' = H) ∨ (L ≠ [] ∧ r = .msl H.length 0 L.length ∧ H' = H ++ [.arr 1 (strRows L)])) := by
  obtain ⟨fn, hf, hcf⟩ := h
  by_cases hL : L = []
  · refine acall_fin hf hcf (by simp [irSlCollect]) fun hcl _ => ?_
    simp [irSlCollect]
    refine CallK_of (collect_acall hC hl hi) ?_
    rintro x H' (⟨-, rfl, rfl⟩ | ⟨hne, -⟩)
    · simp
      simp [RetK, cut_self hcl, hL]
    · exact absurd hL hne
  · refine acall_fink 1 hf hcf (by simp [irSlCollect]) fun hcl _ => ?_
    simp [irSlCollect]
    refine CallK_of (collect_acall hC hl hi) ?_
    rintro x H' (⟨h0, -⟩ | ⟨hne, rfl, rfl⟩)
    · exact absurd h0 hL
    · simp
      simp [RetK, cut_appk hcl, hL, strRows]

theorem Has.slSorted {f fc fs fa g : FuncId} (h : Has P f (irSlSorted fc fs)) (hc : Has P fc (irSlCollect fa)) (hC : CollectStr P fa g) (hS : SortStr P fs)
    (hS0 : ∀ (a : Option Addr) (cap : Nat) (w : World), Calls P fs #[.slice a 0 cap] w fun e w' => e = .returned (.tuple #[]) ∧ w' = w) {L : List Str'} (hl : L.length ≤ 1048576) {H : Hp} {i bt : Nat} {z : Bool} (hi : H[i]? = some (.box bt [.d (.sl z 1 (L.map encStr))])) :
    ACall P f [.fn (.func g) [] [.ptr i 0]] H (fun r H' => r = .d (.sl L.isEmpty 1 ((msort L).map encStr)) ∧ H' = H) := by
  obtain ⟨fn, hf, hcf⟩ := h
  by_cases hL : L = []
  · refine acall_fin hf hcf (by simp [irSlSorted]) fun hcl _ => ?_
    simp [irSlSorted]
    refine CallK_of (hc.slCollect hC hl hi) ?_
    rintro x H' (⟨-, rfl, rfl⟩ | ⟨hne, -⟩)
    · simp
      refine CallK_of' (sort0_acall hS0) ?_
      simp
      simp [RetK, cut_self hcl, hL, msort]
    · exact absurd hL hne
  · have hlen : (msort L).length = L.length := List.length_mergeSort L
    have he : L.isEmpty = false := by simpa using hL
    rw [he]
    refine ACall.freeze (k := 0) (X := [.arr 1 (strRows (msort L))]) (by simp [strRows, encStr]) ?_
    refine acall_fink 1 hf hcf (by simp [irSlSorted]) fun hcl _ => ?_
    simp [irSlSorted]
    refine CallK_of (hc.slCollect hC hl hi) ?_
    rintro x H' (⟨h0, -⟩ | ⟨hne, rfl, rfl⟩)
    · exact absurd h0 hL
    · simp
      refine CallK_of' (sortStr_acall hS hL (by omega) (H := H ++ [.arr 1 (strRows L)]) (i := H.length) (by simp)) ?_
      simp
      simp [RetK, cut_appk hcl, strRows, hlen, msort]

theorem Has.idxAt {f : FuncId} (h : Has P f irSlIdx) (z : Bool) (ns : List Str') (x : Str') (hx : x ∈ ns) (hn : ns.length ≤ 1048576) (H : Hp) : ACall P f [.d (.sl z 1 (ns.map encStr)), .d (.str x)] H (fun r H' => r = .d (.int .i64 (ns.idxOf x : Nat)) ∧ H' = H) := by
  obtain ⟨fn, hf, hcf⟩ := h
  refine acall_fin hf hcf (by simp [irSlIdx]) fun hcl _ => ?_
  simp [irSlIdx]
  refine RangeK_of H.length ns.length (fun i fr H' => fr 0 = .d (.sl z 1 (ns.map encStr)) ∧ fr 1 = .d (.str x) ∧ x ∉ ns.take i ∧ H' = H) (by omega) (by decide) (by simp) (by simp) ?_ ?_ ?_
  · simp [cut_self hcl]
  · rintro i fr H' hi f8 f7 ⟨f0, f1, hni, rfl⟩
    have hr := rowAt_map encStr hi
    have hd : ns.drop i = ns[i] :: ns.drop (i + 1) := List.drop_eq_getElem_cons hi
    have ht : ns.take (i + 1) = ns.take i ++ [ns[i]] := List.take_succ_eq_append_getElem hi
    have hsplit : ns = ns.take i ++ ns[i] :: ns.drop (i + 1) := by rw [← hd, List.take_append_drop]
    generalize ns[i] = y at hr hd ht hsplit
    simp only [encStr] at hr
    by_cases hxy : x = y
    · subst hxy
      have hix : ns.idxOf x = i := by
        have e1 : (ns.take i ++ x :: ns.drop (i + 1)).idxOf x = i := by
          rw [List.idxOf_append, if_neg hni]
          simp; omega
        rw [← hsplit] at e1; exact e1
      simp [f8, f0, f1, encStr, hr]
      simp [RetK, cut_self hcl, hix]
    · simp [f8, f0, f1, encStr, hr, hxy]
      refine NextK_of H'.length (Nat.le_refl _) (by simp [f8, f7]) ?_
      have : x ∉ ns.take (i + 1) := by rw [ht]; simp [hni, hxy]
      simp [f0, f1, cut_self hcl, this]
  · rintro fr H' f8 f7 ⟨f0, f1, hni, rfl⟩
    rw [List.take_of_length_le (Nat.le_refl _)] at hni
    exact absurd hx hni

end
end Go.Zam

namespace Go.Zam
open Go.Proofs
set_option linter.all false
set_option maxRecDepth 100000
set_option maxHeartbeats 1000000

theorem le_iff {x y : Str'} : x ≤ y ↔ Op.bytesLess y x = false := by
  rw [bytesLess_eq, decide_eq_false_iff_not]
  exact Iff.rfl
theorem le_cmp {x y : Str'} : x ≤ y ↔ cmpStr x y ≤ 0 := by
  rw [le_iff]
  constructor
  · intro h
    refine Classical.byContradiction fun hn => ?_
    have := cmpStr_gt.1 (show 0 < cmpStr x y by omega)
    rw [h] at this; cases this
  · intro h
    refine Bool.eq_false_iff.2 fun hn => ?_
    have := cmpStr_gt.2 hn
    omega

theorem msort_sorted (L : List Str') : (msort L).Pairwise fun x y => cmpStr x y ≤ 0 := by
  have := List.pairwise_mergeSort (le := fun x y : Str' => decide (x ≤ y)) (fun a b c h1 h2 => by
      simp only [decide_eq_true_eq] at h1 h2 ⊢
      rw [le_cmp] at h1 h2 ⊢
      exact cmpStr_cmp.trans _ _ _ h1 h2) (fun a b => by
      rw [Bool.or_eq_true, decide_eq_true_eq, decide_eq_true_eq, le_cmp, le_cmp]
      exact cmpStr_cmp.le_total a b) L
  exact this.imp fun h => le_cmp.1 (of_decide_eq_true h)
theorem msort_perm (L : List Str') : (msort L).Perm L := List.mergeSort_perm L _
theorem msort_len (L : List Str') : (msort L).length = L.length := List.length_mergeSort L

theorem sorted_eq {l l' : List Str'} (h : l.Pairwise fun x y => cmpStr x y ≤ 0) (h' : l'.Pairwise fun x y => cmpStr x y ≤ 0) (hp : l.Perm l') : l = l' :=
  List.Perm.eq_of_pairwise (fun a b _ _ h1 h2 => cmpStr_zero.1 (cmpStr_cmp.le_antisymm h1 h2)) h h' hp

theorem msort_zip {ns : List Str'} {ps : List T} (h : ns.length = ps.length) : msort ns = (ssort cP (ns.zip ps)).map Prod.fst := by
  refine sorted_eq (msort_sorted ns) ?_ ?_
  · exact List.pairwise_map.2 (ssort_spec cP_cmp (ns.zip ps)).1
  · have h1 : ((ns.zip ps).map Prod.fst).Perm ((ssort cP (ns.zip ps)).map Prod.fst) := (ssort_perm cP_cmp (ns.zip ps)).map _
    rw [List.map_fst_zip (by omega)] at h1
    exact (msort_perm ns).trans h1

theorem filter_len {α : Type} {p : α → Bool} : ∀ {l : List α}, (l.filter p).length = l.length ↔ ∀ x ∈ l, p x = true
  | [] => by simp
  | a :: l => by
    rw [List.filter_cons]
    split
    · rename_i h
      rw [List.length_cons, List.length_cons, Nat.add_right_cancel_iff, filter_len (l := l)]
      simp [h]
    · rename_i h
      constructor
      · intro e
        have := List.length_filter_le p l
        simp only [List.length_cons] at e
        omega
      · intro hh; exact absurd (hh a (by simp)) h

theorem compact_dup (S : List Lt) : (Lib.compact (S.map Prod.fst)).length = S.length ↔ ¬ Dup S := by
  have h1 : (Lib.compact (S.map Prod.fst)).length = ((List.range (S.map Prod.fst).length).filter (Lib.keeps (S.map Prod.fst).toArray)).length := by
    unfold Lib.compact Lib.compactUpTo
    rw [List.length_map]
  rw [h1]
  have h2 : S.length = (List.range (S.map Prod.fst).length).length := by simp
  rw [h2, filter_len]
  have hget : ∀ (j : Nat) (a : Lt), S[j]? = some a → (S.map Prod.fst).toArray[j]! = a.1 := fun j a ha => by
    obtain ⟨hj, e⟩ := List.getElem?_eq_some_iff.1 ha
    rw [getElem!_pos _ j (by simpa using hj)]
    simp [e]
  constructor
  · rintro h ⟨j, a, b, ha, hb, e⟩
    have hj : j + 1 < S.length := (List.getElem?_eq_some_iff.1 hb).1
    have := h (j + 1) (List.mem_range.2 (by simpa using hj))
    simp only [Lib.keeps, decide_eq_true_eq] at this
    rcases this with h0 | h0
    · omega
    · rw [hget _ _ hb, Nat.add_sub_cancel, hget _ _ ha] at h0
      exact h0 e.symm
  · intro h j hj
    have hj' : j < S.length := by simpa using List.mem_range.1 hj
    simp only [Lib.keeps, decide_eq_true_eq]
    by_cases h0 : j = 0
    · exact .inl h0
    · refine .inr fun e => h ⟨j - 1, S[j - 1]'(by omega), S[j], List.getElem?_eq_getElem _, ?_, ?_⟩
      · rw [show j - 1 + 1 = j by omega]; exact List.getElem?_eq_getElem _
      · rw [hget _ _ (List.getElem?_eq_getElem hj'), hget _ _ (List.getElem?_eq_getElem (by omega))] at e
        exact e.symm

/-- the part of a label that stands once -/
theorem idx_part {ns : List Str'} {ps : List T} (hl : ns.length = ps.length) (hd : ¬ Dup (ssort cP (ns.zip ps))) {j : Nat} {x : Lt} (hx : (ssort cP (ns.zip ps))[j]? = some x) : x.1 ∈ ns ∧ ps[ns.idxOf x.1]? = some x.2 := by
  have hm : x ∈ ns.zip ps := (ssort_perm cP_cmp (ns.zip ps)).mem_iff.2 (List.mem_of_getElem? hx)
  have hnd : ((ns.zip ps).map Prod.fst).Nodup := Classical.byContradiction fun h => hd ((dup_iff _).2 h)
  rw [List.map_fst_zip (by omega)] at hnd
  obtain ⟨i, hi⟩ := List.getElem?_of_mem hm
  have hi' := List.getElem?_zip_eq_some.1 hi
  obtain ⟨h1, h2⟩ := hi'
  have hmem := List.mem_of_getElem? h1
  have hlt := List.idxOf_lt_length_iff.2 hmem
  have hget : ns[ns.idxOf x.1]? = some x.1 := by rw [List.getElem?_eq_getElem hlt]; simp
  have : ns.idxOf x.1 = i := by
    obtain ⟨a1, b1⟩ := List.getElem?_eq_some_iff.1 hget
    obtain ⟨a2, b2⟩ := List.getElem?_eq_some_iff.1 h1
    rcases Nat.lt_trichotomy (ns.idxOf x.1) i with h | h | h
    · exact absurd (b1.trans b2.symm) (List.pairwise_iff_getElem.1 hnd _ _ a1 a2 h)
    · exact h
    · exact absurd (b2.trans b1.symm) (List.pairwise_iff_getElem.1 hnd _ _ a2 a1 h)
  rw [this]
  exact ⟨hmem, h2⟩

/-! flags that don't matter -/
theorem DR.flag {σ : St} {v : Value} {z z' : Bool} {sz : Nat} {rows : List (List D)} (h : DR σ v (.sl z sz rows)) (hz : rows = [] → z = z') : DR σ v (.sl z' sz rows) := by
  by_cases hr : rows = []
  · rw [← hz hr]; exact h
  · rcases h.sl_inv with ⟨-, -, e⟩ | ⟨_, _, -, -, e⟩ | ⟨b, o, cap, f, rfl, -, hcap, hrow, hc, hd⟩
    · exact absurd e hr
    · exact absurd e hr
    · exact .sl z' sz rows b o cap f (fun _ => hr) hcap hrow hc hd

theorem nrm_T {k : Int} {z z' : Bool} {ns : List Str'} {y y' : Bool} {ps : List T} (hz : ns = [] → z = z') (hy : ps = [] → y = y') : Nrm (T.mk k z ns y ps).a (T.mk k z' ns y' ps).a := by
  intro κ v h
  rw [T.a_mk] at h ⊢
  cases h with
  | agg vs _ hl hh =>
    refine .agg vs _ (by simpa using hl) fun i v a hv ha => ?_
    match i with
    | 0 => exact hh 0 v _ hv ha
    | 1 =>
      simp at ha
      subst ha
      have := hh 1 v _ hv rfl
      exact .d (this.d_inv.flag fun e => hz (by simpa using e))
    | 2 =>
      simp at ha
      subst ha
      have := hh 2 v _ hv rfl
      exact .d (this.d_inv.flag fun e => hy (by simpa using e))
    | i + 3 => simp at ha

theorem nrm_tup {a a' b : A} (h : Nrm a a') : Nrm (.tup [a, b]) (.tup [a', b]) := by
  intro κ v hv
  cases hv with
  | tup vs _ hl hh =>
    refine .tup vs _ (by simpa using hl) fun i v c hv hc => ?_
    match i with
    | 0 =>
      simp at hc
      subst hc
      exact h κ v (hh 0 v _ hv rfl)
    | 1 => exact hh 1 v _ hv hc
    | i + 2 => simp at hc

end Go.Zam

namespace Go.Zam
set_option linter.all false
set_option maxRecDepth 100000
set_option maxHeartbeats 2000000
open Classical

/-- what is asked of a function that makes records -/
def RecT (P : Program) (f : FuncId) : Prop := ∀ (z y : Bool) (ns : List Str') (ps : List T), ns.length ≤ 1048576 → ps.length ≤ 1048576 → ∀ H,
  ACall P f [.d (.sl z 1 (ns.map encStr)), .d (.sl y 3 (ps.map T.enc))] H (fun r H' => r = .tup [(recT ns ps).1.a, .d (.int .i64 (recT ns ps).2)] ∧ H' = H)

section
variable {P : Program}

theorem Has.tyRecord {f fv fs fc fk fi fa fo fso g : FuncId} {t bt : TypeId} (h : HasT P [28] f (irTyRecord fv fs fc fk fi bt)) (hv : Has P fv (irSlValues g t))
    (hs : ∀ {L : List Str'}, L.length ≤ 1048576 → ∀ {H : Hp} {i bt : Nat} {z : Bool}, H[i]? = some (.box bt [.d (.sl z 1 (L.map encStr))]) → ACall P fs [.fn (.func g) [] [.ptr i 0]] H (fun r H' => r = .d (.sl L.isEmpty 1 ((msort L).map encStr)) ∧ H' = H))
    (hc : HasT P [1000005] fc (irCloneM 1 16 fo)) (hk : CompactStr P fk) (hi : Has P fi irSlIdx) : RecT P f := by
  intro z y ns ps h1 h2 H
  obtain ⟨fn, hf, hcf⟩ := h
  obtain ⟨fnc, hcf1, hcf2⟩ := hc
  by_cases hl : ns.length = ps.length
  case neg =>
    have hl' : ¬ (ns.length : Int) = ps.length := by omega
    refine acall_fin hf hcf (by simp [irTyRecord]) fun hcl _ => ?_
    simp [irTyRecord, hl, hl']
    simp [RetK, cut_app hcl, recT, hl, T.nil, T.a_mk]
  by_cases hn : ns = []
  · subst hn
    have hp : ps = [] := List.eq_nil_of_length_eq_zero (by simpa using hl.symm)
    subst hp
    have hnd : ¬ Dup ([] : List Lt) := by rintro ⟨j, a, b, h, -⟩; simp at h
    refine acall_fin hf hcf (by simp [irTyRecord]) fun hcl _ => ?_
    simp [irTyRecord]
    refine CallK_of' (hv.slValues z [] _) ?_
    simp
    refine CallK_of' (hs (L := []) (by simp) (bt := t) (z := z) (by simp)) ?_
    simp [msort]
    refine CallK_of' (clone0_acall hcf1 hcf2) ?_
    simp
    refine CallK_of' (compact0_acall hk) ?_
    simp
    refine RangeK_of (H.length + 4) 0 (fun i fr H' => fr 4 = .ptr H.length 0 ∧ fr 7 = .ptr (H.length + 3) 0 ∧ H' = H ++ [.box bt [.d (.int .i64 0), .d (.sl true 1 []), .d (.sl true 3 [])], .box t [.d (.sl z 1 [])], .tok 0 3 bt, .box bt [.d (.int .i64 3), .d (.sl true 1 []), .osl true 3 [] (H.length + 2)]]) (by omega) (by decide) (by simp) (by simp) ?_ ?_ ?_
    · simp [cut_appk hcl]
    · rintro i fr H' hi; omega
    · rintro fr H' f31 f30 ⟨f4, f7, rfl⟩
      simp [f4, f7]
      simp [RetK, cut_app hcl, recT, ssort, hnd, T.new, T.a_mk, f4]
  -- some labels
  have hpos := List.length_pos_iff.2 hn
  have he : ns.isEmpty = false := by simpa using hn
  have hS := msort_zip hl
  have hSl : (ssort cP (ns.zip ps)).length = ns.length := by rw [ssort_length cP_cmp]; simp; omega
  have hcd := compact_dup (ssort cP (ns.zip ps))
  have hix := fun (hd : ¬ Dup (ssort cP (ns.zip ps))) (j : Nat) (x : Lt) (hx : (ssort cP (ns.zip ps))[j]? = some x) => idx_part hl hd hx
  have hrec : recT ns ps = if Dup (ssort cP (ns.zip ps)) then (T.nil, 40) else (.new 3 ((ssort cP (ns.zip ps)).map Prod.fst) ((ssort cP (ns.zip ps)).map Prod.snd), 0) := by rw [recT, if_pos hl]
  generalize ssort cP (ns.zip ps) = S at hS hSl hcd hix hrec
  rw [hSl] at hcd
  rw [hrec]
  have hml : (msort ns).length = ns.length := msort_len ns
  have hmne : msort ns ≠ [] := fun e => by rw [e] at hml; simp at hml; omega
  refine acall_norm ?_
  refine acall_fin hf hcf (by simp [irTyRecord]) fun hcl _ => ?_
  simp [irTyRecord, hl]
  refine CallK_of' (hv.slValues z ns _) ?_
  simp
  refine CallK_of' (hs (L := ns) h1 (bt := t) (z := z) (by simp)) ?_
  have hc' := fun H' => cloneM_acall (H := H') (z := false) hcf1 hcf2 (rows := (msort ns).map encStr) (by simpa using hmne) (by simp; omega)
  simp only [List.length_map] at hc'
  simp [he]
  refine CallK_of' (hc' _) ?_
  have hk' := compact_acall hk hmne (by omega) (H := H ++ [.box bt [.d (.int .i64 0), .d (.sl true 1 []), .d (.sl true 3 [])], .box t [.d (.sl z 1 (ns.map encStr))], .arr 1 [], .arr 1 (strRows (msort ns))]) (i := H.length + 3) (by simp)
  have hrr : ((msort ns).map encStr).map (List.map A.d) = strRows (msort ns) := by simp [strRows, encStr]
  simp at hrr hk'
  simp [hrr]
  refine CallK_of hk' ?_
  rintro r H' ⟨rfl, rows, rfl⟩
  rw [hS] at hml ⊢
  by_cases hd : Dup S
  · have hne : ¬ (Lib.compact (S.map Prod.fst)).length = ns.length := fun e => hcd.1 e hd
    have hne2 : ¬ ((Lib.compact (S.map Prod.fst)).length : Int) = ns.length := by omega
    simp [hne, hne2]
    simp [RetK, cut_app hcl, hd]
    rw [T.a_nil]
    exact fun _ _ h => h
  have heq : (Lib.compact (S.map Prod.fst)).length = ns.length := hcd.2 hd
  simp [heq]
  refine RangeK_of (H.length + 6) ns.length (fun i fr H' => fr 0 = .d (.sl z 1 (ns.map encStr)) ∧ fr 1 = .d (.sl y 3 (ps.map T.enc)) ∧ fr 4 = .ptr H.length 0 ∧ fr 7 = .ptr (H.length + 5) 0 ∧ fr 29 = .d (.sl false 1 ((S.map Prod.fst).map encStr)) ∧
    ∃ X, X.length = 3 ∧ H' = H ++ (.box bt [.d (.int .i64 0), .d (.sl true 1 []), .d (.sl true 3 [])] :: (X ++ [.tok i 3 bt, .box bt [.d (.int .i64 3), .d (.sl false 1 ((S.map Prod.fst).map encStr)), .osl true 3 ((S.map (T.enc ∘ Prod.snd)).take i) (H.length + 4)]]))) (by omega) (by decide) (by simp) (by simp [hSl]) ?_ ?_ ?_
  · simp [cut_appk hcl, hml]
    exact ⟨[_, _, _], rfl, rfl⟩
  · rintro i fr H' hilt f31 f30 ⟨f0, f1, f4, f7, f29, X, hXl, rfl⟩
    match X, hXl with
    | [x1, x2, x3], _ =>
    have hiS : i < S.length := by omega
    have hgS : S[i]? = some S[i] := List.getElem?_eq_getElem hiS
    have ta := take_map_succ (T.enc ∘ Prod.snd) hiS
    obtain ⟨hm1, hm2⟩ := hix hd i _ hgS
    have ra : Zam.rowAt ((S.map Prod.fst).map encStr) (i : Int) = some [.str S[i].1] := by simp [Zam.rowAt, hiS, encStr]
    have rb : Zam.rowAt (ps.map T.enc) ((ns.idxOf S[i].1 : Nat) : Int) = some S[i].2.enc := rowAt_get hm2
    generalize S[i] = q at ta hgS hm1 hm2 ra rb
    obtain ⟨x, v⟩ := q
    obtain ⟨k', z', ns', y', ps'⟩ := v
    simp only [T.enc_mk, Function.comp_apply] at ra rb ta
    have hm : min i S.length = i := by omega
    have hcap : (i + 1) * 56 ≤ 140737488355328 := by omega
    simp only [List.map_map] at ra f29
    simp [f31, f29, ra, f7, f0, f1]
    refine CallD_of (hi.idxAt z ns x hm1 h1 _) ?_
    simp [rb, f7, appA, hm, hcap, f31]
    refine NextK_of (H.length + 6) (Nat.le_refl _) (by simp [f31, f30]) ?_
    simp [f0, f1, f4, f7, f29, cut_appk hcl, ta]
    exact ⟨[_, _, _], rfl, rfl⟩
  · rintro fr H' f31 f30 ⟨f0, f1, f4, f7, f29, X, hXl, rfl⟩
    match X, hXl with
    | [x1, x2, x3], _ =>
    have hfull : (S.map (T.enc ∘ Prod.snd)).take ns.length = S.map (T.enc ∘ Prod.snd) := List.take_of_length_le (by simp [hSl])
    simp [f4, f7, hfull]
    have hnl : ¬ H.length + 4 < H.length := by omega
    have hne : S.map Prod.fst ≠ [] := by rw [← hS]; exact hmne
    have := nrm_tup (b := .d (.int .i64 0)) (nrm_T (k := 3) (z := false) (z' := true) (ns := S.map Prod.fst) (y := true) (y' := true) (ps := S.map Prod.snd) (fun e => absurd e hne) (fun _ => rfl))
    rw [T.a_mk, List.map_map, List.map_map] at this
    simp [RetK, cut_app hcl, hd, hnl]
    exact this

end
end Go.Zam

namespace Go.Zam
set_option linter.all false
set_option maxRecDepth 100000
set_option maxHeartbeats 1000000

/-- the first that is wrong -/
def badE : List (T × Int) → Int
  | [] => 0
  | p :: r => if p.2 ≠ 0 then p.2 else badE r
theorem badE_zero : ∀ {l : List (T × Int)}, badE l = 0 ↔ ∀ p ∈ l, p.2 = 0
  | [] => by simp [badE]
  | p :: r => by
    rw [badE]
    split
    · rename_i h
      exact ⟨fun e => absurd e h, fun e => absurd (e p (by simp)) h⟩
    · rename_i h
      rw [badE_zero (l := r)]
      exact ⟨fun e q hq => (List.mem_cons.1 hq).elim (fun g => by subst g; exact Classical.not_not.1 h) (e q), fun e q hq => e q (by simp [hq])⟩
theorem badE_at : ∀ {l : List (T × Int)} {i : Nat} {p : T × Int}, (∀ q ∈ l.take i, q.2 = 0) → l[i]? = some p → p.2 ≠ 0 → badE l = p.2
  | [], i, p, _, h, _ => by simp at h
  | q :: r, 0, p, _, h, hp => by
    simp at h
    subst h
    rw [badE, if_pos hp]
  | q :: r, i + 1, p, h0, h, hp => by
    have hq : q.2 = 0 := h0 q (by simp)
    rw [badE, if_neg (by simp [hq])]
    exact badE_at (i := i) (fun x hx => h0 x (by simp [hx])) (by simpa using h) hp

def N.one : N → Bool
  | .mk k _ _ _ _ _ [_] => decide (k = 33)
  | _ => false

mutual
/-- the type that a tree tells, or why there is none -/
noncomputable def N.ty : N → T × Int
  | .mk k _ _ _ _ _ ks =>
    if k = 0 ∨ k = 31 then (T.nil, 0)
    else if k = 29 then (T.new 1 [] [], 0)
    else if k = 30 then (T.new 2 [] [], 0)
    else if k = 32 then if badE (N.ftys ks) ≠ 0 then (T.nil, badE (N.ftys ks)) else recT (ks.map N.w) ((N.ftys ks).map Prod.fst)
    else if k = 34 then if badE (N.tys ks) ≠ 0 then (T.nil, badE (N.tys ks)) else if ks = [] then (T.nil, 8) else (T.new 4 [] ((N.tys ks).map Prod.fst), 0)
    else (T.nil, 8)
/-- the type of a record's label -/
noncomputable def N.fty : N → T × Int
  | .mk k _ _ _ _ _ ks => if k = 33 ∧ ks.length = 1 then (N.tys ks).headD (T.nil, 8) else (T.nil, 8)
noncomputable def N.tys : List N → List (T × Int)
  | [] => []
  | n :: r => N.ty n :: N.tys r
noncomputable def N.ftys : List N → List (T × Int)
  | [] => []
  | n :: r => N.fty n :: N.ftys r
end
theorem N.tys_map : ∀ l : List N, N.tys l = l.map N.ty
  | [] => by rw [N.tys]; rfl
  | p :: r => by rw [N.tys, N.tys_map r]; rfl
theorem N.ftys_map : ∀ l : List N, N.ftys l = l.map N.fty
  | [] => by rw [N.ftys]; rfl
  | p :: r => by rw [N.ftys, N.ftys_map r]; rfl
theorem N.ty_mk (k f t : Int) (w : Bs) (a : Int) (z : Bool) (ks : List N) : N.ty (.mk k f t w a z ks) =
    if k = 0 ∨ k = 31 then (T.nil, 0)
    else if k = 29 then (T.new 1 [] [], 0)
    else if k = 30 then (T.new 2 [] [], 0)
    else if k = 32 then if badE (ks.map N.fty) ≠ 0 then (T.nil, badE (ks.map N.fty)) else recT (ks.map N.w) ((ks.map N.fty).map Prod.fst)
    else if k = 34 then if badE (ks.map N.ty) ≠ 0 then (T.nil, badE (ks.map N.ty)) else if ks = [] then (T.nil, 8) else (T.new 4 [] ((ks.map N.ty).map Prod.fst), 0)
    else (T.nil, 8) := by rw [N.ty, N.tys_map, N.ftys_map]
theorem N.fty_one {k f t : Int} {w : Bs} {a : Int} {z : Bool} {n : N} (h : k = 33) : N.fty (.mk k f t w a z [n]) = N.ty n := by rw [N.fty, N.tys_map]; simp [h]
theorem N.fty_not {k f t : Int} {w : Bs} {a : Int} {z : Bool} {ks : List N} (h : ¬ (k = 33 ∧ ks.length = 1)) : N.fty (.mk k f t w a z ks) = (T.nil, 8) := by rw [N.fty, if_neg h]

/-! how deep a type is -/
mutual
def T.dep : T → Nat
  | .mk _ _ _ _ ps => T.deps ps + 1
def T.deps : List T → Nat
  | [] => 0
  | p :: r => max (T.dep p) (T.deps r)
end
theorem T.dep_mk (k : Int) (z : Bool) (ns : List Str') (y : Bool) (ps : List T) : T.dep (.mk k z ns y ps) = T.deps ps + 1 := by rw [T.dep]
theorem T.deps_le : ∀ {l : List T} {n : Nat}, T.deps l ≤ n ↔ ∀ p ∈ l, p.dep ≤ n
  | [], n => by simp [T.deps]
  | p :: r, n => by rw [T.deps, Nat.max_le, T.deps_le (l := r)]; simp
theorem T.deps_snoc : ∀ {l : List T} {p : T}, T.deps (l ++ [p]) = max (T.deps l) p.dep
  | [], p => by simp [T.deps]
  | q :: r, p => by rw [List.cons_append, T.deps, T.deps, T.deps_snoc]; omega

/-- term.Of -/
noncomputable def N.typ (n : N) : T × Int := if n.ty.2 ≠ 0 then (T.nil, n.ty.2) else if 12 < n.ty.1.dep then (T.nil, 25) else n.ty

end Go.Zam

namespace Go.Zam
set_option linter.all false
set_option maxRecDepth 100000
set_option maxHeartbeats 2000000
open Classical

/-- a function's type -/
def T.fn (v : T) (z : Bool) (ps : List T) : T := .mk 4 true [] (z && ps.isEmpty) (ps ++ [v])
mutual
/-- a type in new memory -/
def T.twin : T → T
  | .mk k z ns _ ps => .mk k (z && ns.isEmpty) ns true (T.twins ps)
def T.twins : List T → List T
  | [] => []
  | p :: r => T.twin p :: T.twins r
end
theorem T.twins_map : ∀ l : List T, T.twins l = l.map T.twin
  | [] => rfl
  | p :: r => by rw [T.twins, T.twins_map r]; rfl
theorem T.twin_mk (k : Int) (z : Bool) (ns : List Str') (y : Bool) (ps : List T) : T.twin (.mk k z ns y ps) = .mk k (z && ns.isEmpty) ns true (ps.map T.twin) := by rw [T.twin, T.twins_map]
theorem T.twin_st (v : T) : v.twin.st = v.st := by
  induction v using T.ind with
  | h k z ns y ps ih =>
    rw [T.twin_mk, T.st_mk, T.st_mk, List.map_map]
    congr 1
    exact List.map_congr_left fun p hp => ih p hp

theorem T.deps_take_succ {ps : List T} {i : Nat} (h : i < ps.length) : T.deps (ps.take (i + 1)) = max (T.deps (ps.take i)) ps[i].dep := by
  rw [List.take_succ_eq_append_getElem h, T.deps_snoc]

section
variable {P : Program}

theorem Has.clT {f : FuncId} {t : TypeId} (h : HasT P [2, 5] f (irClT t)) (z : Bool) (rows : List (List D)) (hb : rows.length * 56 ≤ 140737488355328) (H : Hp) :
    ACall P f [.d (.sl z 3 rows)] H (fun r H' => r = .osl (z && rows.isEmpty) 3 rows (H.length + 1) ∧ H' = H ++ [.tok 0 3 t, .tok rows.length 3 t]) := by
  obtain ⟨fn, hf, hcf⟩ := h
  refine acall_fink 2 hf hcf (by simp [irClT]) fun hcl _ => ?_
  by_cases hz : (z && rows.isEmpty) = true
  · obtain ⟨rfl, h2⟩ : z = true ∧ rows.isEmpty = true := by simpa using hz
    have : rows = [] := by simpa using h2
    subst this
    simp [irClT]
    simp [RetK, cut_appk hcl]
  · have hz' : (z && rows.isEmpty) = false := by simpa using hz
    simp [irClT, hz']
    simp [appA, hb, Nat.add_assoc]
    simp [RetK, cut_appk hcl, hz']

theorem Has.tyFunc {f fc : FuncId} {t : TypeId} (h : HasT P [4000000] f (irTyFunc fc t)) (hc : HasT P [2, 5] fc (irClT t)) (v : T) (z : Bool) (ps : List T) (hb : (ps.length + 1) * 56 ≤ 140737488355328) (H : Hp) :
    ACall P f [v.a, .d (.sl z 3 (ps.map T.enc))] H (fun r H' => r = (T.fn v z ps).a ∧ H' = H) := by
  obtain ⟨fn, hf, hcf⟩ := h
  refine acall_fin hf hcf (by simp [irTyFunc]) fun hcl _ => ?_
  have hc' := fun H' => Has.clT hc z (ps.map T.enc) (by simp; omega) H'
  simp only [List.length_map] at hc'
  obtain ⟨k, zn, ns, y, qs⟩ := v
  rw [T.a_mk, T.fn, T.a_mk]
  simp [irTyFunc]
  refine ⟨?_, ?_⟩
  all_goals
    refine CallK_of' (hc' _) ?_
    simp [appA, hb, Nat.add_assoc]
    simp [RetK, cut_app hcl, T.enc_mk]

theorem Has.tyTwin {f fc : FuncId} {t fo : TypeId} (h : HasT P [11] f (irTyTwin fc f t)) (hc : HasT P [1000005] fc (irCloneM 1 16 fo)) (v : T) : v.Fit 1048576 → ∀ H, ACall P f [v.a] H (fun r H' => r = v.twin.a ∧ H' = H) := by
  induction v using T.ind with
  | h k z ns y ps ih =>
  rintro (⟨_, _, _, _, _, b2, b3, b4, b5⟩) H
  have h0 := h
  obtain ⟨fn, hf, hcf⟩ := h
  obtain ⟨fnc, hcf1, hcf2⟩ := hc
  have hc' := fun H' => cloneD_acall (H := H') (z := z) hcf1 hcf2 (rows := ns.map encStr) (by simp; omega)
  simp only [List.isEmpty_map] at hc'
  refine acall_fin hf hcf (by simp [irTyTwin]) fun hcl _ => ?_
  rw [T.a_mk, T.twin_mk, T.a_mk]
  simp only [irTyTwin]
  refine Seq_out (fun fr H' => fr 1 = .ptr H.length 0 ∧ fr 2 = .ptr (H.length + 1) 0 ∧ H' = H ++ [.box t [.d (.int .i64 k), .d (.sl z 1 (ns.map encStr)), .d (.sl y 3 (ps.map T.enc))], .box t [.d (.int .i64 0), .d (.sl true 1 []), .d (.sl true 3 [])]]) (fun _ _ => False) (by simp) (fun _ _ h => h.elim) ?_
  rintro fr H' ⟨f1, f2, rfl⟩
  refine Seq_out (fun fr H' => fr 1 = .ptr H.length 0 ∧ fr 2 = .ptr (H.length + 1) 0 ∧
    ((fr 3 = .ptr (H.length + 3) 0 ∧ H' = H ++ [.box t [.d (.int .i64 k), .d (.sl z 1 (ns.map encStr)), .d (.sl y 3 (ps.map T.enc))], .box t [.d (.int .i64 0), .d (.sl true 1 []), .d (.sl true 3 [])],
        .tok 0 3 t, .box t [.d (.int .i64 k), .d (.sl (z && ns.isEmpty) 1 (ns.map encStr)), .osl true 3 [] (H.length + 2)]]) ∨
     (fr 3 = .ptr (H.length + 2) 0 ∧ H' = H ++ [.box t [.d (.int .i64 k), .d (.sl z 1 (ns.map encStr)), .d (.sl y 3 (ps.map T.enc))], .box t [.d (.int .i64 0), .d (.sl true 1 []), .d (.sl true 3 [])],
        .box t [.d (.int .i64 k), .d (.sl (z && ns.isEmpty) 1 (ns.map encStr)), .osl true 3 [] (H.length + 3)], .tok 0 3 t]))) (fun _ _ => False) ?_ (fun _ _ h => h.elim) ?_
  · simp [f1]
    repeat' apply And.intro
    all_goals
      refine CallK_of' (hc' _) ?_
      simp [f1, f2]
  rintro fr H' ⟨f1, f2, hor⟩
  rcases hor with ⟨f3, rfl⟩ | ⟨f3, rfl⟩
  · simp [f1]
    refine RangeK_of (H.length + 4) ps.length (fun i fr H' => fr 2 = .ptr (H.length + 1) 0 ∧ fr 3 = .ptr (H.length + 3) 0 ∧ fr 13 = .d (.sl y 3 (ps.map T.enc)) ∧ H' = H ++ [.box t [.d (.int .i64 k), .d (.sl z 1 (ns.map encStr)), .d (.sl y 3 (ps.map T.enc))], .box t [.d (.int .i64 0), .d (.sl true 1 []), .d (.sl true 3 [])],
        .tok i 3 t, .box t [.d (.int .i64 k), .d (.sl (z && ns.isEmpty) 1 (ns.map encStr)), .osl true 3 ((ps.map (T.enc ∘ T.twin)).take i) (H.length + 2)]]) (by omega) (by decide) (by simp) (by simp) ?_ ?_ ?_
    · simp [f2, f3, cut_appk hcl]
    · rintro i fr H' hi f15 f14 ⟨f2, f3, f13, rfl⟩
      have hr := rowAt_map T.enc hi
      have hx := ih ps[i] (List.getElem_mem hi) (b5 _ (List.getElem_mem hi))
      have ht := take_map_succ (T.enc ∘ T.twin) hi
      generalize ps[i] = p at hr hx ht
      obtain ⟨k', z', ns', y', ps'⟩ := p
      simp only [T.enc_mk, T.a_mk, T.twin_mk, Function.comp_apply] at hr hx ht
      have hm : min i ps.length = i := by omega
      have hcap : (i + 1) * 56 ≤ 140737488355328 := by omega
      simp [f15, f13, hr, f3]
      refine CallD_of (hx _) ?_
      simp [f3, appA, hm, hcap, f15]
      refine NextK_of (H.length + 4) (Nat.le_refl _) (by simp [f15, f14]) ?_
      simp [f2, f3, f13, cut_appk hcl, ht]
    · rintro fr H' f15 f14 ⟨f2, f3, f13, rfl⟩
      have hfull : (ps.map (T.enc ∘ T.twin)).take ps.length = ps.map (T.enc ∘ T.twin) := List.take_of_length_le (by simp)
      simp [f2, f3, hfull]
      simp [RetK, cut_app hcl, f2]
  · simp [f1]
    refine RangeK_of (H.length + 4) ps.length (fun i fr H' => fr 2 = .ptr (H.length + 1) 0 ∧ fr 3 = .ptr (H.length + 2) 0 ∧ fr 13 = .d (.sl y 3 (ps.map T.enc)) ∧ H' = H ++ [.box t [.d (.int .i64 k), .d (.sl z 1 (ns.map encStr)), .d (.sl y 3 (ps.map T.enc))], .box t [.d (.int .i64 0), .d (.sl true 1 []), .d (.sl true 3 [])],
        .box t [.d (.int .i64 k), .d (.sl (z && ns.isEmpty) 1 (ns.map encStr)), .osl true 3 ((ps.map (T.enc ∘ T.twin)).take i) (H.length + 3)], .tok i 3 t]) (by omega) (by decide) (by simp) (by simp) ?_ ?_ ?_
    · simp [f2, f3, cut_appk hcl]
    · rintro i fr H' hi f15 f14 ⟨f2, f3, f13, rfl⟩
      have hr := rowAt_map T.enc hi
      have hx := ih ps[i] (List.getElem_mem hi) (b5 _ (List.getElem_mem hi))
      have ht := take_map_succ (T.enc ∘ T.twin) hi
      generalize ps[i] = p at hr hx ht
      obtain ⟨k', z', ns', y', ps'⟩ := p
      simp only [T.enc_mk, T.a_mk, T.twin_mk, Function.comp_apply] at hr hx ht
      have hm : min i ps.length = i := by omega
      have hcap : (i + 1) * 56 ≤ 140737488355328 := by omega
      simp [f15, f13, hr, f3]
      refine CallD_of (hx _) ?_
      simp [f3, appA, hm, hcap, f15]
      refine NextK_of (H.length + 4) (Nat.le_refl _) (by simp [f15, f14]) ?_
      simp [f2, f3, f13, cut_appk hcl, ht]
    · rintro fr H' f15 f14 ⟨f2, f3, f13, rfl⟩
      have hfull : (ps.map (T.enc ∘ T.twin)).take ps.length = ps.map (T.enc ∘ T.twin) := List.take_of_length_le (by simp)
      simp [f2, f3, hfull]
      simp [RetK, cut_app hcl, f2]

theorem Has.tyDepth {f : FuncId} {t : TypeId} (h : Has P f (irTyDepth f t)) (v : T) : v.Fit 1048576 → v.dep ≤ 1125899906842624 → ∀ H, ACall P f [v.a] H (fun r H' => r = .d (.int .i64 (v.dep : Int)) ∧ H' = H) := by
  induction v using T.ind with
  | h k z ns y ps ih =>
  rintro (⟨_, _, _, _, _, b2, b3, b4, b5⟩) hd H
  have h0 := h
  obtain ⟨fn, hf, hcf⟩ := h
  refine acall_fin hf hcf (by simp [irTyDepth]) fun hcl _ => ?_
  rw [T.a_mk, T.dep_mk]
  rw [T.dep_mk] at hd
  have hdp : ∀ p ∈ ps, p.dep ≤ T.deps ps := T.deps_le.1 (Nat.le_refl _)
  simp [irTyDepth]
  refine RangeK_of (H.length + 1) ps.length (fun i fr H' => fr 3 = .d (.int .i64 (T.deps (ps.take i) : Int)) ∧ fr 7 = .d (.sl y 3 (ps.map T.enc)) ∧ H' = H ++ [.box t [.d (.int .i64 k), .d (.sl z 1 (ns.map encStr)), .d (.sl y 3 (ps.map T.enc))]]) (by omega) (by decide) (by simp) (by simp) ?_ ?_ ?_
  · simp [T.deps, cut_appk hcl]
  · rintro i fr H' hi f9 f8 ⟨f3, f7, rfl⟩
    have hr := rowAt_map T.enc hi
    have hmem := List.getElem_mem hi
    have hx := ih ps[i] hmem (b5 _ hmem) (by have := hdp _ hmem; omega)
    have ht := T.deps_take_succ hi
    generalize ps[i] = p at hr hx ht
    obtain ⟨k', z', ns', y', ps'⟩ := p
    generalize hdd : (T.mk k' z' ns' y' ps').dep = dd at hx ht
    simp only [T.enc_mk, T.a_mk] at hr hx
    simp [f9, f7, hr, f3]
    refine CallK_of' (hx _) ?_
    simp
    refine NextK_of (H.length + 1) (Nat.le_refl _) (by simp [f9, f8]) ?_
    simp [f7, cut_appk hcl, ht]
    omega
  · rintro fr H' f9 f8 ⟨f3, f7, rfl⟩
    rw [List.take_of_length_le (Nat.le_refl _)] at f3
    have hw : IntKind.i64.wrap ((T.deps ps : Int) + 1) = (T.deps ps : Int) + 1 := wrap_i64 (by omega) (by omega)
    simp [f3, hw]
    simp [RetK, cut_app hcl]

end
end Go.Zam

namespace Go.Zam
set_option linter.all false
set_option maxRecDepth 100000
set_option maxHeartbeats 2000000

inductive Utf : Bs → Prop
  | nil : Utf []
  | step {s : Bs} (h : s ≠ []) (hd : decU s ≠ (65533, 1)) (hr : Utf (s.drop (decU s).2)) : Utf s

theorem badF_ge : ∀ (f : Nat) (s : Bs) (n : Nat), badF f s n = -1 ∨ 0 ≤ badF f s n
  | 0, _, _ => .inl rfl
  | f + 1, s, n => by
    rw [badF]
    split
    · exact .inl rfl
    · split
      · exact .inr (by omega)
      · exact badF_ge f _ _

theorem badF_utf : ∀ (f : Nat) (s : Bs) (n : Nat), s.length ≤ f → (badF f s n = -1 ↔ Utf s)
  | 0, s, n, h => by
    have : s = [] := List.eq_nil_of_length_eq_zero (by omega)
    subst this
    exact ⟨fun _ => .nil, fun _ => rfl⟩
  | f + 1, s, n, h => by
    rw [badF]
    by_cases hs : s = []
    · rw [if_pos hs]; subst hs; exact ⟨fun _ => .nil, fun _ => rfl⟩
    rw [if_neg hs]
    by_cases hd : decU s = (65533, 1)
    · rw [if_pos hd]
      constructor
      · intro e; omega
      · intro hu
        cases hu with
        | nil => exact absurd rfl hs
        | step _ h2 _ => exact absurd hd h2
    · rw [if_neg hd]
      have hl := decU_len hs
      rw [badF_utf f _ _ (by simp; omega)]
      constructor
      · exact fun h => .step hs hd h
      · intro hu
        cases hu with
        | nil => exact absurd rfl hs
        | step _ _ h3 => exact h3

theorem badS_utf (s : Bs) : ¬ 0 ≤ badS s ↔ Utf s := by
  rw [← badF_utf s.length s 0 (Nat.le_refl _)]
  have := badF_ge s.length s 0
  unfold badS
  omega

theorem decodeN_w (n b0 b1 b2 b3 : Nat) (hn : 1 ≤ n) : Lib.decodeN n b0 b1 b2 b3 = (65533, 1) ∨ ((Lib.decodeN n b0 b1 b2 b3).2 = 1 ∧ b0 < 128) ∨ ((Lib.decodeN n b0 b1 b2 b3).2 = 2 ∧ 2 ≤ n ∧ 128 ≤ b0 ∧ 128 ≤ b1) ∨ ((Lib.decodeN n b0 b1 b2 b3).2 = 3 ∧ 3 ≤ n ∧ 128 ≤ b0 ∧ 128 ≤ b1 ∧ 128 ≤ b2) ∨ ((Lib.decodeN n b0 b1 b2 b3).2 = 4 ∧ 4 ≤ n ∧ 128 ≤ b0 ∧ 128 ≤ b1 ∧ 128 ≤ b2 ∧ 128 ≤ b3) := by
  unfold Lib.decodeN
  (repeat' split) <;> simp <;> omega

theorem decodeN_1 (n n' b0 b1 b2 b3 c1 c2 c3 : Nat) (h : b0 < 128) : Lib.decodeN n' b0 c1 c2 c3 = Lib.decodeN n b0 b1 b2 b3 := by simp [Lib.decodeN, h]
theorem decodeN_2 (n n' b0 b1 b2 b3 c2 c3 : Nat) (hn : 2 ≤ n) (hn' : 2 ≤ n') (h : (Lib.decodeN n b0 b1 b2 b3).2 = 2) : Lib.decodeN n' b0 b1 c2 c3 = Lib.decodeN n b0 b1 b2 b3 := by
  unfold Lib.decodeN at *
  (repeat' split at h) <;> simp only at h <;> try omega
  all_goals (repeat' split) <;> first | rfl | (exfalso; omega)
theorem decodeN_3 (n n' b0 b1 b2 b3 c3 : Nat) (hn : 3 ≤ n) (hn' : 3 ≤ n') (h : (Lib.decodeN n b0 b1 b2 b3).2 = 3) : Lib.decodeN n' b0 b1 b2 c3 = Lib.decodeN n b0 b1 b2 b3 := by
  unfold Lib.decodeN at *
  (repeat' split at h) <;> simp only at h <;> try omega
  all_goals (repeat' split) <;> first | rfl | (exfalso; omega)
theorem decodeN_4 (n n' b0 b1 b2 b3 : Nat) (hn : 4 ≤ n) (hn' : 4 ≤ n') (h : (Lib.decodeN n b0 b1 b2 b3).2 = 4) : Lib.decodeN n' b0 b1 b2 b3 = Lib.decodeN n b0 b1 b2 b3 := by
  unfold Lib.decodeN at *
  (repeat' split at h) <;> simp only at h <;> try omega
  all_goals (repeat' split) <;> first | rfl | (exfalso; omega)

theorem getD_take_app (s r : Bs) (w i : Nat) (h : i < w) (hw : w ≤ s.length) : (s.take w ++ r).getD i 0 = s.getD i 0 := by
  have h1 : i < s.length := by omega
  simp [List.getD, List.getElem?_append, h, h1, Nat.min_eq_left hw]

theorem decU_ne {s : Bs} (h : s ≠ []) : decU s = Lib.decodeN s.length (s.getD 0 0).toNat (s.getD 1 0).toNat (s.getD 2 0).toNat (s.getD 3 0).toNat := by unfold decU; rw [if_neg h]

theorem Utf.inv {s : Bs} (hu : Utf s) (h : s ≠ []) : decU s ≠ (65533, 1) ∧ Utf (s.drop (decU s).2) := by
  cases hu with
  | nil => exact absurd rfl h
  | step h1 h2 h3 => exact ⟨h2, h3⟩

/-- a character stays what it is, whatever follows -/
theorem decU_loc {s : Bs} (hs : s ≠ []) (hd : decU s ≠ (65533, 1)) (r : Bs) : decU (s.take (decU s).2 ++ r) = decU s ∧ (2 ≤ (decU s).2 → ∀ i, i < (decU s).2 → 128 ≤ (s.getD i 0).toNat) := by
  have hl := decU_len hs
  have hn : 1 ≤ s.length := by omega
  have hE : decU s = Lib.decodeN s.length (s.getD 0 0).toNat (s.getD 1 0).toNat (s.getD 2 0).toNat (s.getD 3 0).toNat := decU_ne hs
  have hne : s.take (decU s).2 ++ r ≠ [] := fun e => by
    have := congrArg List.length e
    simp only [List.length_append, List.length_take, List.length_nil] at this
    omega
  have hlen : (s.take (decU s).2 ++ r).length = (decU s).2 + r.length := by simp only [List.length_append, List.length_take]; omega
  have hF : decU (s.take (decU s).2 ++ r) = Lib.decodeN ((decU s).2 + r.length) ((s.take (decU s).2 ++ r).getD 0 0).toNat ((s.take (decU s).2 ++ r).getD 1 0).toNat ((s.take (decU s).2 ++ r).getD 2 0).toNat ((s.take (decU s).2 ++ r).getD 3 0).toNat := by
    rw [← hlen]; exact decU_ne hne
  have hg := fun i h => getD_take_app s r (decU s).2 i h hl.2
  rw [hF]
  rw [hE] at hd
  rcases decodeN_w s.length (s.getD 0 0).toNat (s.getD 1 0).toNat (s.getD 2 0).toNat (s.getD 3 0).toNat hn with h | ⟨h1, h2⟩ | ⟨h1, h2, h3, h4⟩ | ⟨h1, h2, h3, h4, h5⟩ | ⟨h1, h2, h3, h4, h5, h6⟩
  · exact absurd h hd
  · rw [← hE] at h1
    refine ⟨?_, fun h => by omega⟩
    rw [hg 0 (by omega), hE]
    exact decodeN_1 _ _ _ _ _ _ _ _ _ h2
  · have h1' := h1
    rw [← hE] at h1
    refine ⟨?_, fun _ i hi => ?_⟩
    · rw [hg 0 (by omega), hg 1 (by omega), hE]
      rw [hE] at h1 
      exact decodeN_2 _ _ _ _ _ _ _ _ h2 (by omega) h1'
    · match i, (show i < 2 by omega) with
      | 0, _ => exact h3
      | 1, _ => exact h4
  · have h1' := h1
    rw [← hE] at h1
    refine ⟨?_, fun _ i hi => ?_⟩
    · rw [hg 0 (by omega), hg 1 (by omega), hg 2 (by omega), hE]
      rw [hE] at h1 
      exact decodeN_3 _ _ _ _ _ _ _ h2 (by omega) h1'
    · match i, (show i < 3 by omega) with
      | 0, _ => exact h3
      | 1, _ => exact h4
      | 2, _ => exact h5
  · have h1' := h1
    rw [← hE] at h1
    refine ⟨?_, fun _ i hi => ?_⟩
    · rw [hg 0 (by omega), hg 1 (by omega), hg 2 (by omega), hg 3 (by omega), hE]
      rw [hE] at h1 
      exact decodeN_4 _ _ _ _ _ _ h2 (by omega) h1'
    · match i, (show i < 4 by omega) with
      | 0, _ => exact h3
      | 1, _ => exact h4
      | 2, _ => exact h5
      | 3, _ => exact h6

theorem Utf.app {s t : Bs} (hs : Utf s) (ht : Utf t) : Utf (s ++ t) := by
  induction hs with
  | nil => exact ht
  | @step s h hd hr ih =>
    have hl := decU_len h
    have hloc := (decU_loc h hd (s.drop (decU s).2 ++ t)).1
    rw [← List.append_assoc, List.take_append_drop] at hloc
    refine .step (by simp [h]) (by rw [hloc]; exact hd) ?_
    rw [hloc, List.drop_append_of_le_length hl.2]
    exact ih

theorem Utf.ahead : ∀ (m : Nat) {a b : Bs}, a.length ≤ m → Utf (a ++ b) → (∀ x, a.getLast? = some x → x.toNat < 128) → Utf a
  | m, [], b, _, _, _ => .nil
  | 0, x :: a, b, h, _, _ => by simp at h
  | m + 1, x :: a, b, h, hu, hlast => by
    generalize hA : x :: a = A at *
    have hne : A ≠ [] := by rw [← hA]; simp
    have h1 : A ++ b ≠ [] := by simp [hne]
    obtain ⟨hd, hr⟩ := hu.inv h1
    · have hl := decU_len h1
      have hloc := decU_loc h1 hd
      rcases Nat.lt_or_ge A.length (decU (A ++ b)).2 with hw | hw
      · exfalso
        have hA1 : 1 ≤ A.length := by rw [← hA]; simp
        have := (hloc []).2 (by omega) (A.length - 1) (by omega)
        have hg : A.getLast? = some (A[A.length - 1]'(by omega)) := by rw [List.getLast?_eq_getElem?, List.getElem?_eq_getElem]
        have h2 := hlast _ hg
        have h3 : (A ++ b).getD (A.length - 1) 0 = A[A.length - 1]'(by omega) := by
          simp [List.getD, List.getElem?_append, show A.length - 1 < A.length by omega]
        rw [h3] at this
        omega
      · have e1 : (A ++ b).take (decU (A ++ b)).2 = A.take (decU (A ++ b)).2 := List.take_append_of_le_length hw
        have h3 := (hloc (A.drop (decU (A ++ b)).2)).1
        rw [e1, List.take_append_drop] at h3
        have hA1 := decU_len hne
        refine .step hne (by rw [h3]; exact hd) ?_
        rw [h3]
        rw [List.drop_append_of_le_length hw] at hr
        refine Utf.ahead m (by simp; omega) hr fun y hy => hlast y ?_
        rw [List.getLast?_drop] at hy
        split at hy
        · cases hy
        · exact hy

end Go.Zam

namespace Go.Zam
set_option linter.all false
set_option maxRecDepth 100000
set_option maxHeartbeats 2000000

/-- the tokens of a text that begins at a place -/
inductive Toks : Bs → Nat → List Tk → Prop
  | fin {s : Bs} {n : Nat} (h : (tokN (s.drop (leadS false s))).1 = 0) (h0 : s.drop (leadS false s) = []) : Toks s n [⟨0, n + leadS false s, s.take (leadS false s), []⟩]
  | tok {s : Bs} {n : Nat} {l : List Tk} (h : (tokN (s.drop (leadS false s))).1 = 0) (h0 : s.drop (leadS false s) ≠ []) (hr : Toks ((s.drop (leadS false s)).drop (tokN (s.drop (leadS false s))).2.2) (n + leadS false s + (tokN (s.drop (leadS false s))).2.2) l) :
      Toks s n (⟨(tokN (s.drop (leadS false s))).2.1, n + leadS false s, s.take (leadS false s), (s.drop (leadS false s)).take (tokN (s.drop (leadS false s))).2.2⟩ :: l)

theorem lexF_toks : ∀ (f : Nat) (s : Bs) (n c : Nat), s.length < f → ((lexF f s n c).2.1 = 0 ↔ ∃ l, Toks s n l ∧ c + l.length ≤ 4000) ∧ ((lexF f s n c).2.1 = 0 → Toks s n (lexF f s n c).1 ∧ c + (lexF f s n c).1.length ≤ 4000)
  | 0, s, n, c, h => by omega
  | f + 1, s, n, c, h => by
    have htl := tokN_len (s.drop (leadS false s))
    obtain ⟨t1, t2, t3, t4⟩ := htl
    rw [lexF]
    by_cases he : (tokN (s.drop (leadS false s))).1 = 0
    case neg =>
      rw [if_pos he]
      refine ⟨⟨fun e => absurd e he, ?_⟩, fun e => absurd e he⟩
      rintro ⟨l, hl, -⟩
      cases hl with
      | fin h1 h2 => exact absurd h1 he
      | tok h1 h2 h3 => exact absurd h1 he
    rw [if_neg (by simp [he])]
    by_cases hc : 4000 ≤ c
    case pos =>
      rw [if_pos hc]
      refine ⟨⟨fun e => absurd e (by simp), ?_⟩, fun e => absurd e (by simp)⟩
      rintro ⟨l, hl, hlc⟩
      cases hl with
      | fin h1 h2 => simp at hlc; omega
      | tok h1 h2 h3 => simp at hlc; omega
    rw [if_neg hc]
    by_cases hk : (tokN (s.drop (leadS false s))).2.1 = 0
    · rw [if_pos hk]
      have hnil := t2 he hk
      have hT : Toks s n [⟨(tokN (s.drop (leadS false s))).2.1, n + leadS false s, s.take (leadS false s), (s.drop (leadS false s)).take (tokN (s.drop (leadS false s))).2.2⟩] := by
        have := Toks.fin (n := n) he hnil
        rw [hk, hnil]
        simpa using this
      exact ⟨⟨fun _ => ⟨_, hT, by simp; omega⟩, fun _ => rfl⟩, fun _ => ⟨hT, by simp; omega⟩⟩
    · rw [if_neg hk]
      have hne : s.drop (leadS false s) ≠ [] := fun e => hk (t4 e)
      have hm := t3 he hne
      have hlen : ((s.drop (leadS false s)).drop (tokN (s.drop (leadS false s))).2.2).length < f := by
        simp only [List.length_drop] at t1 ⊢
        have : leadS false s < s.length := by
          rcases Nat.lt_or_ge (leadS false s) s.length with h' | h'
          · exact h'
          · exact absurd (List.drop_eq_nil_of_le h') hne
        omega
      obtain ⟨i1, i2⟩ := lexF_toks f _ (n + leadS false s + (tokN (s.drop (leadS false s))).2.2) (c + 1) hlen
      generalize lexF f ((s.drop (leadS false s)).drop (tokN (s.drop (leadS false s))).2.2) (n + leadS false s + (tokN (s.drop (leadS false s))).2.2) (c + 1) = R at i1 i2
      by_cases hR : R.2.1 = 0
      · rw [if_pos hR]
        obtain ⟨j1, j2⟩ := i2 hR
        have hT := Toks.tok (n := n) he hne j1
        exact ⟨⟨fun _ => ⟨_, hT, by simp; omega⟩, fun _ => rfl⟩, fun _ => ⟨hT, by simp; omega⟩⟩
      · rw [if_neg hR]
        refine ⟨⟨fun e => absurd e hR, ?_⟩, fun e => absurd e hR⟩
        rintro ⟨l, hl, hlc⟩
        exfalso
        cases hl with
        | fin h1 h2 => exact hne h2
        | tok h1 h2 h3 => exact hR (i1.2 ⟨_, h3, by simp at hlc; omega⟩)

/-- what token.Lex answers, where nothing is wrong -/
theorem lexS_ok (s : Bs) : ((lexS s).2.1 = 0 ↔ s.length ≤ 16384 ∧ Utf s ∧ ∃ l, Toks s 0 l ∧ l.length ≤ 4000) ∧ ((lexS s).2.1 = 0 → Toks s 0 (lexS s).1 ∧ (lexS s).1.length ≤ 4000) := by
  have hu := badS_utf s
  unfold lexS
  by_cases h1 : 16384 < s.length
  · rw [if_pos h1]
    exact ⟨⟨fun e => absurd e (by simp), fun e => by omega⟩, fun e => absurd e (by simp)⟩
  rw [if_neg h1]
  by_cases h2 : 0 ≤ badS s
  · rw [if_pos h2]
    exact ⟨⟨fun e => absurd e (by simp), fun e => absurd e.2.1 fun q => hu.2 q h2⟩, fun e => absurd e (by simp)⟩
  rw [if_neg h2]
  obtain ⟨i1, i2⟩ := lexF_toks (s.length + 1) s 0 0 (by omega)
  refine ⟨?_, fun e => by simpa using i2 e⟩
  rw [i1]
  simp only [Nat.zero_add]
  exact ⟨fun ⟨l, a, b⟩ => ⟨by omega, hu.1 h2, l, a, b⟩, fun ⟨_, _, q⟩ => q⟩

/-- what one token is -/
def TkAt (p : Nat) (last : Prop) (t : Tk) : Prop := t.a = p + t.l.length ∧ (t.k = 0 ↔ last) ∧ (t.x = [] ↔ t.k = 0)

theorem Toks.join {s : Bs} {n : Nat} {l : List Tk} (h : Toks s n l) : joinS l = s ∧ (∃ t, l.getLast? = some t ∧ t.k = 0) ∧ ∀ (i : Nat) (t : Tk), l[i]? = some t → TkAt (n + (joinS (l.take i)).length) (i + 1 = l.length) t := by
  induction h with
  | @fin s n h1 h2 =>
    refine ⟨?_, ⟨_, rfl, rfl⟩, fun i t hi => ?_⟩
    · simp only [joinS, List.flatMap_cons, List.flatMap_nil, List.append_nil]
      have := List.take_append_drop (leadS false s) s
      rw [h2, List.append_nil] at this
      exact this
    · cases i with
      | zero =>
        simp at hi; subst hi
        have := lead_le false s
        refine ⟨by simp [joinS]; omega, by simp, by simp⟩
      | succ i => simp at hi
  | @tok s n l h1 h2 h3 ih =>
    obtain ⟨j1, ⟨t0, j2, j3⟩, j4⟩ := ih
    have hl := lead_le false s
    obtain ⟨m1, m2, m3, m4⟩ := tokN_len (s.drop (leadS false s))
    have hne : l ≠ [] := fun e => by subst e; simp at j2
    have hm := m3 h1 h2
    have hx : (s.drop (leadS false s)).take (tokN (s.drop (leadS false s))).2.2 ≠ [] := fun e => by
      have := congrArg List.length e
      simp only [List.length_take, List.length_nil] at this
      omega
    have hk : ¬ (tokN (s.drop (leadS false s))).2.1 = 0 := fun e => h2 (m2 h1 e)
    have hlx : ((s.drop (leadS false s)).take (tokN (s.drop (leadS false s))).2.2).length = (tokN (s.drop (leadS false s))).2.2 := by simp only [List.length_take]; omega
    refine ⟨?_, ⟨t0, ?_, j3⟩, fun i t hi => ?_⟩
    · have e : joinS (⟨(tokN (s.drop (leadS false s))).2.1, n + leadS false s, s.take (leadS false s), (s.drop (leadS false s)).take (tokN (s.drop (leadS false s))).2.2⟩ :: l) = (s.take (leadS false s) ++ (s.drop (leadS false s)).take (tokN (s.drop (leadS false s))).2.2) ++ joinS l := rfl
      rw [e, j1, List.append_assoc, List.take_append_drop, List.take_append_drop]
    · rw [List.getLast?_cons, j2]; rfl
    · cases i with
      | zero =>
        simp at hi; subst hi
        refine ⟨by simp [joinS]; omega, ?_, ?_⟩
        · simp [hk]; exact hne
        · simp only; exact ⟨fun e => absurd e hx, fun e => absurd e hk⟩
      | succ i =>
        simp at hi
        obtain ⟨q1, q2, q3⟩ := j4 i t hi
        refine ⟨?_, ?_, q3⟩
        · rw [q1, List.take_succ_cons]
          have e : joinS (⟨(tokN (s.drop (leadS false s))).2.1, n + leadS false s, s.take (leadS false s), (s.drop (leadS false s)).take (tokN (s.drop (leadS false s))).2.2⟩ :: l.take i) = (s.take (leadS false s) ++ (s.drop (leadS false s)).take (tokN (s.drop (leadS false s))).2.2) ++ joinS (l.take i) := rfl
          rw [e]
          simp only [List.length_append, hlx, List.length_take]
          omega
        · rw [q2]; simp

end Go.Zam

namespace Go.Zam
set_option linter.all false
set_option maxRecDepth 100000
set_option maxHeartbeats 1000000

/-- the last token is an end -/
def EndsL (L : List Tk) : Prop := ∀ i, i + 1 = L.length → kdT L i = 0
theorem kdT_ltE {L : List Tk} {i : Nat} (hE : EndsL L) (h : kdT L i ≠ 0) : i + 1 < L.length := by
  have := kdT_lt h
  rcases Nat.lt_or_ge (i + 1) L.length with h' | h'
  · exact h'
  · exact absurd (hE i (by omega)) h
theorem isT_kd {L : List Tk} {i : Nat} {x : Bs} (h : isT L i x = true) : kdT L i ≠ 0 := by
  unfold isT at h
  unfold kdT
  cases hg : L[i]? with
  | none => rw [hg] at h; cases h
  | some t =>
    rw [hg] at h
    simp at h ⊢
    rcases h.1 with h | h <;> omega
theorem isT_ltE {L : List Tk} {i : Nat} {x : Bs} (hE : EndsL L) (h : isT L i x = true) : i + 1 < L.length := kdT_ltE hE (isT_kd h)

/-- where it ends, or can't go on, there is a token -/
def Bd (L : List Tk) : PR → Prop
  | .ok _ j | .bad j => j < L.length
  | .out => True

section
variable {L : List Tk}
theorem Bd.want (hE : EndsL L) {k : Nat} {x : Bs} {h : Nat → PR} (hk : k < L.length) (hh : k + 1 < L.length → Bd L (h (k + 1))) : Bd L (wantR L k x h) := by
  unfold wantR
  split
  · rename_i e; exact hh (isT_ltE hE e)
  · exact hk
theorem Bd.word (hE : EndsL L) {k : Nat} {h : Bs → Nat → PR} (hk : k < L.length) (hh : k + 1 < L.length → Bd L (h (txT L k) (k + 1))) : Bd L (wordR L k h) := by
  unfold wordR
  split
  · rename_i e; exact hh (kdT_ltE hE (by omega))
  · exact hk
theorem Bd.ifT (hE : EndsL L) {k : Nat} {x : Bs} {a b : PR} (ha : k + 1 < L.length → Bd L a) (hb : Bd L b) : Bd L (if isT L k x then a else b) := by
  split
  · rename_i e; exact ha (isT_ltE hE e)
  · exact hb
theorem Bd.ifK (hE : EndsL L) {k : Nat} {x : Int} {a b : PR} (hx : x ≠ 0) (ha : k + 1 < L.length → Bd L a) (hb : Bd L b) : Bd L (if kdT L k = x then a else b) := by
  split
  · rename_i e; exact ha (kdT_ltE hE (by omega))
  · exact hb
theorem Bd.if0 {k : Nat} {a b : PR} (ha : Bd L a) (hb : Bd L b) : Bd L (if kdT L k = 0 then a else b) := by
  split
  · exact ha
  · exact hb
theorem Bd.ifS (hE : EndsL L) {k : Nat} {x : Bs} {a b : PR} (ha : k + 2 < L.length → Bd L a) (hb : Bd L b) : Bd L (if kdT L k = 1 ∧ isT L (k + 1) x = true then a else b) := by
  split
  · rename_i e; exact ha (by have := isT_ltE hE e.2; omega)
  · exact hb
theorem Bd.thenG {r : PR} {h : N → Nat → PR} (hr : Bd L r) (hh : ∀ m j, j < L.length → Bd L (h m j)) : Bd L (r.then h) := by
  cases r with
  | out => trivial
  | bad j => exact hr
  | ok m j => exact hh m j hr

end

/-! what a text's tokens are like -/

theorem tokN_key (s : Bs) : (tokN s).1 = 0 → (tokN s).2.1 = 2 → s.take (tokN s).2.2 ∈ keysL := by
  cases s with
  | nil => intro _ h; cases h
  | cons b r =>
    rw [tokN]
    (repeat' split) <;> simp_all

theorem Toks.like {s : Bs} {n : Nat} {l : List Tk} (h : Toks s n l) : l ≠ [] ∧ EndsL l ∧ (∀ i, i + 1 < l.length → kdT l i ≠ 0) ∧ ∀ t ∈ l, t.k = 2 → t.x ∈ keysL := by
  induction h with
  | fin h h0 =>
    refine ⟨by simp, fun i hi => ?_, fun i hi => by simp at hi, ?_⟩
    · have : i = 0 := by simp at hi; omega
      subst this; rfl
    · intro t ht hk
      simp at ht; subst ht
      simp at hk
  | @tok s n l h h0 hr ih =>
    obtain ⟨i1, i2, i3, i4⟩ := ih
    have htl := tokN_len (s.drop (leadS false s))
    obtain ⟨t1, t2, t3, t4⟩ := htl
    have hl : 0 < l.length := List.length_pos_iff.2 i1
    refine ⟨by simp, fun i hi => ?_, fun i hi => ?_, ?_⟩
    · cases i with
      | zero => exact absurd hi (by simp only [List.length_cons]; omega)
      | succ i => exact i2 i (by simpa using hi)
    · cases i with
      | zero =>
        show (tokN (s.drop (leadS false s))).2.1 ≠ 0
        exact fun e => h0 (t2 h e)
      | succ i => exact i3 i (by simpa using hi)
    · intro t ht hk
      rcases List.mem_cons.1 ht with rfl | ht
      · exact tokN_key _ h hk
      · exact i4 t ht hk

theorem noEq_of {l : List Tk} (h : ∀ t ∈ l, t.k = 2 → t.x ∈ keysL) (i : Nat) (hi : isT l i [61] = true) : kdT l i = 5 := by
  unfold isT at hi
  unfold kdT
  cases hg : l[i]? with
  | none => rw [hg] at hi; cases hi
  | some t =>
    rw [hg] at hi
    simp at hi ⊢
    rcases hi.1 with e | e
    · have := h t (List.mem_of_getElem? hg) e
      rw [hi.2] at this
      exact absurd this (by decide)
    · exact e

theorem lexS_like {s : Bs} (h : (lexS s).2.1 = 0) : (lexS s).1 ≠ [] ∧ EndsL (lexS s).1 ∧ (∀ i, i + 1 < (lexS s).1.length → kdT (lexS s).1 i ≠ 0) ∧ (∀ i, isT (lexS s).1 i [61] = true → kdT (lexS s).1 i = 5) ∧ (lexS s).1.length ≤ 4000 := by
  obtain ⟨h1, h2⟩ := (lexS_ok s).2 h
  obtain ⟨a1, a2, a3, a4⟩ := h1.like
  exact ⟨a1, a2, a3, noEq_of a4, h2⟩

section
variable {P : Program}

end
end Go.Zam

namespace Go.Zam
set_option linter.all false
set_option maxRecDepth 100000
set_option maxHeartbeats 1000000

def typeF (L : List Tk) : PR := pp L (16 * L.length + 8) .kind 0
/-- the tree of a type's tokens, or why there is none -/
def typeP (L : List Tk) : N × Int := match typeF L with
  | .ok n k => if kdT L k = 0 then if 60 < n.depth then (N.none, 25) else (n, 0) else (N.none, 24)
  | _ => (N.none, 24)
/-- the tree of a type's text, or why there is none -/
def typeO (s : Bs) : N × Int := if (lexS s).2.1 ≠ 0 then (N.none, (lexS s).2.1) else typeP (lexS s).1

section
variable {P : Program} {F : PF}

/-- kinds alone -/
theorem KHas.kinds (hF : KHas P F) {z : Bool} {L : List Tk} (hL : L.length ≤ 1048576) : ∀ n, n ≤ 1099511627776 → UC P F.tp z L n .kind F.kind ∧ UCc P F.tp F.tb z L n .tfield F.tfield := by
  intro n
  induction n using Nat.strongRecOn with
  | ind n ih =>
  intro hn
  cases n with
  | zero => exact ⟨UC_zero (by decide), UCc_zero (by decide)⟩
  | succ n =>
    exact ⟨hF.kind' hL n (by omega) (fun m hm => (ih m (by omega) (by omega)).2) (fun m hm => (ih m hm (by omega)).1), hF.tfield' hL n (by omega) (ih n (by omega) (by omega)).1⟩

theorem Has.type_ {f fl fd} (h : Has P f (irPType fl F.kind F.now F.fail fd F.tn F.tp)) (hF : KHas P F) (hd : Has P fd (irTDepth fd F.tn)) {H0 : Hp}
    (hl : ∀ (s : Bs), s.length ≤ 1048576 → ∀ H, Pre0 H0 H → ACall P fl [.d (.str s)] H (fun r H' => r = .tup [.d (.sl true 4 ((lexS s).1.map encTk)), .d (.int .i64 (lexS s).2.1), .d (.int .i64 (lexS s).2.2)] ∧ H' = H))
    (s : Bs) (hs : s.length ≤ 1048576) (H : Hp) (hH : Pre0 H0 H) : ACall P f [.d (.str s)] H (fun r H' => r = .tup [(typeO s).1.v, .d (.int .i64 (typeO s).2)] ∧ H' = H) := by
  obtain ⟨fn, hf, hcf⟩ := h
  refine acall_fin hf hcf (by simp [irPType]) fun hcl _ => ?_
  obtain ⟨Q, hQ⟩ : ∃ Q : A → Hp → Prop, Q = fun r H' => r = .tup [(typeO s).1.v, .d (.int .i64 (typeO s).2)] ∧ H' = H := ⟨_, rfl⟩
  rw [← hQ]
  have hnone : ∀ e : Int, typeO s = (N.none, e) → Q (.tup [.agg [.d (.int .i64 0), .d (.int .i64 0), .d (.int .i64 0), .d (.str []), .d (.int .i64 0), .d (.sl true 6 [])], .d (.int .i64 e)]) H := fun e h => by
    subst hQ
    rw [h]
    exact ⟨rfl, rfl⟩
  have hO : typeO s = if (lexS s).2.1 ≠ 0 then (N.none, (lexS s).2.1) else typeP (lexS s).1 := rfl
  have hlk := lexS_like (s := s)
  obtain ⟨r0, hr0⟩ : ∃ r0 : Ob, r0 = .box F.tn [.d (.int .i64 0), .d (.int .i64 0), .d (.int .i64 0), .d (.str []), .d (.int .i64 0), .d (.sl true 6 [])] := ⟨_, rfl⟩
  have g1 := hl s hs _ (hH.app [r0])
  generalize lexS s = LS at hO hlk g1
  obtain ⟨L, e, b⟩ := LS
  simp only at hO hlk g1
  rw [hr0] at g1
  simp [irPType]
  refine CallK_of' g1 ?_
  by_cases he : e = 0
  case neg =>
    rw [if_pos he] at hO
    simp [he]
    simp [RetK, cut_app hcl]
    exact hnone e hO
  rw [if_neg (by simp [he])] at hO
  obtain ⟨l1, l2, l3, l4, l5⟩ := hlk he
  simp [he]
  have hA := (hF.kinds (z := true) (L := L) (by omega) (16 * L.length + 8) (by omega)).1
  have g := hA (H ++ [r0, pst F.tp true L (0, none)]) [] (H.length + 1) (0, none) (by simp) ⟨by simp only [G.c]; omega, by simp only [G.c]; omega, fun _ => ⟨Nat.zero_le _, by simp only [G.c]; omega⟩⟩
  have e1 : ∀ s, (H ++ [r0, pst F.tp true L (0, none)]).set (H.length + 1) (pst F.tp true L s) ++ [] = H ++ [r0, pst F.tp true L s] := fun s => by simp
  rw [e1] at g
  rw [hr0] at g
  refine CallK_of g ?_
  rintro _ _ ⟨m, s', rfl, rfl, hrel⟩
  rw [← hr0, e1]
  rcases hrel.none' with ⟨q, b, hq, rfl, e3⟩ | ⟨k', hk, rfl⟩
  · have hq' : typeF L = .bad q := hq
    have hP : typeP L = (N.none, 24) := by unfold typeP; rw [hq']
    rw [hP] at hO
    obtain ⟨k2, f2, t2, w2, a2, z2, ks2⟩ := m
    rw [N.v_mk, hr0]
    simp [pst]
    repeat' apply And.intro
    all_goals
      simp [RetK, cut_app hcl]
      try exact hnone 24 hO
  have hk' : typeF L = .ok m k' := hk
  have hsz := pp_size (L := L) (16 * L.length + 8) .kind 0 trivial
  rw [show pp L (16 * L.length + 8) .kind 0 = .ok m k' from hk] at hsz
  simp only [Sz, G.k1, G.sz, N.sizes_nil] at hsz
  have hadv := pp_adv (L := L) (16 * L.length + 8) .kind 0
  rw [show pp L (16 * L.length + 8) .kind 0 = .ok m k' from hk] at hadv
  obtain ⟨v1, -, v3⟩ := hadv
  have hdep := N.depth_size m
  have hd' := hd.depth m (by omega)
  have hnow : ∀ X, ACall P F.now [.ptr (H.length + 1) 0] (H ++ (r0 :: pst F.tp true L (k', none) :: X)) (fun r H' => r = tokA_ L k' ∧ H' = H ++ (r0 :: pst F.tp true L (k', none) :: X)) := fun X => hF.now' (z := true) (s := (k', none)) (by simp)
  have hfail : ∀ X, ACall P F.fail [.ptr (H.length + 1) 0, .d (.int .i64 24)] (H ++ (r0 :: pst F.tp true L (k', none) :: X)) (fun r H' => r = .tup [] ∧ H' = H ++ (r0 :: pst F.tp true L (k', some k') :: X)) := fun X => by
    have := hF.fail' (z := true) (L := L) (H := H ++ (r0 :: pst F.tp true L (k', none) :: X)) (i := H.length + 1) (s := (k', none)) (by simp)
    simpa [failS] using this
  obtain ⟨k2, f2, t2, w2, a2, z2, ks2⟩ := m
  rw [N.v_mk] at hd'
  have hnk := hnow [.box F.tn [.d (.int .i64 k2), .d (.int .i64 f2), .d (.int .i64 t2), .d (.str w2), .d (.int .i64 a2), .d (.sl z2 6 (ks2.map N.enc))]]
  have hfk := hfail [.box F.tn [.d (.int .i64 k2), .d (.int .i64 f2), .d (.int .i64 t2), .d (.str w2), .d (.int .i64 a2), .d (.sl z2 6 (ks2.map N.enc))]]
  rw [hr0] at hnk hfk
  rw [N.v_mk, hr0]
  simp only [pst] at hnk hfk
  simp [pst]
  simp at hnk hfk
  obtain ⟨ta, tl, htk⟩ := tokA_k L k'
  rw [htk] at hnk
  refine CallK_of' hnk ?_
  by_cases hkd : kdT L k' = 0
  · simp [hkd]
    refine CallK_of' (hd' _) ?_
    by_cases hdp : 60 < (N.mk k2 f2 t2 w2 a2 z2 ks2).depth
    · have hP : typeP L = (N.none, 25) := by unfold typeP; rw [hk']; simp [hkd, hdp]
      rw [hP] at hO
      have hdi : (60 : Int) < ((N.mk k2 f2 t2 w2 a2 z2 ks2).depth : Int) := by omega
      simp [hdi]
      simp [RetK, cut_app hcl]
      exact hnone 25 hO
    · have hP : typeP L = (N.mk k2 f2 t2 w2 a2 z2 ks2, 0) := by unfold typeP; rw [hk']; simp [hkd, hdp]
      rw [hP] at hO
      have hdi : ¬ (60 : Int) < ((N.mk k2 f2 t2 w2 a2 z2 ks2).depth : Int) := by omega
      simp [hdi]
      simp [RetK, cut_app hcl]
      subst hQ
      rw [hO, N.v_mk]
      exact ⟨rfl, rfl⟩
  · have hP : typeP L = (N.none, 24) := by unfold typeP; rw [hk']; simp [hkd]
    rw [hP] at hO
    simp [hkd]
    refine CallK_of' hfk ?_
    simp
    repeat' apply And.intro
    all_goals
      simp [RetK, cut_app hcl]
      try exact hnone 24 hO

end
end Go.Zam

namespace Go.Zam
set_option linter.all false
set_option maxRecDepth 100000
set_option maxHeartbeats 2000000
open Classical

theorem N.sizes_get {k f t : Int} {w : Bs} {a : Int} {z : Bool} {ks : List N} {i : Nat} {p : N} (h : ks[i]? = some p) : p.size < (N.mk k f t w a z ks).size := by
  have := N.sizes_mem (List.mem_of_getElem? h)
  rw [N.size_mk]; omega

/-- what is asked of a function that tells a tree's type -/
def OfT (P : Program) (f : FuncId) (n : N) : Prop := ∀ (H : Hp), ACall P f [n.v] H (fun r H' => r = .tup [n.ty.1.a, .d (.int .i64 n.ty.2)] ∧ H' = H)

/-- what a record's tree comes to -/
noncomputable def recNR (ks : List N) : T × Int := if badE (ks.map N.fty) ≠ 0 then (T.nil, badE (ks.map N.fty)) else recT (ks.map N.w) ((ks.map N.fty).map Prod.fst)

section
variable {P : Program}

/-- a record's tree -/
theorem Has.tyRecN {f fo fr_ : FuncId} {t1 t2 t3 : TypeId} (h : HasT P [4, 5] f (irTyRecN fo fr_ t1 t2 t3)) (hR : RecT P fr_) (n : N) (hs : n.size ≤ 1048576) (hO : ∀ p ∈ n.ks, ∀ q ∈ p.ks, OfT P fo q) (H : Hp) :
    ACall P f [n.v] H (fun r H' => r = .tup [(recNR n.ks).1.a, .d (.int .i64 (recNR n.ks).2)] ∧ H' = H) := by
  obtain ⟨fn, hf, hcf⟩ := h
  obtain ⟨k, f0, t0, w, a, z, ks⟩ := n
  have hlen : ks.length ≤ 1048576 := by
    have := N.sizes_len ks
    rw [N.size_mk] at hs; omega
  simp only [N.ks] at hO ⊢
  refine acall_fin hf hcf (by simp [irTyRecN]) fun hcl _ => ?_
  obtain ⟨Q, hQ⟩ : ∃ Q : A → Hp → Prop, Q = fun r H' => r = .tup [(recNR ks).1.a, .d (.int .i64 (recNR ks).2)] ∧ H' = H := ⟨_, rfl⟩
  rw [← hQ]
  have hbad : ∀ (i : Nat) (p : T × Int), (∀ q ∈ (ks.map N.fty).take i, q.2 = 0) → (ks.map N.fty)[i]? = some p → p.2 ≠ 0 → Q (.tup [.agg [.d (.int .i64 0), .d (.sl true 1 []), .d (.sl true 3 [])], .d (.int .i64 p.2)]) H := fun i p h1 h2 h3 => by
    have := badE_at h1 h2 h3
    subst hQ
    have e : recNR ks = (T.nil, p.2) := by rw [recNR, if_pos (by rw [this]; exact h3), this]
    rw [e]
    exact ⟨rfl, rfl⟩
  rw [N.v_mk]
  simp [irTyRecN]
  refine RangeK_of (H.length + 4) ks.length (fun i fr H' => fr 2 = .ptr (H.length + 1) 0 ∧ fr 11 = .d (.sl z 6 (ks.map N.enc)) ∧ fr 4 = .osl true 1 ((ks.map (encStr ∘ N.w)).take i) (H.length + 2) ∧ fr 5 = .osl true 3 ((ks.map (T.enc ∘ (Prod.fst ∘ N.fty))).take i) (H.length + 3) ∧
    (∀ q ∈ (ks.map N.fty).take i, q.2 = 0) ∧
    H' = H ++ [.box t1 [.d (.int .i64 k), .d (.int .i64 f0), .d (.int .i64 t0), .d (.str w), .d (.int .i64 a), .d (.sl z 6 (ks.map N.enc))], .box t2 [.d (.int .i64 0), .d (.sl true 1 []), .d (.sl true 3 [])], .tok i 1 t3, .tok i 3 t2]) (by omega) (by decide) (by simp) (by simp) ?_ ?_ ?_
  · simp [cut_appk hcl, A.lo]
  · rintro i fr H' hi f13 f12 ⟨f2, f11, f4, f5, hz, rfl⟩
    have hr := rowAt_map N.enc hi
    have hg : ks[i]? = some ks[i] := List.getElem?_eq_getElem hi
    have hmem := List.getElem_mem hi
    have ta := take_map_succ (encStr ∘ N.w) hi
    have tb := take_map_succ (T.enc ∘ (Prod.fst ∘ N.fty)) hi
    have tc := take_map_succ N.fty hi
    have hm : min i ks.length = i := by omega
    have hc1 : (i + 1) * 16 ≤ 140737488355328 := by omega
    have hc2 : (i + 1) * 56 ≤ 140737488355328 := by omega
    have hO' := hO _ hmem
    generalize ks[i] = p at hr hg hmem ta tb tc hO'
    have hgf : (ks.map N.fty)[i]? = some p.fty := by simp [hg]
    obtain ⟨k1, f1, t1', w1, a1, z1, ks1⟩ := p
    rw [N.enc_mk] at hr
    by_cases hk : k1 = 33
    case neg =>
      have hno : (N.mk k1 f1 t1' w1 a1 z1 ks1).fty = (T.nil, 8) := N.fty_not fun h => hk h.1
      rw [hno] at hgf
      simp [f13, f11, hr, hk, f2]
      simp [RetK, cut_app hcl, f2]
      exact hbad i _ hz hgf (by decide)
    by_cases hl : ks1.length = 1
    case neg =>
      have hno : (N.mk k1 f1 t1' w1 a1 z1 ks1).fty = (T.nil, 8) := N.fty_not fun h => hl h.2
      rw [hno] at hgf
      have hl' : ¬ (ks1.length : Int) = 1 := by omega
      simp [f13, f11, hr, hk, f2, hl, hl']
      simp [RetK, cut_app hcl, f2]
      exact hbad i _ hz hgf (by decide)
    obtain ⟨m, rfl⟩ := List.length_eq_one_iff.1 hl
    have hyes : (N.mk k1 f1 t1' w1 a1 z1 [m]).fty = m.ty := N.fty_one hk
    have hx := hO' m (by simp [N.ks])
    simp only [Function.comp_apply, hyes] at tb tc
    rw [hyes] at hgf
    have hwd : N.w (.mk k1 f1 t1' w1 a1 z1 [m]) = w1 := rfl
    simp only [Function.comp_apply, hwd, encStr] at ta
    unfold OfT at hx
    generalize m.ty = ty at hx hgf tb tc
    obtain ⟨v, e⟩ := ty
    obtain ⟨k2, f2', t2', w2, a2, z2, ks2⟩ := m
    have hr0 : Zam.rowAt [(N.mk k2 f2' t2' w2 a2 z2 ks2).enc] 0 = some [.int .i64 k2, .int .i64 f2', .int .i64 t2', .str w2, .int .i64 a2, .sl z2 6 (ks2.map N.enc)] := by rw [N.enc_mk]; rfl
    obtain ⟨kv, zv, nv, yv, pv⟩ := v
    rw [N.v_mk] at hx
    simp only [T.a_mk] at hx
    simp [f13, f11, hr, hk, f2, hr0]
    refine CallK_of' (hx _) ?_
    by_cases he : e = 0
    case neg =>
      simp [he, f2]
      simp [RetK, cut_app hcl, f2]
      exact hbad i _ hz hgf he
    subst he
    simp only [T.enc_mk] at tb
    simp [f4, f5, appA, hm, hc1, hc2, f13]
    refine NextK_of (H.length + 4) (Nat.le_refl _) (by simp [f13, f12]) ?_
    simp [f2, f11, cut_appk hcl, ta, tb, A.lo]
    rw [tc]
    intro q q2 hq
    rcases List.mem_append.1 hq with h | h
    · exact hz _ h
    · simp at h; exact h.2
  · rintro fr H' f13 f12 ⟨f2, f11, f4, f5, hz, rfl⟩
    have fa : (ks.map (encStr ∘ N.w)).take ks.length = ks.map (encStr ∘ N.w) := List.take_of_length_le (by simp)
    have fb : (ks.map (T.enc ∘ (Prod.fst ∘ N.fty))).take ks.length = ks.map (T.enc ∘ (Prod.fst ∘ N.fty)) := List.take_of_length_le (by simp)
    have fc : (ks.map N.fty).take ks.length = ks.map N.fty := List.take_of_length_le (by simp)
    rw [fa] at f4
    rw [fb] at f5
    rw [fc] at hz
    have hb0 : badE (ks.map N.fty) = 0 := badE_zero.2 hz
    have hrec := fun H => hR true true (ks.map N.w) ((ks.map N.fty).map Prod.fst) (by simpa using hlen) (by simpa using hlen) H
    simp only [List.map_map] at hrec
    have hfin : ∀ (v : T) (e : Int), (v, e) = recT (ks.map N.w) ((ks.map N.fty).map Prod.fst) → Q (.tup [v.a, .d (.int .i64 e)]) H := fun v e he => by
      subst hQ
      have e2 : recNR ks = (v, e) := by rw [recNR, if_neg (by simp [hb0]), he]
      rw [e2]
      exact ⟨rfl, rfl⟩
    simp only [List.map_map] at hfin
    generalize recT (ks.map N.w) (ks.map (Prod.fst ∘ N.fty)) = rt at hrec hfin
    obtain ⟨v, e⟩ := rt
    have hfin := hfin v e rfl
    obtain ⟨kv, zv, nv, yv, pv⟩ := v
    simp only [T.a_mk] at hrec hfin
    simp [f4, f5]
    refine CallK_shut (by simpa [A.shut] using hrec _) ?_
    simp [f2]
    simp [RetK, cut_app hcl, f2]
    exact hfin

/-- the type of a tree, however deep -/
theorem Has.tyOfN {f fr_ fR : FuncId} {t1 t2 t3 u1 u2 u3 : TypeId} (h : HasT P [29] f (irTyOfN fr_ f t1 t2 t3)) (hr : HasT P [4, 5] fr_ (irTyRecN f fR u1 u2 u3)) (hR : RecT P fR) (n : N) : n.size ≤ 1048576 → OfT P f n ∧ ∀ p ∈ n.ks, OfT P f p := by
  refine N.ind (Q := fun n => n.size ≤ 1048576 → OfT P f n ∧ ∀ p ∈ n.ks, OfT P f p) (fun k f0 t0 w a z ks ih => ?_) n
  intro hs
  have hsz : ∀ p ∈ ks, p.size ≤ 1048576 := fun p hp => by
    obtain ⟨i, hi⟩ := List.getElem?_of_mem hp
    have := N.sizes_get (k := k) (f := f0) (t := t0) (w := w) (a := a) (z := z) hi
    omega
  have hkids : ∀ p ∈ ks, OfT P f p := fun p hp => (ih p hp (hsz p hp)).1
  have hgrand : ∀ p ∈ ks, ∀ q ∈ p.ks, OfT P f q := fun p hp => (ih p hp (hsz p hp)).2
  refine ⟨?_, hkids⟩
  have hlen : ks.length ≤ 1048576 := by
    have := N.sizes_len ks
    rw [N.size_mk] at hs; omega
  intro H
  have hrec := fun H => Has.tyRecN hr hR (.mk k f0 t0 w a z ks) hs hgrand H
  obtain ⟨fn, hf, hcf⟩ := h
  refine acall_fin hf hcf (by simp [irTyOfN]) fun hcl _ => ?_
  have hty := N.ty_mk k f0 t0 w a z ks
  have hty2 : k = 32 → (N.mk k f0 t0 w a z ks).ty = recNR ks := fun hk => by
    rw [hty, if_neg (by omega), if_neg (by omega), if_neg (by omega), if_pos hk]; rfl
  obtain ⟨Q, hQ⟩ : ∃ Q : A → Hp → Prop, Q = fun r H' => r = .tup [(N.mk k f0 t0 w a z ks).ty.1.a, .d (.int .i64 (N.mk k f0 t0 w a z ks).ty.2)] ∧ H' = H := ⟨_, rfl⟩
  rw [← hQ]
  have hfin : ∀ (v : T) (e : Int), (N.mk k f0 t0 w a z ks).ty = (v, e) → Q (.tup [v.a, .d (.int .i64 e)]) H := fun v e he => by
    subst hQ
    rw [he]; exact ⟨rfl, rfl⟩
  rw [N.v_mk] at hrec ⊢
  by_cases c1 : k = 0
  · have := hfin T.nil 0 (by rw [hty, if_pos (.inl c1)])
    rw [T.a_nil] at this
    simp [irTyOfN, c1]
    simp [RetK, cut_app hcl]
    exact this
  by_cases c2 : k = 31
  · have := hfin T.nil 0 (by rw [hty, if_pos (.inr c2)])
    rw [T.a_nil] at this
    simp [irTyOfN, c2]
    simp [RetK, cut_app hcl]
    exact this
  by_cases c3 : k = 29
  · have := hfin (T.new 1 [] []) 0 (by rw [hty, if_neg (by omega), if_pos c3])
    rw [T.new, T.a_mk] at this
    simp [irTyOfN, c3]
    simp [RetK, cut_app hcl]
    simpa using this
  by_cases c4 : k = 30
  · have := hfin (T.new 2 [] []) 0 (by rw [hty, if_neg (by omega), if_neg c3, if_pos c4])
    rw [T.new, T.a_mk] at this
    simp [irTyOfN, c4]
    simp [RetK, cut_app hcl]
    simpa using this
  by_cases c5 : k = 32
  · have := fun v e (he : recNR ks = (v, e)) => hfin v e ((hty2 c5).trans he)
    simp only [N.ks] at hrec
    generalize recNR ks = rk at hrec this
    obtain ⟨v, e⟩ := rk
    have := this v e rfl
    obtain ⟨kv, zv, nv, yv, pv⟩ := v
    simp only [T.a_mk] at hrec this
    subst c5
    simp [irTyOfN]
    refine CallK_of' (hrec _) ?_
    simp
    simp [RetK, cut_app hcl]
    exact this
  by_cases c6 : k = 34
  case neg =>
    have := hfin T.nil 8 (by rw [hty, if_neg (by omega), if_neg c3, if_neg c4, if_neg c5, if_neg c6])
    rw [T.a_nil] at this
    simp [irTyOfN, c1, c2, c3, c4, c5, c6]
    simp [RetK, cut_app hcl]
    exact this
  -- a function's
  have hty3 : (N.mk k f0 t0 w a z ks).ty = if badE (ks.map N.ty) ≠ 0 then (T.nil, badE (ks.map N.ty)) else if ks = [] then (T.nil, 8) else (T.new 4 [] ((ks.map N.ty).map Prod.fst), 0) := by
    rw [hty, if_neg (by omega), if_neg c3, if_neg c4, if_neg c5, if_pos c6]
  have hbad : ∀ (i : Nat) (p : T × Int), (∀ q ∈ (ks.map N.ty).take i, q.2 = 0) → (ks.map N.ty)[i]? = some p → p.2 ≠ 0 → Q (.tup [.agg [.d (.int .i64 0), .d (.sl true 1 []), .d (.sl true 3 [])], .d (.int .i64 p.2)]) H := fun i p h1 h2 h3 => by
    have := badE_at h1 h2 h3
    exact hfin T.nil p.2 (by rw [hty3, if_pos (by rw [this]; exact h3), this])
  subst c6
  simp [irTyOfN]
  refine RangeK_of (H.length + 5) ks.length (fun i fr H' => fr 2 = .ptr (H.length + 1) 0 ∧ fr 31 = .d (.sl z 6 (ks.map N.enc)) ∧ fr 4 = .ptr (H.length + 4) 0 ∧
    (∀ q ∈ (ks.map N.ty).take i, q.2 = 0) ∧
    H' = H ++ [.box t1 [.d (.int .i64 34), .d (.int .i64 f0), .d (.int .i64 t0), .d (.str w), .d (.int .i64 a), .d (.sl z 6 (ks.map N.enc))], .box t2 [.d (.int .i64 0), .d (.sl true 1 []), .d (.sl true 3 [])], .tok 0 1 t3, .tok i 3 t2,
      .box t2 [.d (.int .i64 4), .osl true 1 [] (H.length + 2), .osl true 3 ((ks.map (T.enc ∘ (Prod.fst ∘ N.ty))).take i) (H.length + 3)]]) (by omega) (by decide) (by simp) (by simp) ?_ ?_ ?_
  · simp [cut_appk hcl]
  · rintro i fr H' hi f33 f32 ⟨f2, f31, f4, hz, rfl⟩
    have hr := rowAt_map N.enc hi
    have hg : ks[i]? = some ks[i] := List.getElem?_eq_getElem hi
    have hmem := List.getElem_mem hi
    have tb := take_map_succ (T.enc ∘ (Prod.fst ∘ N.ty)) hi
    have tc := take_map_succ N.ty hi
    have hm : min i ks.length = i := by omega
    have hc2 : (i + 1) * 56 ≤ 140737488355328 := by omega
    have hx := hkids _ hmem
    generalize ks[i] = p at hr hg hmem tb tc hx
    have hgf : (ks.map N.ty)[i]? = some p.ty := by simp [hg]
    unfold OfT at hx
    simp only [Function.comp_apply] at tb
    generalize p.ty = ty at hx hgf tb tc
    obtain ⟨v, e⟩ := ty
    obtain ⟨k1, f1, t1', w1, a1, z1, ks1⟩ := p
    obtain ⟨kv, zv, nv, yv, pv⟩ := v
    rw [N.enc_mk] at hr
    rw [N.v_mk] at hx
    simp only [T.a_mk] at hx
    simp [f33, f31, hr]
    refine CallK_of' (hx _) ?_
    by_cases he : e = 0
    case neg =>
      simp [he, f2]
      simp [RetK, cut_app hcl, f2]
      exact hbad i _ hz hgf he
    subst he
    simp only [T.enc_mk] at tb
    simp [f4, appA, hm, hc2, f33]
    refine NextK_of (H.length + 5) (Nat.le_refl _) (by simp [f33, f32]) ?_
    simp [f2, f4, f31, cut_appk hcl, tb]
    rw [tc]
    intro q q2 hq
    rcases List.mem_append.1 hq with h | h
    · exact hz _ h
    · simp at h; exact h.2
  · rintro fr H' f33 f32 ⟨f2, f31, f4, hz, rfl⟩
    have fb : (ks.map (T.enc ∘ (Prod.fst ∘ N.ty))).take ks.length = ks.map (T.enc ∘ (Prod.fst ∘ N.ty)) := List.take_of_length_le (by simp)
    have fc : (ks.map N.ty).take ks.length = ks.map N.ty := List.take_of_length_le (by simp)
    rw [fc] at hz
    have hb0 : badE (ks.map N.ty) = 0 := badE_zero.2 hz
    by_cases hks : ks = []
    · have := hfin T.nil 8 (by rw [hty3, if_neg (by simp [hb0]), if_pos hks])
      rw [T.a_nil] at this
      simp [f4, fb, hks, f2]
      simp [RetK, cut_app hcl, f2]
      exact this
    · have := hfin (T.new 4 [] ((ks.map N.ty).map Prod.fst)) 0 (by rw [hty3, if_neg (by simp [hb0]), if_neg hks])
      have hkl : ¬ ks.length = 0 := by simpa using hks
      rw [T.new, T.a_mk, List.map_map, List.map_map] at this
      have n2 : ¬ H.length + 2 < H.length := by omega
      have n3 : ¬ H.length + 3 < H.length := by omega
      simp [f4, fb, hks, f2]
      simp [RetK, cut_app hcl, f2, n2, n3]
      exact this

/-- term.Of -/
theorem Has.tyOf {f fo fd : FuncId} {t1 t2 : TypeId} (h : Has P f (irTyOf fo fd t1 t2)) (n : N) (ho : OfT P fo n) (hd : ∀ H, ACall P fd [n.ty.1.a] H (fun r H' => r = .d (.int .i64 (n.ty.1.dep : Int)) ∧ H' = H)) (H : Hp) :
    ACall P f [n.v] H (fun r H' => r = .tup [n.typ.1.a, .d (.int .i64 n.typ.2)] ∧ H' = H) := by
  obtain ⟨fn, hf, hcf⟩ := h
  refine acall_fin hf hcf (by simp [irTyOf]) fun hcl _ => ?_
  unfold OfT at ho
  have ht : n.typ = if n.ty.2 ≠ 0 then (T.nil, n.ty.2) else if 12 < n.ty.1.dep then (T.nil, 25) else n.ty := rfl
  generalize n.typ = ny at ht
  generalize n.ty = ty at ho hd ht
  obtain ⟨v, e⟩ := ty
  generalize hdd : v.dep = dd at hd ht
  simp only at ho hd ht hdd
  obtain ⟨kv, zv, nv, yv, pv⟩ := v
  obtain ⟨k1, f1, t1', w1, a1, z1, ks1⟩ := n
  rw [N.v_mk] at ho ⊢
  simp only [T.a_mk] at ho hd
  subst ht
  simp [irTyOf]
  refine CallK_of' (ho _) ?_
  by_cases he : e = 0
  case neg =>
    simp [he]
    simp [RetK, cut_app hcl, he, T.a_nil]
  subst he
  simp
  refine CallK_of' (hd _) ?_
  by_cases hd12 : 12 < dd
  · have : (12 : Int) < (dd : Int) := by omega
    simp [hd12, this]
    simp [RetK, cut_app hcl, hd12, T.a_nil]
  · have : ¬ (12 : Int) < (dd : Int) := by omega
    simp [hd12, this]
    simp [RetK, cut_app hcl, hd12, T.a_mk]

/-- the type of a text, or why there is none -/
noncomputable def typO (s : Bs) : T × Int := if (typeO s).2 ≠ 0 then (T.nil, (typeO s).2) else (typeO s).1.typ

theorem Has.tyParse {f fp fo : FuncId} {t1 t2 : TypeId} (h : Has P f (irTyParse fp fo t1 t2)) (s : Bs) (H : Hp) {H0 : Hp} (hH : Pre0 H0 H) (hp : ∀ H, Pre0 H0 H → ACall P fp [.d (.str s)] H (fun r H' => r = .tup [(typeO s).1.v, .d (.int .i64 (typeO s).2)] ∧ H' = H))
    (ho : ∀ H, ACall P fo [(typeO s).1.v] H (fun r H' => r = .tup [(typeO s).1.typ.1.a, .d (.int .i64 (typeO s).1.typ.2)] ∧ H' = H)) : ACall P f [.d (.str s)] H (fun r H' => r = .tup [(typO s).1.a, .d (.int .i64 (typO s).2)] ∧ H' = H) := by
  obtain ⟨fn, hf, hcf⟩ := h
  refine acall_fin hf hcf (by simp [irTyParse]) fun hcl _ => ?_
  have ht : typO s = if (typeO s).2 ≠ 0 then (T.nil, (typeO s).2) else (typeO s).1.typ := rfl
  generalize typO s = ty at ht
  generalize typeO s = ts at hp ho ht
  obtain ⟨n, e⟩ := ts
  simp only at hp ho ht
  generalize n.typ = ny at ho ht
  obtain ⟨v, e2⟩ := ny
  obtain ⟨kv, zv, nv, yv, pv⟩ := v
  obtain ⟨k1, f1, t1', w1, a1, z1, ks1⟩ := n
  rw [N.v_mk] at hp ho
  simp only [T.a_mk] at ho
  subst ht
  have hp' := hp _ (hH.app [.box t1 [.d (.int .i64 0), .d (.sl true 1 []), .d (.sl true 3 [])]])
  simp [irTyParse]
  refine CallK_of' hp' ?_
  by_cases he : e = 0
  case neg =>
    simp [he]
    simp [RetK, cut_app hcl, he, T.a_nil]
  subst he
  simp
  refine CallK_of' (ho _) ?_
  simp
  simp [RetK, cut_app hcl, T.a_mk]

end
end Go.Zam

namespace Go.Zam
open Go.Proofs
set_option linter.all false
set_option maxRecDepth 100000
set_option maxHeartbeats 1000000
open Classical

theorem T.nil_fit (b : Nat) : T.nil.Fit b := .mk _ _ _ _ _ (Nat.zero_le _) (Nat.zero_le _) (by simp) (by simp)
theorem T.nil_dep : T.nil.dep = 1 := rfl

/-- a node's words are no longer than a number -/
inductive N.Wd (b : Nat) : N → Prop
  | mk {k f t : Int} {w : Bs} {a : Int} {z : Bool} {ks : List N} (hw : w.length ≤ b) (h : ∀ p ∈ ks, N.Wd b p) : N.Wd b (.mk k f t w a z ks)

theorem recT_fit {b : Nat} {ns : List Str'} {ps : List T} (h1 : ns.length ≤ b) (h2 : ∀ x ∈ ns, x.length ≤ b) (h3 : ∀ p ∈ ps, p.Fit b) : (recT ns ps).1.Fit b := by
  unfold recT
  split
  · rename_i hl
    split
    · exact T.nil_fit b
    · have hp := ssort_perm cP_cmp (ns.zip ps)
      have hlen := ssort_length cP_cmp (ns.zip ps)
      refine .mk _ _ _ _ _ (by simp [hlen]; omega) (by simp [hlen]; omega) (fun x hx => ?_) (fun p hq => ?_)
      · obtain ⟨y, hy, rfl⟩ := List.mem_map.1 hx
        exact h2 _ (List.of_mem_zip (hp.mem_iff.2 hy)).1
      · obtain ⟨y, hy, rfl⟩ := List.mem_map.1 hq
        exact h3 _ (List.of_mem_zip (hp.mem_iff.2 hy)).2
  · exact T.nil_fit b

theorem recT_dep {ns : List Str'} {ps : List T} {d : Nat} (h : ∀ p ∈ ps, p.dep ≤ d) : (recT ns ps).1.dep ≤ d + 1 := by
  unfold recT
  split
  · split
    · rw [T.nil_dep]; omega
    · rw [T.new, T.dep_mk]
      have := T.deps_le (l := (ssort cP (ns.zip ps)).map Prod.snd) (n := d)
      have := this.2 fun p hq => by
        obtain ⟨y, hy, rfl⟩ := List.mem_map.1 hq
        exact h _ (List.of_mem_zip ((ssort_perm cP_cmp (ns.zip ps)).mem_iff.2 hy)).2
      omega
  · rw [T.nil_dep]; omega

theorem N.ty_ok (n : N) : n.size ≤ 1048576 → n.Wd 1048576 → (n.ty.1.Fit 1048576 ∧ n.ty.1.dep ≤ n.size) ∧ ∀ p ∈ n.ks, p.ty.1.Fit 1048576 ∧ p.ty.1.dep ≤ p.size := by
  refine N.ind (Q := fun n => n.size ≤ 1048576 → n.Wd 1048576 → (n.ty.1.Fit 1048576 ∧ n.ty.1.dep ≤ n.size) ∧ ∀ p ∈ n.ks, p.ty.1.Fit 1048576 ∧ p.ty.1.dep ≤ p.size) (fun k f t w a z ks ih => ?_) n
  intro hs hw
  have hsz : ∀ p ∈ ks, p.size < (N.mk k f t w a z ks).size := fun p hp => by
    obtain ⟨i, hi⟩ := List.getElem?_of_mem hp
    exact N.sizes_get hi
  have hwk : ∀ p ∈ ks, p.Wd 1048576 := fun p hp => by cases hw with | mk _ h => exact h p hp
  have hk : ∀ p ∈ ks, p.ty.1.Fit 1048576 ∧ p.ty.1.dep ≤ p.size := fun p hp => (ih p hp (by have := hsz p hp; omega) (hwk p hp)).1
  have hg : ∀ p ∈ ks, ∀ q ∈ p.ks, q.ty.1.Fit 1048576 ∧ q.ty.1.dep ≤ q.size := fun p hp => (ih p hp (by have := hsz p hp; omega) (hwk p hp)).2
  have hlen : ks.length ≤ 1048576 := by
    have := N.sizes_len ks
    rw [N.size_mk] at hs; omega
  have h1 : 1 ≤ (N.mk k f t w a z ks).size := by rw [N.size_mk]; omega
  refine ⟨?_, hk⟩
  rw [N.ty_mk]
  split
  · exact ⟨T.nil_fit _, by rw [T.nil_dep]; exact h1⟩
  split
  · exact ⟨.mk _ _ _ _ _ (Nat.zero_le _) (Nat.zero_le _) (by simp) (by simp), h1⟩
  split
  · exact ⟨.mk _ _ _ _ _ (Nat.zero_le _) (Nat.zero_le _) (by simp) (by simp), h1⟩
  split
  · split
    · exact ⟨T.nil_fit _, by rw [T.nil_dep]; exact h1⟩
    · have hf : ∀ p ∈ ks, p.fty.1.Fit 1048576 ∧ p.fty.1.dep + 1 ≤ (N.mk k f t w a z ks).size := fun p hp => by
        have hpz := hsz p hp
        obtain ⟨k1, f1, t1, w1, a1, z1, ks1⟩ := p
        have h1' : 1 ≤ (N.mk k1 f1 t1 w1 a1 z1 ks1).size := by rw [N.size_mk]; omega
        by_cases hc : k1 = 33 ∧ ks1.length = 1
        · obtain ⟨m, rfl⟩ := List.length_eq_one_iff.1 hc.2
          rw [N.fty_one hc.1]
          have := hg _ hp m (by simp [N.ks])
          have hmz : m.size < (N.mk k1 f1 t1 w1 a1 z1 [m]).size := N.sizes_get (i := 0) rfl
          exact ⟨this.1, by omega⟩
        · rw [N.fty_not hc]
          exact ⟨T.nil_fit _, by show 1 + 1 ≤ _; omega⟩
      refine ⟨recT_fit (by simpa using hlen) (fun x hx => ?_) (fun p hp => ?_), ?_⟩
      · obtain ⟨p, hp, rfl⟩ := List.mem_map.1 hx
        have := hwk p hp
        cases this with | mk h _ => exact h
      · obtain ⟨q, hq, rfl⟩ := List.mem_map.1 hp
        obtain ⟨r, hr, rfl⟩ := List.mem_map.1 hq
        exact (hf r hr).1
      · have := recT_dep (ns := ks.map N.w) (ps := (ks.map N.fty).map Prod.fst) (d := (N.mk k f t w a z ks).size - 1) fun p hp => by
          obtain ⟨q, hq, rfl⟩ := List.mem_map.1 hp
          obtain ⟨r, hr, rfl⟩ := List.mem_map.1 hq
          have := (hf r hr).2; omega
        omega
  split
  · split
    · exact ⟨T.nil_fit _, by rw [T.nil_dep]; exact h1⟩
    split
    · exact ⟨T.nil_fit _, by rw [T.nil_dep]; exact h1⟩
    · refine ⟨.mk _ _ _ _ _ (Nat.zero_le _) (by simpa using hlen) (by simp) (fun p hp => ?_), ?_⟩
      · obtain ⟨q, hq, rfl⟩ := List.mem_map.1 hp
        obtain ⟨r, hr, rfl⟩ := List.mem_map.1 hq
        exact (hk r hr).1
      · rw [T.new, T.dep_mk]
        have := (T.deps_le (l := (ks.map N.ty).map Prod.fst) (n := (N.mk k f t w a z ks).size - 1)).2 fun p hp => by
          obtain ⟨q, hq, rfl⟩ := List.mem_map.1 hp
          obtain ⟨r, hr, rfl⟩ := List.mem_map.1 hq
          have h1 := (hk r hr).2
          have h2 := hsz r hr
          omega
        omega
  · exact ⟨T.nil_fit _, by rw [T.nil_dep]; exact h1⟩

/-! words of trees -/
def WdR (b : Nat) : PR → Prop
  | .ok m _ => m.Wd b
  | _ => True
def G.Wd (b : Nat) : G → Prop
  | .file ks | .stmts ks => ∀ p ∈ ks, N.Wd b p
  | .list o _ => G.Wd b o
  | .listL o _ ks => G.Wd b o ∧ ∀ p ∈ ks, N.Wd b p
  | .sumL a | .termL a | .postL a => N.Wd b a
  | _ => True
section
variable {L : List Tk} {b : Nat}
theorem WdR.want {k : Nat} {x : Bs} {h : Nat → PR} (hh : WdR b (h (k + 1))) : WdR b (wantR L k x h) := by
  unfold wantR
  split
  · exact hh
  · trivial
theorem WdR.word (hL : ∀ t ∈ L, t.x.length ≤ b) {k : Nat} {h : Bs → Nat → PR} (hh : ∀ w : Bs, w.length ≤ b → WdR b (h w (k + 1))) : WdR b (wordR L k h) := by
  unfold wordR
  split
  · refine hh _ ?_
    unfold txT
    cases hg : L[k]? with
    | none => simp
    | some t => exact hL t (List.mem_of_getElem? hg)
  · trivial
theorem WdR.ite {c : Prop} [Decidable c] {x y : PR} (hx : WdR b x) (hy : WdR b y) : WdR b (if c then x else y) := by
  split
  · exact hx
  · exact hy
theorem WdR.thenG {r : PR} {h : N → Nat → PR} (hr : WdR b r) (hh : ∀ m j, m.Wd b → WdR b (h m j)) : WdR b (r.then h) := by
  cases r with
  | out => trivial
  | bad j => trivial
  | ok m j => exact hh m j hr
theorem txT_len (hL : ∀ t ∈ L, t.x.length ≤ b) (k : Nat) : (txT L k).length ≤ b := by
  unfold txT
  cases hg : L[k]? with
  | none => simp
  | some t => exact hL t (List.mem_of_getElem? hg)
theorem N.Wd.new {k f t : Int} {w : Bs} {a : Int} {ks : List N} (hw : w.length ≤ b) (h : ∀ p ∈ ks, N.Wd b p) : WdR b (.ok (N.new k f t w a ks) 0) := .mk hw h
theorem N.Wd.ks {n : N} (h : n.Wd b) : ∀ p ∈ n.ks, N.Wd b p := by cases h with | mk _ h => exact h
theorem N.Wd.nil {k f t a : Int} {z : Bool} : N.Wd b (.mk k f t [] a z []) := .mk (Nat.zero_le _) (by simp)
theorem wd_snoc {ks : List N} {m : N} (h : ∀ p ∈ ks, N.Wd b p) (hm : m.Wd b) : ∀ p ∈ ks ++ [m], N.Wd b p := fun p hp => by
  rcases List.mem_append.1 hp with h1 | h1
  · exact h p h1
  · simp at h1; subst h1; exact hm
theorem wd_cons {ks : List N} {m : N} (hm : m.Wd b) (h : ∀ p ∈ ks, N.Wd b p) : ∀ p ∈ m :: ks, N.Wd b p := fun p hp => by
  rcases List.mem_cons.1 hp with h1 | h1
  · subst h1; exact hm
  · exact h p h1
theorem wd_nil : ∀ p ∈ ([] : List N), N.Wd b p := fun p hp => by cases hp

theorem pp_wd (hL : ∀ t ∈ L, t.x.length ≤ b) : ∀ (n : Nat) (g : G) (i : Nat), g.Wd b → WdR b (pp L n g i)
  | 0, g, i, _ => trivial
  | n + 1, g, i, hg => by
    have ih := pp_wd hL n
    have hx := txT_len hL
    have h0 : ([] : Bs).length ≤ b := Nat.zero_le _
    cases g
    all_goals simp only [pp, G.Wd] at hg ⊢
    all_goals
      repeat' first
        | trivial
        | assumption
        | (refine WdR.want ?_)
        | (refine WdR.word hL fun w hw => ?_)
        | (refine WdR.ite ?_ ?_)
        | (refine WdR.thenG (ih _ _ ?_) fun m j hm => ?_)
        | (refine ih _ _ ?_)
        | (exact N.Wd.nil)
        | (exact wd_nil)
        | (exact N.Wd.ks (by assumption))
        | (exact hx _)
        | (refine wd_snoc ?_ ?_)
        | (refine wd_cons ?_ ?_)
        | (exact (by assumption : N.Wd b _))
        | (exact hg.1)
        | (exact hg.2)
        | (exact ⟨hg, wd_nil⟩)
        | (refine ⟨hg.1, wd_snoc hg.2 ?_⟩)
        | (refine N.Wd.mk ?_ ?_)

end

theorem Toks.wd {s : Bs} {n : Nat} {l : List Tk} (h : Toks s n l) : ∀ t ∈ l, t.x.length ≤ s.length := by
  induction h with
  | fin h h0 => intro t ht; simp at ht; subst ht; simp
  | @tok s n l h h0 hr ih =>
    intro t ht
    rcases List.mem_cons.1 ht with rfl | ht
    · simp; omega
    · have := ih t ht
      simp at this; omega

theorem lexS_wd (s : Bs) (h : (lexS s).2.1 = 0) : ∀ t ∈ (lexS s).1, t.x.length ≤ s.length := ((lexS_ok s).2 h).1.wd

theorem N.none_wd (b : Nat) : N.none.Wd b := N.Wd.nil

/-- a type's text's tree isn't too great -/
theorem typeO_ok (s : Bs) (hs : s.length ≤ 1048576) : (typeO s).1.size ≤ 1048576 ∧ (typeO s).1.Wd 1048576 := by
  unfold typeO
  split
  · exact ⟨by rw [N.size_none]; decide, N.none_wd _⟩
  · rename_i h
    have h0 : (lexS s).2.1 = 0 := by simpa using h
    have hwd := lexS_wd s h0
    have hl := (lexS_like h0).2.2.2.2
    unfold typeP
    cases hF : typeF (lexS s).1 with
    | out => exact ⟨by simp [N.size_none], N.none_wd _⟩
    | bad q => exact ⟨by simp [N.size_none], N.none_wd _⟩
    | ok m j =>
      simp only
      split
      · split
        · exact ⟨by simp [N.size_none], N.none_wd _⟩
        · have hsz := pp_size (L := (lexS s).1) (16 * (lexS s).1.length + 8) .kind 0 trivial
          have hw := pp_wd (b := 1048576) (L := (lexS s).1) (fun t ht => by have := hwd t ht; omega) (16 * (lexS s).1.length + 8) .kind 0 trivial
          have hadv := pp_adv (L := (lexS s).1) (16 * (lexS s).1.length + 8) .kind 0
          rw [show pp (lexS s).1 (16 * (lexS s).1.length + 8) .kind 0 = .ok m j from hF] at hsz hw hadv
          simp only [Sz, G.k1, G.sz, N.sizes_nil] at hsz
          obtain ⟨v1, -, v3⟩ := hadv
          exact ⟨by simp only; omega, hw⟩
      · exact ⟨by simp [N.size_none], N.none_wd _⟩

/-! the examples -/
theorem recT_one (x : Str') (p : T) : recT [x] [p] = (.new 3 [x] [p], 0) := by
  have hs : ssort cP [(x, p)] = [(x, p)] := ssort_sorted cP_cmp (by simp [Sorted])
  have hd : ¬ Dup [(x, p)] := by
    rintro ⟨j, a, b, -, h, -⟩
    simp at h
  unfold recT
  rw [if_pos (show [x].length = [p].length from rfl), show [x].zip [p] = [(x, p)] from rfl, hs, if_neg hd]
  rfl
theorem recT_two {x y : Str'} (p q : T) (h : Op.bytesLess x y = true) : recT [x, y] [p, q] = (.new 3 [x, y] [p, q], 0) := by
  have hs : ssort cP [(x, p), (y, q)] = [(x, p), (y, q)] := ssort_sorted cP_cmp (by
    have : cP (x, p) (y, q) < 0 := cP_lt.2 h
    simp [Sorted]; omega)
  have hd : ¬ Dup [(x, p), (y, q)] := by
    rintro ⟨j, a, b, h1, h2, e⟩
    match j with
    | 0 =>
      simp at h1 h2
      subst h1; subst h2
      simp only at e
      subst e
      rw [bl_irrefl] at h; cases h
    | j + 1 => simp at h2
  unfold recT
  rw [if_pos (show [x, y].length = [p, q].length from rfl), show [x, y].zip [p, q] = [(x, p), (y, q)] from rfl, hs, if_neg hd]
  rfl

def sAB : Bs := [123, 97, 58, 32, 105, 110, 116, 44, 32, 98, 58, 32, 115, 116, 114, 125]
def sB : Bs := [123, 98, 58, 32, 100, 121, 110, 125]
def sC : Bs := [123, 98, 58, 32, 115, 116, 114, 125]
def sD : Bs := [123, 97, 58, 32, 105, 110, 116, 125]
def nFld (f t : Int) (w : Bs) (k : Int) : N := N.new 33 f t w f [N.new k (f + 2) (f + 3) [] 0 []]
theorem ex_AB : typeO sAB = (N.new 32 0 9 [] 0 [nFld 1 4 [97] 29, nFld 5 8 [98] 30], 0) := by kernel_rfl
theorem ex_B : typeO sB = (N.new 32 0 5 [] 0 [nFld 1 4 [98] 31], 0) := by kernel_rfl
theorem ex_C : typeO sC = (N.new 32 0 5 [] 0 [nFld 1 4 [98] 30], 0) := by kernel_rfl
theorem ex_D : typeO sD = (N.new 32 0 5 [] 0 [nFld 1 4 [97] 29], 0) := by kernel_rfl

theorem fld_ty {f t : Int} {w : Bs} {k : Int} : (nFld f t w k).fty = (N.new k (f + 2) (f + 3) [] 0 []).ty := N.fty_one rfl
theorem leaf_ty (f t : Int) : (N.new 29 f t [] 0 []).ty = (T.new 1 [] [], 0) ∧ (N.new 30 f t [] 0 []).ty = (T.new 2 [] [], 0) ∧ (N.new 31 f t [] 0 []).ty = (T.nil, 0) := by
  refine ⟨?_, ?_, ?_⟩ <;> (rw [N.new, N.ty_mk]; simp)
theorem typ_one {a b f t : Int} {w : Bs} {k : Int} {v : T} (h : (N.new k (f + 2) (f + 3) [] 0 []).ty = (v, 0)) (hv : v.dep = 1) : (N.new 32 a b [] 0 [nFld f t w k]).typ = (T.new 3 [w] [v], 0) := by
  have e : (N.new 32 a b [] 0 [nFld f t w k]).ty = (T.new 3 [w] [v], 0) := by
    rw [N.new, N.ty_mk]
    have hb : badE ([nFld f t w k].map N.fty) = 0 := by simp [fld_ty, h, badE]
    rw [if_neg (by decide), if_neg (by decide), if_neg (by decide), if_pos rfl, if_neg (by rw [hb]; exact fun h => h rfl)]
    simp only [List.map_cons, List.map_nil, fld_ty, h]
    exact recT_one w v
  unfold N.typ
  rw [e, if_neg (by simp), if_neg (by rw [T.new, T.dep_mk]; simp [T.deps, hv])]
theorem typ_two {a b f t f' t' : Int} {w w' : Bs} {k k' : Int} {v v' : T} (h : (N.new k (f + 2) (f + 3) [] 0 []).ty = (v, 0)) (h' : (N.new k' (f' + 2) (f' + 3) [] 0 []).ty = (v', 0)) (hv : v.dep = 1) (hv' : v'.dep = 1) (hw : Op.bytesLess w w' = true) :
    (N.new 32 a b [] 0 [nFld f t w k, nFld f' t' w' k']).typ = (T.new 3 [w, w'] [v, v'], 0) := by
  have e : (N.new 32 a b [] 0 [nFld f t w k, nFld f' t' w' k']).ty = (T.new 3 [w, w'] [v, v'], 0) := by
    rw [N.new, N.ty_mk]
    have hb : badE ([nFld f t w k, nFld f' t' w' k'].map N.fty) = 0 := by simp [fld_ty, h, h', badE]
    rw [if_neg (by decide), if_neg (by decide), if_neg (by decide), if_pos rfl, if_neg (by rw [hb]; exact fun h => h rfl)]
    simp only [List.map_cons, List.map_nil, fld_ty, h, h']
    exact recT_two v v' hw
  unfold N.typ
  rw [e, if_neg (by simp), if_neg (by rw [T.new, T.dep_mk]; simp [T.deps, hv, hv'])]

def tI : T := .new 1 [] []
def tS : T := .new 2 [] []
theorem typ_AB : typO sAB = (T.new 3 [[97], [98]] [tI, tS], 0) := by
  unfold typO
  rw [ex_AB]
  exact typ_two (leaf_ty _ _).1 (leaf_ty _ _).2.1 rfl rfl (by decide)
theorem typ_B : typO sB = (T.new 3 [[98]] [T.nil], 0) := by
  unfold typO
  rw [ex_B]
  exact typ_one (leaf_ty _ _).2.2 rfl
theorem typ_C : typO sC = (T.new 3 [[98]] [tS], 0) := by
  unfold typO
  rw [ex_C]
  exact typ_one (leaf_ty _ _).2.1 rfl
theorem typ_D : typO sD = (T.new 3 [[97]] [tI], 0) := by
  unfold typO
  rw [ex_D]
  exact typ_one (leaf_ty _ _).1 rfl

end Go.Zam

namespace Go.Proofs.Zy
open Go Go.Zam Go.Proofs
set_option maxRecDepth 100000
set_option linter.all false
theorem tfit_of {b : Nat} (v : T) : D.bulkC v.enc ≤ b → v.Fit b := by
  induction v using T.ind with
  | h k z ns y ps ih =>
  intro hb
  simp only [T.enc_mk, D.bulkC, D.bulk] at hb
  have l1 := bulkR_len (enc := Go.Zam.encStr) (fun m => by simp only [Go.Zam.encStr, D.bulkC, D.bulk]; omega) ns
  have l2 := bulkR_len (enc := T.enc) (fun m => by cases m; simp only [T.enc_mk, D.bulkC, D.bulk]; omega) ps
  refine .mk _ _ _ _ _ (by omega) (by omega) (fun x hx => ?_) (fun p hp => ih p hp ?_)
  · have := bulkR_mem (List.mem_map_of_mem (f := Go.Zam.encStr) hx)
    simp only [Go.Zam.encStr, D.bulkC, D.bulk] at this
    omega
  · have := bulkR_mem (List.mem_map_of_mem (f := T.enc) hp)
    omega

theorem ty25 : ∀ n ds, Typed Tryz.prog n 25 ds → ∃ v : T, ds = v.enc ∧ True := by
  intro n
  induction n using Nat.strongRecOn with
  | ind n ih =>
  intro ds h
  obtain ⟨m, rfl, h⟩ := typed_structR Tryz.underlying25 h
  obtain ⟨a, r, rfl, ha, d, r, rfl, hd, e, r, rfl, he, rfl⟩ := h
  obtain ⟨k, rfl, -⟩ := typed_i64 Tryz.underlying3 ha
  obtain ⟨z, ns, rfl⟩ := typed_sl (sz := 1) (enc := Go.Zam.encStr) Tryz.underlying22 (by kernel_rfl) (fun n ds h => by
    obtain ⟨x, rfl⟩ := typed_str Tryz.underlying9 h
    exact ⟨x, rfl⟩) hd
  obtain ⟨y, ps, rfl, hp⟩ := typed_slR (sz := 3) (enc := T.enc) (R := fun _ => True) Tryz.underlying23 (by kernel_rfl) (fun q hq ds h => ih q (by omega) ds h) he
  exact ⟨.mk k z ns y ps, by rw [T.enc_mk]; rfl, trivial⟩

theorem arg_typ {n : Nat} {ds : List D} {a : A} (h : Typed Tryz.prog n 25 ds) (ha : ArgOf Tryz.prog 25 ds a) : ∃ v : T, a = v.a ∧ D.bulkC v.enc = D.bulkC ds := by
  obtain ⟨v, rfl, -⟩ := ty25 n ds h
  refine ⟨v, ?_, rfl⟩
  unfold ArgOf at ha
  rw [Tryz.underlying25] at ha
  exact ha

end Go.Proofs.Zy

namespace Go.Zam
set_option linter.all false
set_option maxRecDepth 100000
set_option maxHeartbeats 2000000
open Classical

/-- what is asked of a function that says whether a type goes where another one is wanted -/
def FlowsT (P : Program) (f : FuncId) (v w : T) : Prop := ∀ (H : Hp), ACall P f [v.a, w.a] H (fun r H' => r = .d (.bool (decide (Ty.Fl v.st w.st))) ∧ H' = H)

theorem T.fit_get {b : Nat} {k : Int} {z : Bool} {ns : List Str'} {y : Bool} {ps : List T} (h : T.Fit b (.mk k z ns y ps)) {i : Nat} {p : T} (hp : ps[i]? = some p) : p.Fit b := by
  cases h with | mk _ _ _ _ _ _ _ _ h4 => exact h4 p (List.mem_of_getElem? hp)
theorem T.size_get {k : Int} {z : Bool} {ns : List Str'} {y : Bool} {ps : List T} {i : Nat} {p : T} (hp : ps[i]? = some p) : p.st.size < (T.mk k z ns y ps).st.size := by
  rw [T.st_mk]
  exact Ty.size_get (i := i) (by simp [hp])

section
variable {P : Program}

theorem Has.tyFlows {f ff : FuncId} {t : TypeId} (h : Has P f (irTyFlows ff f t)) (hF : FieldT P ff) : ∀ (n : Nat) (v w : T), v.st.size + w.st.size ≤ n → v.Fit 1048576 → w.Fit 1048576 → v.st.Rt → w.st.Rt → FlowsT P f v w := by
  intro n
  induction n with
  | zero =>
    intro v w hn
    have : 1 ≤ v.st.size := by
      obtain ⟨k, z, ns, y, ps⟩ := v
      rw [T.st_mk, Ty.size_mk]; omega
    omega
  | succ n ih =>
  intro v w hn hv hw rv rw' H
  have hvF := hv
  have hwF := hw
  have hfl := hF v hv rv
  have rv0 := rv
  obtain ⟨k, z, ns, y, ps⟩ := v
  obtain ⟨k', z', ns', y', ps'⟩ := w
  have h0 := h
  obtain ⟨fn, hf, hcf⟩ := h
  refine acall_fin hf hcf (by simp [irTyFlows]) fun hcl _ => ?_
  have hst : Ty.Fl (T.mk k z ns y ps).st (T.mk k' z' ns' y' ps').st ↔ Ty.Fl (.mk k ns (ps.map T.st)) (.mk k' ns' (ps'.map T.st)) := by rw [T.st_mk, T.st_mk]
  rw [T.st_mk] at rv rw'
  cases hv with | mk _ _ _ _ _ b2 b3 b4 b5 =>
  cases hw with | mk _ _ _ _ _ c2 c3 c4 c5 =>
  simp only [hst]
  rw [T.a_mk, T.a_mk]
  rw [T.a_mk] at hfl
  by_cases e0 : k = 0
  · have hd : Ty.Fl (.mk k ns (ps.map T.st)) (.mk k' ns' (ps'.map T.st)) := .dynL e0
    simp [irTyFlows, e0]
    simp [RetK, cut_app hcl]
    simpa [e0] using hd
  by_cases e0' : k' = 0
  · have hd : Ty.Fl (.mk k ns (ps.map T.st)) (.mk k' ns' (ps'.map T.st)) := .dynR e0'
    simp [irTyFlows, e0, e0']
    simp [RetK, cut_app hcl]
    simpa [e0'] using hd
  by_cases ek : k = k'
  case neg =>
    have hd : ¬ Ty.Fl (.mk k ns (ps.map T.st)) (.mk k' ns' (ps'.map T.st)) := Ty.Fl.ne e0 e0' ek
    simp [irTyFlows, e0, e0', ek]
    simp [RetK, cut_app hcl, hd]
  subst ek
  by_cases e3 : k = 3
  · subst e3
    have hlen : ns.length = ps.length := by simpa using rv.len rfl
    have hlen' : ns'.length = ps'.length := by simpa using rw'.len rfl
    simp [irTyFlows]
    refine RangeK_of (H.length + 2) ns'.length (fun i fr H' => fr 2 = .ptr H.length 0 ∧ fr 3 = .ptr (H.length + 1) 0 ∧ fr 31 = .d (.sl z' 1 (ns'.map encStr)) ∧
      (∀ j : Nat, j < i → ∃ q : Nat, ns[q]? = ns'[j]? ∧ ∀ a b, (ps.map T.st)[q]? = some a → (ps'.map T.st)[j]? = some b → Ty.Fl a b) ∧
      H' = H ++ [.box t [.d (.int .i64 3), .d (.sl z 1 (ns.map encStr)), .d (.sl y 3 (ps.map T.enc))], .box t [.d (.int .i64 3), .d (.sl z' 1 (ns'.map encStr)), .d (.sl y' 3 (ps'.map T.enc))]]) (by omega) (by decide) (by simp) (by simp) ?_ ?_ ?_
    · simp [cut_appk hcl]
    · rintro i fr H' hi f33 f32 ⟨f2, f3, f31, hJ, rfl⟩
      have ra := rowAt_map encStr hi
      have hgx : ns'[i]? = some ns'[i] := List.getElem?_eq_getElem hi
      have hi' : i < ps'.length := by omega
      have rb := rowAt_map T.enc hi'
      have hgp : ps'[i]? = some ps'[i] := List.getElem?_eq_getElem hi'
      generalize ns'[i] = x at ra hgx
      generalize ps'[i] = w at rb hgp
      simp only [encStr] at ra
      have hge : ¬ (ps'.length : Int) ≤ (i : Int) := by omega
      have hstop : (∀ (q : Nat) (a : Ty), ns[q]? = some x → (ps.map T.st)[q]? = some a → ¬ Ty.Fl a w.st) → ¬ Ty.Fl (.mk 3 ns (ps.map T.st)) (.mk 3 ns' (ps'.map T.st)) := fun h => Ty.Fl.rcd_not rfl rfl (by simpa using hlen) hgx (by simp [hgp]) h
      simp [f33, f31, f2, encStr, ra]
      refine CallK_of' (hfl x _) ?_
      cases hlk : (T.mk 3 z ns y ps).fld x with
      | none =>
        have hno : lookT x ns ps = none := by simpa [T.fld] using hlk
        have hd := hstop fun q a hq ha => by
          simp only [List.getElem?_map, Option.map_eq_some_iff] at ha
          obtain ⟨a, ha, -⟩ := ha
          rw [lookT_at rv.inc hq ha] at hno
          cases hno
        simp [T.a_nil]
        simp [RetK, cut_app hcl, hd]
      | some p =>
        have hso : lookT x ns ps = some p := by simpa [T.fld] using hlk
        obtain ⟨q, hq1, hq2⟩ := lookT_some hso
        have s1 := T.size_get (k := 3) (z := z) (ns := ns) (y := y) hq2
        have s2 := T.size_get (k := 3) (z := z') (ns := ns') (y := y') hgp
        have hx := ih p w (by omega) (T.fit_get hvF hq2) (T.fit_get hwF hgp) (rv.part (i := q) (by simp [hq2])) (rw'.part (i := i) (by simp [hgp]))
        have hdF : ¬ Ty.Fl p.st w.st → ¬ Ty.Fl (.mk 3 ns (ps.map T.st)) (.mk 3 ns' (ps'.map T.st)) := fun hn => hstop fun q' a hq' ha => by
          have : q' = q := rv.inc.inj hq' hq1
          subst this
          simp [hq2] at ha
          subst ha
          exact hn
        have hstep : Ty.Fl p.st w.st → ∀ j : Nat, j < i + 1 → ∃ q : Nat, ns[q]? = ns'[j]? ∧ ∀ a b, (ps.map T.st)[q]? = some a → (ps'.map T.st)[j]? = some b → Ty.Fl a b := fun hp j hj => by
          by_cases e : j = i
          · subst e
            refine ⟨q, by rw [hq1, hgx], fun a b ha hb => ?_⟩
            simp [hq2] at ha
            simp [hgp] at hb
            subst ha; subst hb
            exact hp
          · exact hJ j (by omega)
        have hxx := hx
        generalize hfp : (Ty.Fl p.st w.st) = FP at hx hdF hstep
        obtain ⟨k1, z1, ns1, y1, ps1⟩ := p
        obtain ⟨k2, z2, ns2, y2, ps2⟩ := w
        rw [T.enc_mk] at rb
        unfold FlowsT at hx
        rw [T.a_mk, T.a_mk, hfp] at hx
        simp [T.a_mk, f3, hge, rb]
        refine CallD_of (hx _) ?_
        simp
        by_cases hFP : FP
        · simp [hFP]
          refine NextK_of (H.length + 2) (Nat.le_refl _) (by simp [f33, f32]) ?_
          have := hstep hFP
          simp [f2, f3, f31, cut_appk hcl]
          simpa using this
        · simp [hFP]
          simp [RetK, cut_app hcl, hdF hFP]
    · rintro fr H' f33 f32 ⟨f2, f3, f31, hJ, rfl⟩
      have hd : Ty.Fl (.mk 3 ns (ps.map T.st)) (.mk 3 ns' (ps'.map T.st)) := Ty.Fl.rcd_of rfl rfl hJ (by simpa using hlen')
      simp
      simp [RetK, cut_app hcl, hd]
  by_cases e4 : k = 4
  · subst e4
    obtain ⟨m, hm⟩ : ∃ m, ps.length = m + 1 := by
      have : ps ≠ [] := fun e => by
        rw [Ty.rt_iff] at rv
        exact (rv.2.2.2.1 rfl).2 (by simp [e])
      have := List.length_pos_iff.2 this
      exact ⟨ps.length - 1, by omega⟩
    obtain ⟨m', hm'⟩ : ∃ m, ps'.length = m + 1 := by
      have : ps' ≠ [] := fun e => by
        rw [Ty.rt_iff] at rw'
        exact (rw'.2.2.2.1 rfl).2 (by simp [e])
      have := List.length_pos_iff.2 this
      exact ⟨ps'.length - 1, by omega⟩
    have hw1 : IntKind.i64.wrap ((ps.length : Int) - 1) = (m : Int) := by rw [wrap_i64 (by omega) (by omega)]; omega
    have hw2 : IntKind.i64.wrap ((ps'.length : Int) - 1) = (m' : Int) := by rw [wrap_i64 (by omega) (by omega)]; omega
    have hneg : ¬ (m : Int) < 0 := by omega
    have ihp : ∀ (i : Nat) (p q : T), ps[i]? = some p → ps'[i]? = some q → FlowsT P f p q ∧ FlowsT P f q p := fun i p q hp hq => by
      have s1 := T.size_get (k := 4) (z := z) (ns := ns) (y := y) hp
      have s2 := T.size_get (k := 4) (z := z') (ns := ns') (y := y') hq
      have r1 := rv.part (i := i) (p := p.st) (by simp [hp])
      have r2 := rw'.part (i := i) (p := q.st) (by simp [hq])
      exact ⟨ih p q (by omega) (T.fit_get hvF hp) (T.fit_get hwF hq) r1 r2, ih q p (by omega) (T.fit_get hwF hq) (T.fit_get hvF hp) r2 r1⟩
    by_cases hmm : m = m'
    case neg =>
      have hd : ¬ Ty.Fl (.mk 4 ns (ps.map T.st)) (.mk 4 ns' (ps'.map T.st)) := Ty.Fl.fn_len rfl rfl (by simp; omega)
      have hne : ¬ (m' : Int) = (m : Int) := by omega
      simp [irTyFlows, hw1, hw2, hne]
      simp [RetK, cut_app hcl, hd]
    subst hmm
    simp [irTyFlows, hw1, hw2, hneg]
    refine RangeK_of (H.length + 2) m (fun i fr H' => fr 2 = .ptr H.length 0 ∧ fr 3 = .ptr (H.length + 1) 0 ∧ fr 9 = .d (.int .i64 (m : Int)) ∧
      (∀ (j : Nat) (a b : T), j < i → ps[j]? = some a → ps'[j]? = some b → Ty.Fl b.st a.st) ∧
      H' = H ++ [.box t [.d (.int .i64 4), .d (.sl z 1 (ns.map encStr)), .d (.sl y 3 (ps.map T.enc))], .box t [.d (.int .i64 4), .d (.sl z' 1 (ns'.map encStr)), .d (.sl y' 3 (ps'.map T.enc))]]) (by omega) (by decide) (by simp) (by simp) ?_ ?_ ?_
    · simp [cut_appk hcl]
    · rintro i fr H' hi f83 f82 ⟨f2, f3, f9, hJ, rfl⟩
      have h1 : i < ps.length := by omega
      have h2 : i < ps'.length := by omega
      have ra := rowAt_map T.enc h1
      have rb := rowAt_map T.enc h2
      have ga : ps[i]? = some ps[i] := List.getElem?_eq_getElem h1
      have gb : ps'[i]? = some ps'[i] := List.getElem?_eq_getElem h2
      generalize ps[i] = p at ra ga
      generalize ps'[i] = q at rb gb
      have hx := (ihp i p q ga gb).2
      have hdF : ¬ Ty.Fl q.st p.st → ¬ Ty.Fl (.mk 4 ns (ps.map T.st)) (.mk 4 ns' (ps'.map T.st)) := fun hn => Ty.Fl.fn_not rfl rfl (i := i) (p := p.st) (q := q.st) (by simp [ga]) (by simp [gb]) (by simp; omega) hn
      have hstep : Ty.Fl q.st p.st → ∀ (j : Nat) (a b : T), j < i + 1 → ps[j]? = some a → ps'[j]? = some b → Ty.Fl b.st a.st := fun hp j a b hj ha hb => by
        by_cases e : j = i
        · subst e
          rw [ga] at ha; rw [gb] at hb
          cases ha; cases hb
          exact hp
        · exact hJ j a b (by omega) ha hb
      generalize hfp : (Ty.Fl q.st p.st) = FP at hdF hstep
      obtain ⟨k1, z1, ns1, y1, ps1⟩ := p
      obtain ⟨k2, z2, ns2, y2, ps2⟩ := q
      rw [T.enc_mk] at ra rb
      unfold FlowsT at hx
      rw [T.a_mk, T.a_mk, hfp] at hx
      simp [f83, f2, f3, ra, rb]
      refine CallD_of (hx _) ?_
      simp
      by_cases hFP : FP
      · simp [hFP]
        refine NextK_of (H.length + 2) (Nat.le_refl _) (by simp [f83, f82]) ?_
        simp [f2, f3, f9, cut_appk hcl]
        exact hstep hFP
      · simp [hFP]
        simp [RetK, cut_app hcl, hdF hFP]
    · rintro fr H' f83 f82 ⟨f2, f3, f9, hJ, rfl⟩
      have h1 : m < ps.length := by omega
      have h2 : m < ps'.length := by omega
      have ra := rowAt_map T.enc h1
      have rb := rowAt_map T.enc h2
      have ga : ps[m]? = some ps[m] := List.getElem?_eq_getElem h1
      have gb : ps'[m]? = some ps'[m] := List.getElem?_eq_getElem h2
      generalize ps[m] = p at ra ga
      generalize ps'[m] = q at rb gb
      have hx := (ihp m p q ga gb).1
      have hfin : Ty.Fl (.mk 4 ns (ps.map T.st)) (.mk 4 ns' (ps'.map T.st)) ↔ Ty.Fl p.st q.st := by
        constructor
        · intro hf
          exact Classical.byContradiction fun hn => Ty.Fl.fn_last rfl rfl (i := m) (p := p.st) (q := q.st) (by simp [ga]) (by simp [gb]) (by simp; omega) hn hf
        · intro hp
          refine Ty.Fl.fn_of rfl rfl (by simp; omega) (fun i a b hi ha hb => ?_) (fun i a b hi ha hb => ?_)
          · simp only [List.getElem?_map, Option.map_eq_some_iff, List.length_map] at ha hb hi
            obtain ⟨a, ha, rfl⟩ := ha
            obtain ⟨b, hb, rfl⟩ := hb
            exact hJ i a b (by omega) ha hb
          · simp only [List.length_map] at hi
            have : i = m := by omega
            subst this
            simp [ga] at ha
            simp [gb] at hb
            subst ha; subst hb
            exact hp
      generalize hfp : (Ty.Fl p.st q.st) = FP at hfin
      obtain ⟨k1, z1, ns1, y1, ps1⟩ := p
      obtain ⟨k2, z2, ns2, y2, ps2⟩ := q
      rw [T.enc_mk] at ra rb
      unfold FlowsT at hx
      rw [T.a_mk, T.a_mk, hfp] at hx
      simp [f9, f2, f3, ra, rb]
      refine CallD_of (hx _) ?_
      simp
      simp [RetK, cut_app hcl, hfin]
  · have hd : Ty.Fl (.mk k ns (ps.map T.st)) (.mk k ns' (ps'.map T.st)) := .same rfl e3 e4
    simp [irTyFlows, e0, e3, e4]
    simp [RetK, cut_app hcl, hd]

end
end Go.Zam

namespace Go.Zam
set_option linter.all false
set_option maxRecDepth 100000
set_option maxHeartbeats 2000000
open Classical

section
variable {P : Program}

end
end Go.Zam

namespace Go.Zam
set_option linter.all false
set_option maxRecDepth 100000
set_option maxHeartbeats 2000000
open Classical

/-- what is asked of a function that says whether a type may be -/
def RightT (P : Program) (f : FuncId) (v : T) : Prop := ∀ (H : Hp), ACall P f [v.a] H (fun r H' => r = .d (.bool (decide v.st.Rt)) ∧ H' = H)

/-- labels up to a place rise, and are names -/
def UpTo (ns : List Str') (i : Nat) : Prop := (∀ (j : Nat) (x : Str'), j < i → ns[j]? = some x → isNameB x = true) ∧ ∀ (j : Nat) (x y : Str'), j + 1 < i → ns[j]? = some x → ns[j + 1]? = some y → Op.bytesLess x y = true
theorem UpTo.all {ns : List Str'} (h : UpTo ns ns.length) : (∀ x ∈ ns, isNameB x = true) ∧ Ty.Inc ns :=
  ⟨fun x hx => by
    obtain ⟨i, hi⟩ := List.getElem?_of_mem hx
    exact h.1 i x (List.getElem?_eq_some_iff.1 hi).1 hi, fun i x y hx hy => h.2 i x y (List.getElem?_eq_some_iff.1 hy).1 hx hy⟩
theorem UpTo.zero (ns : List Str') : UpTo ns 0 := ⟨fun j x h => by omega, fun j x y h => by omega⟩
theorem UpTo.succ {ns : List Str'} {i : Nat} {y : Str'} (h : UpTo ns i) (hy : ns[i]? = some y) (hn : isNameB y = true) (hp : ∀ x, 0 < i → ns[i - 1]? = some x → Op.bytesLess x y = true) : UpTo ns (i + 1) := by
  refine ⟨fun j x hj hx => ?_, fun j x z hj hx hz => ?_⟩
  · by_cases e : j = i
    · subst e; rw [hy] at hx; cases hx; exact hn
    · exact h.1 j x (by omega) hx
  · by_cases e : j + 1 = i
    · subst e; rw [hy] at hz; cases hz; exact hp x (by omega) (by simpa using hx)
    · exact h.2 j x z (by omega) hx hz

section
variable {P : Program} {bt : Nat}

theorem Has.rRight {f fi : FuncId} (h : Has P f (irTRight bt f fi)) (hn : ∀ s H, ACall P fi [.d (.str s)] H (fun r H' => r = .d (.bool (isNameB s)) ∧ H' = H)) (v : T) : v.Fit 1048576 → RightT P f v := by
  induction v using T.ind with
  | h k z ns y ps ih =>
  rintro (⟨_, _, _, _, _, b2, b3, b4, b5⟩) H
  have h0 := h
  obtain ⟨fn, hf, hcf⟩ := h
  refine acall_fin hf hcf (by simp [irTRight]) fun hcl _ => ?_
  rw [T.st_mk]
  rw [T.a_mk]
  generalize hB : H ++ [Ob.box bt [A.d (D.int IntKind.i64 k), A.d (D.sl z 1 (List.map encStr ns)), A.d (D.sl y 3 (List.map T.enc ps))]] = B
  have hB0 : B[H.length]? = some (Ob.box bt [A.d (D.int IntKind.i64 k), A.d (D.sl z 1 (List.map encStr ns)), A.d (D.sl y 3 (List.map T.enc ps))]) := by rw [← hB]; simp
  have hBl : B.length = H.length + 1 := by rw [← hB]; simp
  have hBc : Hp.cut (H.length + 1) B = B := by rw [← hB, cut_appk hcl]; simp
  have hBz : Hp.cut H.length B = H := by rw [← hB, cut_app hcl]
  have hno : ∀ fr H', (¬ (Ty.mk k ns (ps.map T.st)).Rt ∧ fr 2 = .d (.bool false) ∧ H' = B) → Zam.Fin [Res.t 2] H.length (fun r H' => r = .d (.bool (decide (Ty.mk k ns (ps.map T.st)).Rt)) ∧ H' = H) .ret fr H' := by
    rintro fr H' ⟨hd, f2, rfl⟩
    simp [RetK, hBz, hBl, f2, hd]
  have hrt := @Ty.rt_iff k ns (ps.map T.st)
  by_cases c1 : 0 ≤ k ∧ k ≤ 4
  case neg =>
    have hd : ¬ (Ty.mk k ns (ps.map T.st)).Rt := fun h => c1 (hrt.1 h).1
    by_cases k0 : k < 0
    · simp [irTRight, hB, hB0, k0]
      simp [RetK, hBz, hBl, hd]
    · have k4 : 4 < k := by omega
      simp [irTRight, hB, hB0, k0, k4]
      simp [RetK, hBz, hBl, hd]
  have k0 : ¬ k < 0 := by omega
  have k4 : ¬ 4 < k := by omega
  by_cases c2 : k ≤ 2 → ns = [] ∧ ps = []
  case neg =>
    have hd : ¬ (Ty.mk k ns (ps.map T.st)).Rt := fun h => c2 fun hk => by have := (hrt.1 h).2.1 hk; simpa using this
    have hk : k ≤ 2 := Classical.byContradiction fun hk => c2 fun h => absurd h hk
    by_cases hns : ns = []
    · have hps : ps ≠ [] := fun e => c2 fun _ => ⟨hns, e⟩
      have hpl := List.length_pos_iff.2 hps
      simp [irTRight, hB, hB0, k0, k4, hk, hns, hpl]
      simp [RetK, hBz, hBl, cut_app hcl]
      simpa [hns] using hd
    · have hnl := List.length_pos_iff.2 hns
      simp [irTRight, hB, hB0, k0, k4, hk, hnl]
      simp [RetK, hBz, hBl, hd]
  by_cases c3 : k = 3 → ns.length = ps.length
  case neg =>
    have hd : ¬ (Ty.mk k ns (ps.map T.st)).Rt := fun h => c3 fun hk => by have := (hrt.1 h).2.2.1 hk; simpa using this
    have hk : k = 3 := Classical.byContradiction fun hk => c3 fun h => absurd h hk
    have hl : ¬ ns.length = ps.length := fun e => c3 fun _ => e
    have hl' : ¬ (ns.length : Int) = ps.length := by omega
    subst hk
    simp [irTRight, hB, hB0, hl, hl']
    simp [RetK, hBz, hBl, hd]
  by_cases c4 : k = 4 → ns = [] ∧ ps ≠ []
  case neg =>
    have hd : ¬ (Ty.mk k ns (ps.map T.st)).Rt := fun h => c4 fun hk => by have := (hrt.1 h).2.2.2.1 hk; simpa using this
    have hk : k = 4 := Classical.byContradiction fun hk => c4 fun h => absurd h hk
    subst hk
    by_cases hns : ns = []
    · have hps : ps = [] := Classical.byContradiction fun e => c4 fun _ => ⟨hns, e⟩
      simp [irTRight, hB, hB0, hns, hps]
      simp [RetK, hBz, hBl, cut_app hcl]
      simpa [hns, hps] using hd
    · have hnl := List.length_pos_iff.2 hns
      simp [irTRight, hB, hB0, hnl]
      simp [RetK, hBz, hBl, hd]
  have hmain : (Ty.mk k ns (ps.map T.st)).Rt ↔ UpTo ns ns.length ∧ ∀ p ∈ ps, p.st.Rt := by
    rw [hrt]
    constructor
    · rintro ⟨-, -, -, -, a, b, c⟩
      exact ⟨⟨fun j x _ hx => a x (List.mem_of_getElem? hx), fun j x y _ hx hy => b j x y hx hy⟩, fun p hp => c _ (List.mem_map_of_mem hp)⟩
    · rintro ⟨a, b⟩
      refine ⟨c1, fun h => by simpa using c2 h, fun h => by simpa using c3 h, fun h => by simpa using c4 h, a.all.1, a.all.2, fun p hp => ?_⟩
      obtain ⟨q, hq, rfl⟩ := List.mem_map.1 hp
      exact b q hq
  simp only [irTRight]
  refine Seq_out (fun fr H' => fr 1 = .ptr H.length 0 ∧ H' = B) (fun _ _ => False) (by simp [hB]) (fun _ _ h => h.elim) ?_
  rintro fr H' ⟨f1, rfl⟩
  refine Seq_out (fun fr H2 => fr 1 = .ptr H.length 0 ∧ H2 = H') (fun _ _ => False) ?_ (fun _ _ h => h.elim) ?_
  · simp [f1, hB0, k0, k4]
  rintro fr H2 ⟨f1, rfl⟩
  refine Seq_out (fun fr H3 => fr 1 = .ptr H.length 0 ∧ H3 = H2) (fun _ _ => False) ?_ (fun _ _ h => h.elim) ?_
  · by_cases hk : k ≤ 2
    · obtain ⟨e1, e2⟩ := c2 hk
      subst e1; subst e2
      simp [f1, hB0, hk]
    · simp [f1, hB0, hk]
  rintro fr H3 ⟨f1, rfl⟩
  refine Seq_out (fun fr H4 => fr 1 = .ptr H.length 0 ∧ H4 = H3) (fun _ _ => False) ?_ (fun _ _ h => h.elim) ?_
  · by_cases hk3 : k = 3
    · have e := c3 hk3
      subst hk3
      simp [f1, hB0, e]
    · by_cases hk4 : k = 4
      · obtain ⟨e1, e2⟩ := c4 hk4
        have hpl := List.length_pos_iff.2 e2
        subst hk4
        subst e1
        simp [f1, hB0, e2]
      · simp [f1, hB0, hk3, hk4]
  rintro fr H4 ⟨f1, rfl⟩
  refine Seq_out (fun fr H5 => fr 1 = .ptr H.length 0 ∧ UpTo ns ns.length ∧ H5 = H4) (fun fr H5 => ¬ (Ty.mk k ns (ps.map T.st)).Rt ∧ fr 2 = .d (.bool false) ∧ H5 = H4) ?_ hno ?_
  · simp
    refine LoopK_outR 0 (fun fr H5 => fr 1 = .ptr H.length 0 ∧ UpTo ns ns.length ∧ H5 = H4) (fun fr H5 => ¬ (Ty.mk k ns (ps.map T.st)).Rt ∧ fr 2 = .d (.bool false) ∧ H5 = H4) ?_ (fun fr H h => by simpa using h) (fun fr H h => by simpa using h)
    refine ForK_of (H.length + 1) ns.length (fun i fr H5 => fr 1 = .ptr H.length 0 ∧ UpTo ns i ∧ H5 = H4) (by omega) (by decide) (by simp [hBl]) (by simp) ?_ ?_
    · simp [hBc, f1, UpTo.zero]
    rintro i fr H5 hi f3 ⟨f1, hU, rfl⟩
    simp [f3, f1, hB0]
    refine BrK_split (fun h => ?_) (fun h => ?_)
    · have hlt : i < ns.length := by simpa using h
      have hr := rowAt_map encStr hlt
      have hg : ns[i]? = some ns[i] := List.getElem?_eq_getElem hlt
      generalize ns[i] = x at hr hg
      simp only [encStr] at hr
      simp [f3, f1, hB0, encStr, hr]
      refine CallD_of (hn _ _) ?_
      by_cases hnx : isNameB x = true
      case neg =>
        have hnx' : isNameB x = false := by simpa using hnx
        have hd : ¬ (Ty.mk k ns (ps.map T.st)).Rt := fun h => hnx ((hmain.1 h).1.1 i x hlt hg)
        simp [hnx', hd]
      simp [hnx, f3]
      refine GdK_split (by simp) (fun h => ?_) (fun h => ?_)
      · have hpos : 0 < i := by simpa using h
        have hwm : IntKind.i64.wrap ((i : Int) - 1) = ((i - 1 : Nat) : Int) := by rw [wrap_i64 (by omega) (by omega)]; omega
        have hj : i - 1 < ns.length := by omega
        have rj := rowAt_map encStr hj
        have gj : ns[i - 1]? = some ns[i - 1] := List.getElem?_eq_getElem hj
        generalize ns[i - 1] = w at rj gj
        simp only [encStr] at rj
        simp [f3, f1, hB0, encStr, hr, hwm, rj]
        refine BrK_split (fun h => ?_) (fun h => ?_)
        · have hd : ¬ (Ty.mk k ns (ps.map T.st)).Rt := fun hR => by
            have hwx := (hmain.1 hR).1.2 (i - 1) w x (by omega) gj (by rw [show i - 1 + 1 = i by omega]; exact hg)
            simp at h
            rcases h with h | h
            · rw [bl_asymm hwx] at h; cases h
            · subst h; rw [bl_irrefl] at hwx; cases hwx
          simp [hd]
        · have hwx : Op.bytesLess w x = true := by
            simp at h
            by_cases hb : Op.bytesLess w x = true
            · exact hb
            · exact absurd (bl_total x w h.1 (by simpa using hb)) h.2
          simp
          refine NextF_of (H.length + 1) (Nat.le_refl _) hlt (by simp [hBl, f3]) ?_
          simp [f1, hBc]
          exact hU.succ hg hnx fun x' _ hx' => by rw [gj] at hx'; cases hx'; exact hwx
      · have hz : i = 0 := by simpa using h
        simp
        refine NextF_of (H.length + 1) (Nat.le_refl _) hlt (by simp [hBl, f3]) ?_
        simp [f1, hBc]
        exact hU.succ hg hnx fun x' h0 _ => by omega
    · have hin : i = ns.length := by have : ¬ i < ns.length := by simpa using h
                                     omega
      subst hin
      simp [f1, hU]
  rintro fr H5 ⟨f1, hU, rfl⟩
  simp
  refine LoopK_outR 2 (fun fr H6 => (∀ p ∈ ps, p.st.Rt) ∧ H6 = H5) (fun fr H6 => ¬ (Ty.mk k ns (ps.map T.st)).Rt ∧ fr 2 = .d (.bool false) ∧ H6 = H5) ?_ (fun fr H h => hno fr H h) ?_
  · refine ForK_of (H.length + 1) ps.length (fun i fr H6 => fr 1 = .ptr H.length 0 ∧ (∀ (j : Nat) (p : T), j < i → ps[j]? = some p → p.st.Rt) ∧ H6 = H5) (by omega) (by decide) (by simp [hBl]) (by simp) ?_ ?_
    · simp [hBc, f1]
    rintro i fr H6 hi f4 ⟨f1, hJ, rfl⟩
    simp [f4, f1, hB0]
    refine BrK_split (fun h => ?_) (fun h => ?_)
    · have hlt : i < ps.length := by simpa using h
      have hr := rowAt_map T.enc hlt
      have hx := ih ps[i] (List.getElem_mem hlt) (b5 _ (List.getElem_mem hlt))
      have hg : ps[i]? = some ps[i] := List.getElem?_eq_getElem hlt
      have hmem := List.getElem_mem hlt
      generalize ps[i] = p at hr hx hg hmem
      have hnR : ¬ p.st.Rt → ¬ (Ty.mk k ns (ps.map T.st)).Rt := fun hn hR => hn ((hmain.1 hR).2 p hmem)
      have hyR : p.st.Rt → ∀ (j : Nat) (q : T), j < i + 1 → ps[j]? = some q → q.st.Rt := fun hp j q hj hq => by
        by_cases e : j = i
        · subst e; rw [hg] at hq; cases hq; exact hp
        · exact hJ j q (by omega) hq
      generalize hRp : p.st.Rt = RP at hnR hyR
      unfold RightT at hx
      rw [hRp] at hx
      cases p with | mk k1 z1 ns1 y1 ps1 =>
      simp only [T.a_mk, T.enc_mk] at hr hx
      simp [f4, f1, hB0, hr]
      refine CallK_of' (hx _) ?_
      by_cases hRP : RP
      · simp [hRP]
        refine NextF_of (H.length + 1) (Nat.le_refl _) hlt (by simp [hBl, f4]) ?_
        simp [f1, hBc]
        exact hyR hRP
      · simp [hRP]
        exact hnR hRP
    · have hin : i = ps.length := by have : ¬ i < ps.length := by simpa using h
                                     omega
      subst hin
      simp
      intro p hp
      obtain ⟨j, hj⟩ := List.getElem?_of_mem hp
      exact hJ j p (List.getElem?_eq_some_iff.1 hj).1 hj
  · rintro fr H6 ⟨hall, rfl⟩
    have hd : (Ty.mk k ns (ps.map T.st)).Rt := hmain.2 ⟨hU, hall⟩
    simp
    simp [RetK, hBz, hBl, hd]

end
end Go.Zam

namespace Go.Zam
set_option linter.all false
set_option maxRecDepth 100000
set_option maxHeartbeats 2000000
open Classical

def irTFits (fl fr t : Nat) : IFn :=
 { nt := 20, res := [.t 2], body := (
  .seq (.ops [
    ⟨(some 2), none, .mv (.c (.bool false))⟩] false)
  (.seq (.seq (.ops [
     ⟨(some 5), none, .mv (.t 0)⟩,
     ⟨(some 6), none, .lenL (.t 5)⟩,
     ⟨(some 7), none, .mv (.c (.int .i64 0))⟩] false)
   (.blk 0 (.loop (.seq (.ops [
       ⟨(some 8), none, .bin .lss (.t 7) (.t 6)⟩] false)
     (.seq (.cond (.t 8) (.skip)
      (.exit 0))
     (.seq (.blk 1 (.seq (.ops [
         ⟨(some 9), none, .iaddr 3 (.t 5) (.t 7)⟩,
         ⟨(some 10), none, .load 3 true (.t 9)⟩,
         ⟨(some 4), none, .alloc t [(.int .i64 0), (.sl true 1 []), (.sl true 3 [])]⟩,
         ⟨none, none, .store 3 (.t 4) (.t 10)⟩] false)
       (.seq (.ops [
         ⟨(some 11), none, .load 3 true (.t 4)⟩,
         ⟨(some 12), none, .call fl [(.t 11)]⟩,
         ⟨(some 13), none, .un .not (.t 12)⟩,
         ⟨(some 14), none, .mv (.t 13)⟩,
         ⟨(some 15), (some (14, false)), .load 3 true (.t 4)⟩,
         ⟨(some 16), (some (14, false)), .call fr [(.t 15)]⟩,
         ⟨(some 17), (some (14, false)), .un .not (.t 16)⟩,
         ⟨(some 18), none, .pick (.t 14) (.c (.bool true)) (.t 17)⟩] false)
       (.cond (.t 18) (.seq (.ops [
          ⟨(some 2), none, .mv (.c (.bool false))⟩] false)
        (.ret))
       (.skip)))))
     (.ops [
      ⟨(some 19), none, .bin .add (.t 7) (.c (.int .i64 1))⟩,
      ⟨(some 7), none, .mv (.t 19)⟩] false)))))))
  (.seq (.ops [
    ⟨(some 2), none, .mv (.c (.bool true))⟩] false)
  (.ret)))) }

def irTAwake (fp ff t : Nat) : IFn :=
 { nt := 34, res := [.t 0], body := (
  .seq (.ops [
    ⟨(some 0), none, .mv (.c (.bool false))⟩] false)
  (.seq (.ops [
    ⟨(some 10), none, .call fp [(.c (.str [123, 97, 58, 32, 105, 110, 116, 44, 32, 98, 58, 32, 115, 116, 114, 125]))]⟩,
    ⟨(some 9), none, .mv (.t 10)⟩,
    ⟨(some 11), none, .ext (.t 9) 0⟩,
    ⟨(some 12), none, .ext (.t 9) 1⟩,
    ⟨(some 1), none, .alloc t [(.int .i64 0), (.sl true 1 []), (.sl true 3 [])]⟩,
    ⟨none, none, .store 3 (.t 1) (.t 11)⟩,
    ⟨(some 2), none, .mv (.t 12)⟩] false)
  (.seq (.ops [
    ⟨(some 14), none, .call fp [(.c (.str [123, 98, 58, 32, 100, 121, 110, 125]))]⟩,
    ⟨(some 13), none, .mv (.t 14)⟩,
    ⟨(some 15), none, .ext (.t 13) 0⟩,
    ⟨(some 16), none, .ext (.t 13) 1⟩,
    ⟨(some 3), none, .alloc t [(.int .i64 0), (.sl true 1 []), (.sl true 3 [])]⟩,
    ⟨none, none, .store 3 (.t 3) (.t 15)⟩,
    ⟨(some 4), none, .mv (.t 16)⟩] false)
  (.seq (.ops [
    ⟨(some 18), none, .call fp [(.c (.str [123, 98, 58, 32, 115, 116, 114, 125]))]⟩,
    ⟨(some 17), none, .mv (.t 18)⟩,
    ⟨(some 19), none, .ext (.t 17) 0⟩,
    ⟨(some 20), none, .ext (.t 17) 1⟩,
    ⟨(some 5), none, .alloc t [(.int .i64 0), (.sl true 1 []), (.sl true 3 [])]⟩,
    ⟨none, none, .store 3 (.t 5) (.t 19)⟩,
    ⟨(some 6), none, .mv (.t 20)⟩] false)
  (.seq (.ops [
    ⟨(some 22), none, .call fp [(.c (.str [123, 97, 58, 32, 105, 110, 116, 125]))]⟩,
    ⟨(some 21), none, .mv (.t 22)⟩,
    ⟨(some 23), none, .ext (.t 21) 0⟩,
    ⟨(some 24), none, .ext (.t 21) 1⟩,
    ⟨(some 7), none, .alloc t [(.int .i64 0), (.sl true 1 []), (.sl true 3 [])]⟩,
    ⟨none, none, .store 3 (.t 7) (.t 23)⟩,
    ⟨(some 8), none, .mv (.t 24)⟩] false)
  (.seq (.ops [
    ⟨(some 25), none, .load 3 true (.t 1)⟩,
    ⟨(some 26), none, .load 3 true (.t 3)⟩,
    ⟨(some 27), none, .call ff [(.t 25), (.t 26)]⟩,
    ⟨(some 28), none, .mv (.t 27)⟩,
    ⟨(some 29), (some (28, true)), .load 3 true (.t 5)⟩,
    ⟨(some 30), (some (28, true)), .load 3 true (.t 7)⟩,
    ⟨(some 31), (some (28, true)), .call ff [(.t 29), (.t 30)]⟩,
    ⟨(some 32), (some (28, true)), .un .not (.t 31)⟩,
    ⟨(some 33), none, .pick (.t 28) (.t 32) (.c (.bool false))⟩,
    ⟨(some 0), none, .mv (.t 33)⟩] false)
  (.ret))))))) }


section
variable {P : Program} {t : Nat}

/-- whetstonelaw10.fits: where it says so, all are as types may be -/
theorem Has.tFits {f fl fr : FuncId} (h : Has P f (irTFits fl fr t)) (l : List T) (hl : l.length ≤ 1048576) (hL : ∀ v ∈ l, ∀ H, ACall P fl [v.a] H (fun r H' => (∃ c : Bool, r = .d (.bool c)) ∧ H' = H)) (hR : ∀ v ∈ l, RightT P fr v) (z : Bool) (H : Hp) :
    ACall P f [.d (.sl z 3 (l.map T.enc))] H (fun r H' => (∃ c : Bool, r = .d (.bool c) ∧ (c = true → ∀ v ∈ l, v.st.Rt)) ∧ H' = H) := by
  obtain ⟨fn, hf, hcf⟩ := h
  refine acall_fin hf hcf (by simp [irTFits]) fun hcl _ => ?_
  simp [irTFits]
  refine RangeK_of H.length l.length (fun i fr H' => fr 5 = .d (.sl z 3 (l.map T.enc)) ∧ (∀ (j : Nat) (p : T), j < i → l[j]? = some p → p.st.Rt) ∧ H' = H) (by omega) (by decide) (by simp) (by simp) ?_ ?_ ?_
  · simp [cut_self hcl]
  · rintro i fr H' hi f7 f6 ⟨f5, hJ, rfl⟩
    have hr := rowAt_map T.enc hi
    have hx := hR l[i] (List.getElem_mem hi)
    have hy := hL l[i] (List.getElem_mem hi)
    have hg : l[i]? = some l[i] := List.getElem?_eq_getElem hi
    generalize l[i] = p at hr hx hy hg
    have hyR : p.st.Rt → ∀ (j : Nat) (q : T), j < i + 1 → l[j]? = some q → q.st.Rt := fun hp j q hj hq => by
      by_cases e : j = i
      · subst e; rw [hg] at hq; cases hq; exact hp
      · exact hJ j q (by omega) hq
    generalize hRp : p.st.Rt = RP at hyR
    unfold RightT at hx
    rw [hRp] at hx
    cases p with | mk k1 z1 ns1 y1 ps1 =>
    simp only [T.a_mk, T.enc_mk] at hr hx hy
    simp [f7, f5, hr]
    refine CallK_of (hy _) ?_
    rintro r H2 ⟨⟨c, rfl⟩, rfl⟩
    cases c
    · simp
      simp [RetK, cut_app hcl]
    simp
    refine CallK_of' (hx _) ?_
    by_cases hRP : RP
    · simp [hRP]
      refine NextK_of H'.length (Nat.le_refl _) (by simp [f7, f6]) ?_
      simp [f5, cut_app hcl]
      exact hyR hRP
    · simp [hRP]
      simp [RetK, cut_app hcl]
  · rintro fr H' f7 f6 ⟨f5, hJ, rfl⟩
    simp
    simp [RetK, cut_self hcl]
    intro p hp
    obtain ⟨j, hj⟩ := List.getElem?_of_mem hp
    exact hJ j p (List.getElem?_eq_some_iff.1 hj).1 hj

end
end Go.Zam

namespace Go.Zam
set_option linter.all false
set_option maxRecDepth 100000
set_option maxHeartbeats 2000000
open Classical

namespace Ty
theorem rt1 : Rt (.mk 1 [] []) := rt_iff.2 ⟨by decide, by simp, by simp, by simp, by simp, fun i x y hx => by simp at hx, by simp⟩
theorem rt2 : Rt (.mk 2 [] []) := rt_iff.2 ⟨by decide, by simp, by simp, by simp, by simp, fun i x y hx => by simp at hx, by simp⟩
theorem rt0 : Rt (.mk 0 [] []) := rt_iff.2 ⟨by decide, by simp, by simp, by simp, by simp, fun i x y hx => by simp at hx, by simp⟩
theorem rtOne {w : Str'} {p : Ty} (hw : isNameB w = true) (hp : p.Rt) : Rt (.mk 3 [w] [p]) :=
  rt_iff.2 ⟨by decide, by simp, by simp, by simp, by simpa using hw, fun i x y hx hy => by simp at hy, by simpa using hp⟩
theorem rtTwo {w w' : Str'} {p p' : Ty} (hw : isNameB w = true) (hw' : isNameB w' = true) (hl : Op.bytesLess w w' = true) (hp : p.Rt) (hp' : p'.Rt) : Rt (.mk 3 [w, w'] [p, p']) :=
  rt_iff.2 ⟨by decide, by simp, by simp, by simp, by simpa using ⟨hw, hw'⟩, fun i x y hx hy => by
    cases i with
    | zero => simp at hx hy; subst hx; subst hy; exact hl
    | succ i => simp at hy, by simpa using ⟨hp, hp'⟩⟩
theorem flB {a b : Str'} {p q : Ty} : Fl (.mk 3 [a, b] [p, q]) (.mk 3 [b] [.mk 0 [] []]) :=
  .rcd rfl rfl (fun j => j + 1) (fun j x h => by
    cases j with
    | zero => exact h
    | succ j => cases h) (fun j p' q' h1 h2 => by
    cases j with
    | zero => cases h2; exact .dynR rfl
    | succ j => cases h2)
theorem flNo {a b : Str'} {p q : Ty} (h : a ≠ b) : ¬ Fl (.mk 3 [b] [q]) (.mk 3 [a] [p]) := fun hf => by
  obtain ⟨-, g, -⟩ := hf.step (show (3 : Int) ≠ 0 by decide) (show (3 : Int) ≠ 0 by decide)
  obtain ⟨g, h1, -⟩ := g rfl
  have := h1 0 a rfl
  have hm : a ∈ [b] := List.mem_of_getElem? this
  simp at hm
  exact h hm
end Ty

theorem tI_fit : tI.Fit 1048576 := .mk _ _ _ _ _ (by simp) (by simp) (by simp) (by simp)
theorem tS_fit : tS.Fit 1048576 := .mk _ _ _ _ _ (by simp) (by simp) (by simp) (by simp)
theorem nil_fit : T.nil.Fit 1048576 := .mk _ _ _ _ _ (by simp) (by simp) (by simp) (by simp)
theorem one_fit {w : Str'} {v : T} (hw : w.length ≤ 1048576) (hv : v.Fit 1048576) : (T.new 3 [w] [v]).Fit 1048576 := .mk _ _ _ _ _ (by simp) (by simp) (by simpa using hw) (by simpa using hv)
theorem two_fit {w w' : Str'} {v v' : T} (hw : w.length ≤ 1048576) (hw' : w'.length ≤ 1048576) (hv : v.Fit 1048576) (hv' : v'.Fit 1048576) : (T.new 3 [w, w'] [v, v']).Fit 1048576 := .mk _ _ _ _ _ (by simp) (by simp) (by simpa using ⟨hw, hw'⟩) (by simpa using ⟨hv, hv'⟩)

section
variable {P : Program} {t : Nat} {H0 : Hp}

/-- what is asked of the sentinel -/
def AwakeT (P : Program) (H0 : Hp) (f : FuncId) : Prop := ∀ H, Pre0 H0 H → ACall P f [] H (fun r H' => r = .d (.bool true) ∧ H' = H)

/-- whetstonelaw10.awake -/
theorem Has.tAwake {f fp ff : FuncId} (h : Has P f (irTAwake fp ff t))
    (hp : ∀ s, s.length ≤ 1048576 → ∀ H, Pre0 H0 H → ACall P fp [.d (.str s)] H (fun r H' => r = .tup [(typO s).1.a, .d (.int .i64 (typO s).2)] ∧ H' = H))
    (hF : ∀ v w : T, v.Fit 1048576 → w.Fit 1048576 → v.st.Rt → w.st.Rt → FlowsT P ff v w) : AwakeT P H0 f := by
  intro H hH
  obtain ⟨fn, hf, hcf⟩ := h
  refine acall_fin hf hcf (by simp [irTAwake]) fun hcl _ => ?_
  have p1 := fun H hH => hp sAB (by decide) H hH
  have p2 := fun H hH => hp sB (by decide) H hH
  have p3 := fun H hH => hp sC (by decide) H hH
  have p4 := fun H hH => hp sD (by decide) H hH
  rw [typ_AB] at p1
  rw [typ_B] at p2
  rw [typ_C] at p3
  rw [typ_D] at p4
  simp only [sAB, sB, sC, sD] at p1 p2 p3 p4
  simp [irTAwake]
  refine CallK_of' (p1 _ hH) ?_
  simp [T.new, T.a_mk]
  refine CallK_of' (p2 _ (hH.app _)) ?_
  simp [T.new, T.nil, T.a_mk, T.enc_mk]
  refine CallK_of' (p3 _ (hH.app _)) ?_
  simp [T.new, tS, T.a_mk, T.enc_mk]
  refine CallK_of' (p4 _ (hH.app _)) ?_
  simp [T.new, tI, tS, T.nil, T.a_mk, T.enc_mk]
  have x1 := hF (T.new 3 [[97], [98]] [tI, tS]) (T.new 3 [[98]] [T.nil]) (two_fit (by decide) (by decide) tI_fit tS_fit) (one_fit (by decide) nil_fit)
    (by rw [T.st_new]; exact Ty.rtTwo (by decide) (by decide) (by decide) Ty.rt1 Ty.rt2) (by rw [T.st_new]; exact Ty.rtOne (by decide) Ty.rt0)
  have x2 := hF (T.new 3 [[98]] [tS]) (T.new 3 [[97]] [tI]) (one_fit (by decide) tS_fit) (one_fit (by decide) tI_fit)
    (by rw [T.st_new]; exact Ty.rtOne (by decide) Ty.rt2) (by rw [T.st_new]; exact Ty.rtOne (by decide) Ty.rt1)
  have y1 : Ty.Fl (T.new 3 [[97], [98]] [tI, tS]).st (T.new 3 [[98]] [T.nil]).st := by rw [T.st_new, T.st_new]; exact Ty.flB
  have y2 : ¬ Ty.Fl (T.new 3 [[98]] [tS]).st (T.new 3 [[97]] [tI]).st := by rw [T.st_new, T.st_new]; exact Ty.flNo (by decide)
  unfold FlowsT at x1 x2
  simp only [y1, y2, decide_true, decide_false] at x1 x2
  simp only [T.new, tI, tS, T.nil, T.a_mk, T.enc_mk, List.map_cons, List.map_nil] at x1 x2
  refine CallK_of' (x1 _) ?_
  simp
  refine CallK_of' (x2 _) ?_
  simp
  simp [RetK, cut_appk hcl, cut_app hcl]
end
end Go.Zam

namespace Go.Zam
set_option linter.all false
set_option maxRecDepth 100000
set_option maxHeartbeats 2000000
open Classical

/-- what is asked of the guard -/
def FitsT (P : Program) (f : FuncId) : Prop := ∀ (l : List T), l.length ≤ 1048576 → (∀ v ∈ l, v.Fit 1048576) → ∀ (z : Bool) (H : Hp),
  ACall P f [.d (.sl z 3 (l.map T.enc))] H (fun r H' => (∃ c : Bool, r = .d (.bool c) ∧ (c = true → ∀ v ∈ l, v.st.Rt)) ∧ H' = H)

section
variable {P : Program} {t : Nat} {H0 : Hp}

end
end Go.Zam

namespace Go.Zam
set_option linter.all false
set_option maxRecDepth 100000
open Classical

def T.kk : T → Int
  | .mk k _ _ _ _ => k
def T.nms : T → List Str'
  | .mk _ _ ns _ _ => ns
def T.prt : T → List T
  | .mk _ _ _ _ ps => ps

mutual
/-- what two types have in common, as the program holds it; the flag: a list of parts cut off keeps its nil flag, or it does not -/
noncomputable def T.join (c : Bool) : T → T → T
  | .mk k z ns y ps, w => if (T.mk k z ns y ps).st = w.st then .mk k z ns y ps else if k = 3 ∧ w.kk = 3 then .mk 3 true (ns.filter fun x => (lookT x w.nms w.prt).isSome) true (T.joinR c ns ps w)
      else if k = 4 ∧ w.kk = 4 ∧ ps.length = w.prt.length ∧ (ps.map T.st).dropLast = (w.prt.map T.st).dropLast then .mk 4 true [] c (T.joinL c ps w.prt) else T.nil
noncomputable def T.joinR (c : Bool) : List Str' → List T → T → List T
  | x :: ns, p :: ps, w => match lookT x w.nms w.prt with
    | some q => T.join c p q :: T.joinR c ns ps w
    | none => T.joinR c ns ps w
  | _, _, _ => []
noncomputable def T.joinL (c : Bool) : List T → List T → List T
  | p :: ps, q :: qs => if ps = [] then [T.join c p q] else p :: T.joinL c ps qs
  | _, _ => []
end

theorem T.join_mk (c : Bool) (k : Int) (z : Bool) (ns : List Str') (y : Bool) (ps : List T) (w : T) : T.join c (.mk k z ns y ps) w = if (T.mk k z ns y ps).st = w.st then .mk k z ns y ps else if k = 3 ∧ w.kk = 3 then .mk 3 true (ns.filter fun x => (lookT x w.nms w.prt).isSome) true (T.joinR c ns ps w)
      else if k = 4 ∧ w.kk = 4 ∧ ps.length = w.prt.length ∧ (ps.map T.st).dropLast = (w.prt.map T.st).dropLast then .mk 4 true [] c (T.joinL c ps w.prt) else T.nil := by rw [T.join]

theorem T.st_k (w : T) : w.st.k = w.kk := by obtain ⟨k, z, ns, y, ps⟩ := w; rw [T.st_mk]; rfl
theorem T.st_ns (w : T) : w.st.ns = w.nms := by obtain ⟨k, z, ns, y, ps⟩ := w; rw [T.st_mk]; rfl
theorem T.st_ps (w : T) : w.st.ps = w.prt.map T.st := by obtain ⟨k, z, ns, y, ps⟩ := w; rw [T.st_mk]; rfl

theorem T.joinR_st {c : Bool} {w : T} : ∀ {ns : List Str'} {ps : List T}, (∀ p ∈ ps, ∀ q, (T.join c p q).st = Ty.join p.st q.st) → (T.joinR c ns ps w).map T.st = Ty.joinR ns (ps.map T.st) w.st
  | [], ps, _ => by simp [T.joinR, Ty.joinR]
  | x :: ns, [], _ => by simp [T.joinR, Ty.joinR]
  | x :: ns, p :: ps, h => by
    have ih := T.joinR_st (c := c) (w := w) (ns := ns) (ps := ps) fun p hp => h p (by simp [hp])
    rw [T.joinR, List.map_cons, Ty.joinR, T.st_ns, T.st_ps, ← lookT_st]
    cases hl : lookT x w.nms w.prt with
    | none => simpa using ih
    | some q => simp [ih, h p (by simp)]
theorem T.joinL_st {c : Bool} : ∀ {ps qs : List T}, (∀ p ∈ ps, ∀ q, (T.join c p q).st = Ty.join p.st q.st) → (T.joinL c ps qs).map T.st = Ty.joinL (ps.map T.st) (qs.map T.st)
  | [], qs, _ => by simp [T.joinL, Ty.joinL]
  | p :: ps, [], _ => by simp [T.joinL, Ty.joinL]
  | p :: ps, q :: qs, h => by
    have ih := T.joinL_st (c := c) (ps := ps) (qs := qs) fun p hp => h p (by simp [hp])
    rw [T.joinL, List.map_cons, List.map_cons, Ty.joinL]
    by_cases e : ps = []
    · simp [e, h p (by simp)]
    · simp [e, ih]
theorem T.join_st (c : Bool) (v w : T) : (T.join c v w).st = Ty.join v.st w.st := by
  induction v using T.ind generalizing w with
  | h k z ns y ps ih =>
  rw [T.join_mk]
  conv => rhs; rw [T.st_mk, Ty.join_mk, T.st_k, T.st_ns, T.st_ps]
  have e1 := T.st_mk k z ns y ps
  by_cases h1 : (T.mk k z ns y ps).st = w.st
  · rw [if_pos h1, if_pos (by rw [← e1]; exact h1), h1]
  have h1' : ¬ Ty.mk k ns (ps.map T.st) = w.st := by rw [← e1]; exact h1
  rw [if_neg h1, if_neg h1']
  by_cases h2 : k = 3 ∧ w.kk = 3
  · rw [if_pos h2, if_pos h2, T.st_mk, T.joinR_st fun p hp q => ih p hp q]
    congr 1
    congr 1
    funext x
    rw [← lookT_st]
    simp
  rw [if_neg h2, if_neg h2]
  by_cases h3 : k = 4 ∧ w.kk = 4 ∧ ps.length = w.prt.length ∧ (ps.map T.st).dropLast = (w.prt.map T.st).dropLast
  · rw [if_pos h3, if_pos (by simpa using h3), T.st_mk, T.joinL_st fun p hp q => ih p hp q]
  · rw [if_neg h3, if_neg (by simpa using h3)]
    rfl

theorem T.joinR_snoc {c : Bool} {w : T} : ∀ {ns : List Str'} {ps : List T} {x : Str'} {p : T}, ns.length = ps.length → T.joinR c (ns ++ [x]) (ps ++ [p]) w = T.joinR c ns ps w ++ ((lookT x w.nms w.prt).map (T.join c p)).toList
  | [], [], x, p, _ => by
    simp only [List.nil_append, T.joinR]
    cases lookT x w.nms w.prt <;> rfl
  | [], _ :: _, _, _, h => by simp at h
  | _ :: _, [], _, _, h => by simp at h
  | y :: ns, q :: ps, x, p, h => by
    have ih := T.joinR_snoc (c := c) (w := w) (ns := ns) (ps := ps) (x := x) (p := p) (by simpa using h)
    simp only [List.cons_append, T.joinR]
    cases lookT y w.nms w.prt <;> simp [ih]
theorem T.joinR_len {c : Bool} {w : T} : ∀ {ns : List Str'} {ps : List T}, (T.joinR c ns ps w).length ≤ ps.length
  | [], ps => by simp [T.joinR]
  | _ :: _, [] => by simp [T.joinR]
  | x :: ns, p :: ps => by
    have ih := T.joinR_len (c := c) (w := w) (ns := ns) (ps := ps)
    rw [T.joinR]
    cases lookT x w.nms w.prt <;> simp <;> omega
theorem T.joinR_mem {c : Bool} {w : T} : ∀ {ns : List Str'} {ps : List T} {t : T}, t ∈ T.joinR c ns ps w → ∃ p q, p ∈ ps ∧ q ∈ w.prt ∧ t = T.join c p q
  | [], ps, t, h => by simp [T.joinR] at h
  | _ :: _, [], t, h => by simp [T.joinR] at h
  | x :: ns, p :: ps, t, h => by
    rw [T.joinR] at h
    cases hl : lookT x w.nms w.prt with
    | none =>
      rw [hl] at h
      obtain ⟨p', q', h1, h2, h3⟩ := T.joinR_mem h
      exact ⟨p', q', by simp [h1], h2, h3⟩
    | some q =>
      rw [hl] at h
      rcases List.mem_cons.1 h with rfl | h
      · obtain ⟨i, -, hi⟩ := lookT_some hl
        exact ⟨p, q, by simp, List.mem_of_getElem? hi, rfl⟩
      · obtain ⟨p', q', h1, h2, h3⟩ := T.joinR_mem h
        exact ⟨p', q', by simp [h1], h2, h3⟩
theorem T.joinL_snoc {c : Bool} : ∀ {l l' : List T} {p q : T}, l.length = l'.length → T.joinL c (l ++ [p]) (l' ++ [q]) = l ++ [T.join c p q]
  | [], [], p, q, _ => by simp [T.joinL]
  | [], _ :: _, _, _, h => by simp at h
  | _ :: _, [], _, _, h => by simp at h
  | a :: l, b :: l', p, q, h => by
    have ih := T.joinL_snoc (c := c) (l := l) (l' := l') (p := p) (q := q) (by simpa using h)
    simp only [List.cons_append, T.joinL]
    simp [ih]
theorem T.joinL_mem {c : Bool} : ∀ {ps qs : List T} {t : T}, t ∈ T.joinL c ps qs → t ∈ ps ∨ ∃ p q, p ∈ ps ∧ q ∈ qs ∧ t = T.join c p q
  | [], qs, t, h => by simp [T.joinL] at h
  | _ :: _, [], t, h => by simp [T.joinL] at h
  | p :: ps, q :: qs, t, h => by
    rw [T.joinL] at h
    split at h
    · simp at h; exact .inr ⟨p, q, by simp, by simp, h⟩
    · rcases List.mem_cons.1 h with rfl | h
      · exact .inl (by simp)
      · rcases T.joinL_mem h with h | ⟨p', q', h1, h2, h3⟩
        · exact .inl (by simp [h])
        · exact .inr ⟨p', q', by simp [h1], by simp [h2], h3⟩
theorem T.joinL_len {c : Bool} : ∀ {ps qs : List T}, (T.joinL c ps qs).length ≤ ps.length
  | [], qs => by simp [T.joinL]
  | _ :: _, [] => by simp [T.joinL]
  | p :: ps, q :: qs => by
    have ih := T.joinL_len (c := c) (ps := ps) (qs := qs)
    rw [T.joinL]
    split <;> simp <;> omega

theorem T.join_fit (c : Bool) (v w : T) (hv : v.Fit 1048576) (hw : w.Fit 1048576) : (T.join c v w).Fit 1048576 := by
  induction v using T.ind generalizing w with
  | h k z ns y ps ih =>
  rw [T.join_mk]
  have hq : ∀ q ∈ w.prt, q.Fit 1048576 := by
    obtain ⟨_, _, _, _, _⟩ := w
    cases hw with | mk _ _ _ _ _ c2 c3 c4 c5 => exact c5
  have hv0 := hv
  cases hv with | mk _ _ _ _ _ b2 b3 b4 b5 =>
  split
  · exact hv0
  split
  · refine .mk _ _ _ _ _ (Nat.le_trans (List.length_filter_le _ _) b2) (Nat.le_trans T.joinR_len b3) (fun x hx => b4 x (List.mem_filter.1 hx).1) fun t ht => ?_
    obtain ⟨p, q, h1, h2, rfl⟩ := T.joinR_mem ht
    exact ih p h1 q (b5 p h1) (hq q h2)
  split
  · refine .mk _ _ _ _ _ (by simp) (Nat.le_trans T.joinL_len b3) (by simp) fun t ht => ?_
    rcases T.joinL_mem ht with h | ⟨p, q, h1, h2, rfl⟩
    · exact b5 t h
    · exact ih p h1 q (b5 p h1) (hq q h2)
  · exact T.nil_fit _

section
variable {c : Bool} {k k' : Int} {z z' y y' : Bool} {ns ns' : List Str'} {ps ps' : List T}
theorem T.join_same {v w : T} (h : v.st = w.st) : T.join c v w = v := by
  obtain ⟨k, z, ns, y, ps⟩ := v
  rw [T.join_mk]
  exact if_pos h
theorem T.join_rec (h : ¬ (T.mk k z ns y ps).st = (T.mk k' z' ns' y' ps').st) (h3 : k = 3) (h3' : k' = 3) :
    T.join c (.mk k z ns y ps) (.mk k' z' ns' y' ps') = .mk 3 true (ns.filter fun x => (lookT x ns' ps').isSome) true (T.joinR c ns ps (.mk k' z' ns' y' ps')) := by
  rw [T.join_mk]
  exact (if_neg h).trans (if_pos ⟨h3, h3'⟩)
theorem T.join_fn (h : ¬ (T.mk k z ns y ps).st = (T.mk k' z' ns' y' ps').st) (h4 : k = 4) (h4' : k' = 4) (hl : ps.length = ps'.length) (hd : (ps.map T.st).dropLast = (ps'.map T.st).dropLast) :
    T.join c (.mk k z ns y ps) (.mk k' z' ns' y' ps') = .mk 4 true [] c (T.joinL c ps ps') := by
  rw [T.join_mk]
  exact (if_neg h).trans ((if_neg (fun e => by omega)).trans (if_pos ⟨h4, h4', hl, hd⟩))
theorem T.join_no (h : ¬ (T.mk k z ns y ps).st = (T.mk k' z' ns' y' ps').st) (h3 : ¬ (k = 3 ∧ k' = 3)) (h4 : ¬ (k = 4 ∧ k' = 4 ∧ ps.length = ps'.length ∧ (ps.map T.st).dropLast = (ps'.map T.st).dropLast)) :
    T.join c (.mk k z ns y ps) (.mk k' z' ns' y' ps') = T.nil := by
  rw [T.join_mk]
  exact (if_neg h).trans ((if_neg h3).trans (if_neg h4))
end

/-- what is asked of a function that finds what two types have in common -/
def JoinT (P : Program) (f : FuncId) (c : Bool) (v w : T) : Prop := ∀ (H : Hp), ACall P f [v.a, w.a] H (fun r H' => r = (T.join c v w).a ∧ H' = H)
end Go.Zam

namespace Go.Zam
set_option linter.all false
set_option maxRecDepth 100000
set_option maxHeartbeats 4000000
open Classical

theorem filter_take_succ {α : Type} (p : α → Bool) {l : List α} {i : Nat} (h : i < l.length) : (l.take (i + 1)).filter p = (l.take i).filter p ++ (if p l[i] then [l[i]] else []) := by
  rw [List.take_succ_eq_append_getElem h, List.filter_append]
  congr 1
  simp [List.filter_cons]
theorem T.joinR_take_succ {c : Bool} {w : T} {ns : List Str'} {ps : List T} {i : Nat} (h : i < ns.length) (h' : i < ps.length) :
    T.joinR c (ns.take (i + 1)) (ps.take (i + 1)) w = T.joinR c (ns.take i) (ps.take i) w ++ ((lookT ns[i] w.nms w.prt).map (T.join c ps[i])).toList := by
  rw [List.take_succ_eq_append_getElem h, List.take_succ_eq_append_getElem h', T.joinR_snoc (by simp; omega)]

section
variable {P : Program} {t tS : TypeId}

theorem HasT.tyJoin {f fs fl fe fc : FuncId} (h : HasT P [25] f (irTyJoin fs fl f fe fc t tS))
    (hS : ∀ v : T, v.Fit 1048576 → SameT P fs v) (hF : FieldT P fl)
    (hE : ∀ (z y : Bool) (a b : List T), a.length ≤ 1048576 → (∀ v ∈ a, v.Fit 1048576) → ∀ H, ACall P fe [.d (.sl z 3 (a.map T.enc)), .d (.sl y 3 (b.map T.enc)), .d (.fn fs)] H (fun r H' => r = .d (.bool (decide (a.map T.st = b.map T.st))) ∧ H' = H))
    (hC : ∀ (v : T) (z : Bool) (ps : List T), (ps.length + 1) * 56 ≤ 140737488355328 → ∀ H, ACall P fc [v.a, .d (.sl z 3 (ps.map T.enc))] H (fun r H' => r = (T.fn v z ps).a ∧ H' = H))
    (v : T) : ∀ w : T, v.Fit 1048576 → w.Fit 1048576 → v.st.Rt → w.st.Rt → JoinT P f false v w := by
  induction v using T.ind with
  | h k z ns y ps ih =>
  intro w hv hw rv rw' H
  have hvF := hv
  have hwF := hw
  have hfl := hF w hw rw'
  have hsm := hS (.mk k z ns y ps) hv w
  have rv0 := rv
  have rw0 := rw'
  obtain ⟨Q, hQ⟩ : ∃ Q : A → Hp → Prop, Q = fun r H' => r = (T.join false (.mk k z ns y ps) w).a ∧ H' = H := ⟨_, rfl⟩
  rw [← hQ]
  have hfin : ∀ u : T, T.join false (.mk k z ns y ps) w = u → Q u.a H := fun u hu => by subst hQ; exact ⟨by rw [hu], rfl⟩
  clear hQ
  obtain ⟨k', z', ns', y', ps'⟩ := w
  have h0 := h
  obtain ⟨fn, hf, hcf⟩ := h
  refine acall_fin hf hcf (by simp [irTyJoin]) fun hcl _ => ?_
  rw [T.st_mk] at rv rw'
  cases hv with | mk _ _ _ _ _ b2 b3 b4 b5 =>
  cases hw with | mk _ _ _ _ _ c2 c3 c4 c5 =>
  simp only [T.a_mk] at hfl hsm ⊢
  have hne := @T.join_rec false k k' z z' y y' ns ns' ps ps'
  have hnf := @T.join_fn false k k' z z' y y' ns ns' ps ps'
  have hnn := @T.join_no false k k' z z' y y' ns ns' ps ps'
  have hsa := @T.join_same false (.mk k z ns y ps) (.mk k' z' ns' y' ps')
  generalize hE1 : ((T.mk k z ns y ps).st = (T.mk k' z' ns' y' ps').st) = E1 at *
  simp [irTyJoin]
  refine CallK_of' (hsm _) ?_
  by_cases hE1 : E1
  · simp [hE1]
    simp [RetK, cut_app hcl]
    have := hfin _ (hsa hE1)
    rw [T.a_mk] at this
    exact this
  have hne := hne hE1
  have hnf := hnf hE1
  have hnn := hnn hE1
  clear hsa
  simp [hE1]
  by_cases h3 : k = 3 ∧ k' = 3
  · obtain ⟨rfl, rfl⟩ := h3
    have hlen : ns.length = ps.length := by simpa using rv.len rfl
    have hfin := hfin _ (hne rfl rfl)
    simp
    refine RangeK_of (H.length + 6) ns.length (fun i fr H' => fr 2 = .ptr H.length 0 ∧ fr 3 = .ptr (H.length + 1) 0 ∧ fr 4 = .ptr (H.length + 2) 0 ∧ fr 5 = .ptr (H.length + 5) 0 ∧ fr 27 = .d (.sl z 1 (ns.map encStr)) ∧
      H' = H ++ [.box t [.d (.int .i64 3), .d (.sl z 1 (ns.map encStr)), .d (.sl y 3 (ps.map T.enc))], .box t [.d (.int .i64 3), .d (.sl z' 1 (ns'.map encStr)), .d (.sl y' 3 (ps'.map T.enc))],
        .box t [.d (.int .i64 0), .d (.sl true 1 []), .d (.sl true 3 [])], .tok ((ns.take i).filter fun x => (lookT x ns' ps').isSome).length 1 tS, .tok (T.joinR false (ns.take i) (ps.take i) (.mk 3 z' ns' y' ps')).length 3 t,
        .box t [.d (.int .i64 3), .osl true 1 (((ns.take i).filter fun x => (lookT x ns' ps').isSome).map encStr) (H.length + 3), .osl true 3 ((T.joinR false (ns.take i) (ps.take i) (.mk 3 z' ns' y' ps')).map T.enc) (H.length + 4)]]) (by omega) (by decide) (by simp) (by simp) ?_ ?_ ?_
    · simp [cut_appk hcl, T.joinR]
    · rintro i fr H' hi f29 f28 ⟨f2, f3, f4, f5, f27, rfl⟩
      have hip : i < ps.length := by omega
      have ra := rowAt_map encStr hi
      have rb := rowAt_map T.enc hip
      have ta := filter_take_succ (fun x => (lookT x ns' ps').isSome) hi
      have tb := T.joinR_take_succ (c := false) (w := .mk 3 z' ns' y' ps') hi hip
      have hx := ih ps[i] (List.getElem_mem hip)
      have hgp : ps[i]? = some ps[i] := List.getElem?_eq_getElem hip
      have hpf := b5 _ (List.getElem_mem hip)
      have hpr := rv.part (i := i) (p := ps[i].st) (by simp [hip])
      have hn1 : ((ns.take i).filter fun x => (lookT x ns' ps').isSome).length ≤ 1048576 := Nat.le_trans (List.length_filter_le _ _) (by simp; omega)
      have hn2 : (T.joinR false (ns.take i) (ps.take i) (.mk 3 z' ns' y' ps')).length ≤ 1048576 := Nat.le_trans T.joinR_len (by simp; omega)
      generalize ns[i] = x at ra ta tb
      generalize ps[i] = p at rb tb hx hgp hpf hpr
      simp only [T.nms, T.prt] at tb
      generalize ((ns.take i).filter fun x => (lookT x ns' ps').isSome) = N at hn1 ta ⊢
      generalize T.joinR false (ns.take i) (ps.take i) (.mk 3 z' ns' y' ps') = Qs at hn2 tb ⊢
      simp only [encStr] at ra
      have hc1 : (N.length + 1) * 16 ≤ 140737488355328 := by omega
      have hc2 : (Qs.length + 1) * 56 ≤ 140737488355328 := by omega
      simp [f29, f27, f3, ra]
      refine CallK_of' (hfl x _) ?_
      have hlk : (T.mk 3 z' ns' y' ps').fld x = lookT x ns' ps' := by simp [T.fld]
      rw [hlk]
      cases hso : lookT x ns' ps' with
      | none =>
        simp [T.a_nil]
        refine NextK_of (H.length + 6) (Nat.le_refl _) (by simp [f29, f28]) ?_
        rw [hso] at ta tb
        simp at ta tb
        rw [ta, tb]
        simp [f2, f3, f4, f5, f27, cut_appk hcl]
      | some q =>
        obtain ⟨j, hj1, hj2⟩ := lookT_some hso
        have hqm := List.mem_of_getElem? hj2
        have hx := hx q hpf (c5 q hqm) hpr (rw'.part (i := j) (p := q.st) (by simp [hj2]))
        have hlt : (i : Int) < (ps.length : Int) := by omega
        unfold JoinT at hx
        rw [hso] at ta tb
        simp at ta tb
        generalize T.join false p q = u at hx tb
        obtain ⟨k1, z1, n1, y1, p1⟩ := p
        obtain ⟨k2, z2, n2, y2, p2⟩ := q
        obtain ⟨k3, z3, n3, y3, p3⟩ := u
        simp only [T.a_mk, T.enc_mk] at hx rb
        simp [T.a_mk, f2, f5, rb, hlt, f29, f27, hip]
        simp [appA, hc1, f2, f5, rb, f29, f27]
        refine CallD_of (hx _) ?_
        simp [appA, hc2, f5]
        refine NextK_of (H.length + 6) (Nat.le_refl _) (by simp [f29, f28]) ?_
        rw [ta, tb]
        simp [f2, f3, f4, f5, f27, cut_appk hcl, encStr, T.enc_mk]
    · rintro fr H' f29 f28 ⟨f2, f3, f4, f5, f27, rfl⟩
      rw [List.take_of_length_le (Nat.le_refl _), hlen, List.take_of_length_le (Nat.le_refl _)]
      simp [f4, f5]
      have g3 : ¬ (H.length + 3 < H.length) := by omega
      have g4 : ¬ (H.length + 4 < H.length) := by omega
      simp [RetK, f4, cut_app hcl, g3, g4]
      rw [T.a_mk] at hfin
      exact hfin
  have d3 : ¬ (k = 3 ∧ k' = 3) := h3
  have hw3 : ∀ c : Prop, [Decidable c] → True := fun _ _ => trivial
  have hbool : ∀ (fr : Fr), True := fun _ => trivial
  by_cases h4 : k = 4 ∧ k' = 4
  case neg =>
    have hfin := hfin _ (hnn h3 fun e => h4 ⟨e.1, e.2.1⟩)
    rw [T.a_nil] at hfin
    by_cases k3 : k = 3
    · have k3' : ¬ k' = 3 := fun e => h3 ⟨k3, e⟩
      have k4 : ¬ k = 4 := by omega
      simp [k3, k3']
      simp [RetK, cut_app hcl]
      exact hfin
    by_cases k4 : k = 4
    · have k4' : ¬ k' = 4 := fun e => h4 ⟨k4, e⟩
      simp [k4, k4']
      simp [RetK, cut_app hcl]
      exact hfin
    · simp [k3, k4]
      simp [RetK, cut_app hcl]
      exact hfin
  obtain ⟨rfl, rfl⟩ := h4
  by_cases hl : ps.length = ps'.length
  case neg =>
    have hfin := hfin _ (hnn h3 fun e => hl e.2.2.1)
    rw [T.a_nil] at hfin
    have hl' : ¬ (ps.length : Int) = ps'.length := by omega
    simp [hl, hl']
    simp [RetK, cut_app hcl]
    exact hfin
  have hpne : ps ≠ [] := fun e => by
    have := (Ty.rt_iff.1 rv).2.2.2.1 rfl
    simp [e] at this
  have hp0 : 0 < ps.length := List.length_pos_iff.2 hpne
  have hp0' : (0 : Int) < ps'.length := by omega
  obtain ⟨l, p, rfl⟩ : ∃ l p, ps = l ++ [p] := ⟨ps.dropLast, ps.getLast hpne, (List.dropLast_concat_getLast hpne).symm⟩
  have hpne' : ps' ≠ [] := fun e => by simp [e] at hl
  obtain ⟨l', p', rfl⟩ : ∃ l p, ps' = l ++ [p] := ⟨ps'.dropLast, ps'.getLast hpne', (List.dropLast_concat_getLast hpne').symm⟩
  have hll : l.length = l'.length := by simpa using hl
  have hb3 : l.length + 1 ≤ 1048576 := by simpa using b3
  have hE := hE false false l l' (by omega) (fun v hv => b5 v (by simp [hv]))
  have hip : l.length < (l ++ [p]).length := by simp
  have hip' : l.length < (l' ++ [p']).length := by simp; omega
  have ra := rowAt_map T.enc hip
  have rb := rowAt_map T.enc hip'
  have ea : (l ++ [p])[l.length] = p := by simp
  have eb : (l' ++ [p'])[l.length] = p' := by simp [hll]
  rw [ea] at ra
  rw [eb] at rb
  have hx := ih p (by simp) p' (b5 p (by simp)) (c5 p' (by simp)) (rv.part (i := l.length) (p := p.st) (by simp)) (rw'.part (i := l.length) (p := p'.st) (by simp [hll]))
  have hjl : T.joinL false (l ++ [p]) (l' ++ [p']) = l ++ [T.join false p p'] := T.joinL_snoc hll
  rw [hjl] at hnf
  have hC := hC (T.join false p p') false l (by omega)
  unfold JoinT at hx

  have hw1 : IntKind.i64.wrap (l'.length : Int) = (l'.length : Int) := wrap_i64 (by omega) (by omega)
  have s1 : subL (l.map T.enc ++ [p.enc]) 0 (l'.length : Int) = some (l.map T.enc) := by
    rw [subL_ok (by simp; omega)]
    simp [← hll]
  have s2 : subL (l'.map T.enc ++ [p'.enc]) 0 (l'.length : Int) = some (l'.map T.enc) := by
    rw [subL_ok (by simp; omega)]
    simp
  rw [hll] at ra rb
  simp only [List.map_append, List.map_cons, List.map_nil] at ra rb
  have hy1 : (y && (l.map T.enc ++ [p.enc]).isEmpty) = false := by cases y <;> simp
  have hy2 : (y' && (l'.map T.enc ++ [p'.enc]).isEmpty) = false := by cases y' <;> simp
  simp [hll, hw1, s1, s2, hy1, hy2]
  refine CallD_of (hE _) ?_
  by_cases hm : l.map T.st = l'.map T.st
  case neg =>
    have hfin := hfin _ (hnn h3 fun e => hm (by have := e.2.2.2; simpa using this))
    rw [T.a_nil] at hfin
    simp [hm]
    simp [RetK, cut_app hcl]
    exact hfin
  have hfin := hfin _ (hnf rfl rfl (by simp [hll]) (by simpa using hm))
  generalize T.join false p p' = u at hx hC hfin
  obtain ⟨k1, z1, n1, y1, p1⟩ := p
  obtain ⟨k2, z2, n2, y2, p2⟩ := p'
  obtain ⟨k3, z3, n3, y3, p3⟩ := u
  simp only [List.map_append, List.map_cons, List.map_nil, T.enc_mk] at ra rb
  simp only [T.a_mk] at hx hC
  have hh1 : (y && (l.map T.enc ++ [[D.int IntKind.i64 k1, D.sl z1 1 (n1.map encStr), D.sl y1 3 (p1.map T.enc)]]).isEmpty) = false := by cases y <;> simp
  simp only [T.enc_mk] at s1
  simp [hm, ra, rb, hw1, T.enc_mk, s1, hh1]
  refine CallD_of (hx _) ?_
  simp [hm, ra, rb, hw1, T.enc_mk, s1, hh1]
  refine CallD_of (hC _) ?_
  rw [T.fn, T.a_mk]
  simp
  simp [RetK, cut_app hcl]
  rw [T.a_mk] at hfin
  simpa using hfin
end
end Go.Zam

namespace Go.Zam
set_option linter.all false
set_option maxRecDepth 100000
set_option maxHeartbeats 4000000
open Classical

section
variable {P : Program} {t : Nat} {H0 : Hp}

end
end Go.Zam

namespace Go.Zam
set_option linter.all false
set_option maxRecDepth 100000
set_option maxHeartbeats 4000000
open Classical

theorem lookT_take_succ {x : Str'} : ∀ {ns : List Str'} {ps : List T} {j : Nat} (h : j < ns.length) (h' : j < ps.length), Ty.Inc ns →
    lookT x (ns.take (j + 1)) (ps.take (j + 1)) = if ns[j] = x then some ps[j] else lookT x (ns.take j) (ps.take j)
  | [], _, _, h, _, _ => by simp at h
  | _ :: _, [], _, _, h, _ => by simp at h
  | y :: ns, p :: ps, 0, _, _, _ => by simp [lookT]
  | y :: ns, p :: ps, j + 1, h, h', hi => by
    have ih := lookT_take_succ (x := x) (ns := ns) (ps := ps) (j := j) (by simpa using h) (by simpa using h') hi.tail
    simp only [List.take_succ_cons, lookT, List.getElem_cons_succ]
    rw [ih]
    by_cases e : y = x
    · have hne : ¬ ns[j]'(by simpa using h) = x := fun e' => hi.notMem (by rw [e, ← e']; exact List.getElem_mem _)
      rw [if_pos e, if_neg hne, if_pos e]
    · rw [if_neg e, if_neg e]

section
variable {P : Program} {t tS : TypeId}

theorem HasT.rJoin {f fs : FuncId} (h : HasT P [5000005, 117] f (irRJoin fs f t tS)) (hS : ∀ v : T, v.Fit 1048576 → SameT P fs v)
    (v : T) : ∀ w : T, v.Fit 1048576 → w.Fit 1048576 → v.st.Rt → w.st.Rt → JoinT P f true v w := by
  induction v using T.ind with
  | h k z ns y ps ih =>
  intro w hv hw rv rw' H
  have hsm := hS (.mk k z ns y ps) hv w
  obtain ⟨Q, hQ⟩ : ∃ Q : A → Hp → Prop, Q = fun r H' => r = (T.join true (.mk k z ns y ps) w).a ∧ H' = H := ⟨_, rfl⟩
  rw [← hQ]
  have hfin : ∀ u : T, T.join true (.mk k z ns y ps) w = u → Q u.a H := fun u hu => by subst hQ; exact ⟨by rw [hu], rfl⟩
  clear hQ
  obtain ⟨k', z', ns', y', ps'⟩ := w
  have h0 := h
  obtain ⟨fn, hf, hcf⟩ := h
  refine acall_fin hf hcf (by simp [irRJoin]) fun hcl _ => ?_
  rw [T.st_mk] at rv rw'
  have hS' := fun v hv w => hS v hv w
  cases hv with | mk _ _ _ _ _ b2 b3 b4 b5 =>
  cases hw with | mk _ _ _ _ _ c2 c3 c4 c5 =>
  simp only [T.a_mk] at hsm ⊢
  have hne := @T.join_rec true k k' z z' y y' ns ns' ps ps'
  have hnf := @T.join_fn true k k' z z' y y' ns ns' ps ps'
  have hnn := @T.join_no true k k' z z' y y' ns ns' ps ps'
  have hsa := @T.join_same true (.mk k z ns y ps) (.mk k' z' ns' y' ps')
  generalize hE1 : ((T.mk k z ns y ps).st = (T.mk k' z' ns' y' ps').st) = E1 at *
  have g3 : ¬ (H.length + 3 < H.length) := by omega
  have g4 : ¬ (H.length + 4 < H.length) := by omega
  have g6 : ¬ (H.length + 6 < H.length) := by omega
  have g7 : ¬ (H.length + 7 < H.length) := by omega
  simp [irRJoin]
  refine CallK_of' (hsm _) ?_
  by_cases hE1 : E1
  · simp [hE1]
    simp [RetK, cut_app hcl]
    have := hfin _ (hsa hE1)
    rw [T.a_mk] at this
    exact this
  have hne := hne hE1
  have hnf := hnf hE1
  have hnn := hnn hE1
  clear hsa
  simp [hE1]
  by_cases h3 : k = 3 ∧ k' = 3
  · obtain ⟨rfl, rfl⟩ := h3
    have hlen : ns.length = ps.length := by simpa using rv.len rfl
    have hlen' : ns'.length = ps'.length := by simpa using rw'.len rfl
    have hinc : Ty.Inc ns' := rw'.inc
    have hfin := hfin _ (hne rfl rfl)
    simp
    refine ForK_of (H.length + 6) ns.length (fun i fr H' => fr 2 = .ptr H.length 0 ∧ fr 3 = .ptr (H.length + 1) 0 ∧ fr 4 = .ptr (H.length + 2) 0 ∧ fr 5 = .ptr (H.length + 5) 0 ∧
      H' = H ++ [.box t [.d (.int .i64 3), .d (.sl z 1 (ns.map encStr)), .d (.sl y 3 (ps.map T.enc))], .box t [.d (.int .i64 3), .d (.sl z' 1 (ns'.map encStr)), .d (.sl y' 3 (ps'.map T.enc))],
        .box t [.d (.int .i64 0), .d (.sl true 1 []), .d (.sl true 3 [])], .tok ((ns.take i).filter fun x => (lookT x ns' ps').isSome).length 1 tS, .tok (T.joinR true (ns.take i) (ps.take i) (.mk 3 z' ns' y' ps')).length 3 t,
        .box t [.d (.int .i64 3), .osl true 1 (((ns.take i).filter fun x => (lookT x ns' ps').isSome).map encStr) (H.length + 3), .osl true 3 ((T.joinR true (ns.take i) (ps.take i) (.mk 3 z' ns' y' ps')).map T.enc) (H.length + 4)]]) (by omega) (by decide) (by simp) (by simp) ?_ ?_
    · simp [cut_appk hcl, T.joinR]
    rintro i fr H' hi f6 ⟨f2, f3, f4, f5, rfl⟩
    simp [f6, f2, f3]
    refine BrK_split (fun h => ?_) (fun h => ?_)
    case refine_2 =>
      have hii : i = ns.length := by have : ¬ i < ns.length := by simpa using h
                                     omega
      subst hii
      rw [List.take_of_length_le (Nat.le_refl _), hlen, List.take_of_length_le (Nat.le_refl _)]
      simp [f4, f5]
      simp [RetK, f4, cut_app hcl, g3, g4]
      rw [T.a_mk] at hfin
      exact hfin
    have hlt : i < ns.length := by simpa using h
    have hip : i < ps.length := by omega
    have ra := rowAt_map encStr hlt
    have rb := rowAt_map T.enc hip
    have ta := filter_take_succ (fun x => (lookT x ns' ps').isSome) hlt
    have tb := T.joinR_take_succ (c := true) (w := .mk 3 z' ns' y' ps') hlt hip
    have hx := ih ps[i] (List.getElem_mem hip)
    have hgp : ps[i]? = some ps[i] := List.getElem?_eq_getElem hip
    have hpf := b5 _ (List.getElem_mem hip)
    have hpr := rv.part (i := i) (p := ps[i].st) (by simp [hip])
    have hn1 : ((ns.take i).filter fun x => (lookT x ns' ps').isSome).length ≤ 1048576 := Nat.le_trans (List.length_filter_le _ _) (by simp; omega)
    have hn2 : (T.joinR true (ns.take i) (ps.take i) (.mk 3 z' ns' y' ps')).length ≤ 1048576 := Nat.le_trans T.joinR_len (by simp; omega)
    generalize ns[i] = x at ra ta tb
    generalize ps[i] = p at rb tb hx hgp hpf hpr
    simp only [T.nms, T.prt] at tb
    generalize ((ns.take i).filter fun x => (lookT x ns' ps').isSome) = N at hn1 ta ⊢
    generalize T.joinR true (ns.take i) (ps.take i) (.mk 3 z' ns' y' ps') = Qs at hn2 tb ⊢
    simp only [encStr] at ra
    have hc1 : (N.length + 1) * 16 ≤ 140737488355328 := by omega
    have hc2 : (Qs.length + 1) * 56 ≤ 140737488355328 := by omega
    simp
    refine ForK_of (H.length + 6) ns'.length (fun j fr H' => fr 2 = .ptr H.length 0 ∧ fr 3 = .ptr (H.length + 1) 0 ∧ fr 4 = .ptr (H.length + 2) 0 ∧ fr 5 = .ptr (H.length + 5) 0 ∧ fr 6 = .d (.int .i64 i) ∧
      H' = H ++ [.box t [.d (.int .i64 3), .d (.sl z 1 (ns.map encStr)), .d (.sl y 3 (ps.map T.enc))], .box t [.d (.int .i64 3), .d (.sl z' 1 (ns'.map encStr)), .d (.sl y' 3 (ps'.map T.enc))],
        .box t [.d (.int .i64 0), .d (.sl true 1 []), .d (.sl true 3 [])], .tok (N ++ ((lookT x (ns'.take j) (ps'.take j)).map fun _ => x).toList).length 1 tS, .tok (Qs ++ ((lookT x (ns'.take j) (ps'.take j)).map (T.join true p)).toList).length 3 t,
        .box t [.d (.int .i64 3), .osl true 1 ((N ++ ((lookT x (ns'.take j) (ps'.take j)).map fun _ => x).toList).map encStr) (H.length + 3), .osl true 3 ((Qs ++ ((lookT x (ns'.take j) (ps'.take j)).map (T.join true p)).toList).map T.enc) (H.length + 4)]]) (by omega) (by decide) (by simp) (by simp) ?_ ?_
    · simp [cut_appk hcl, lookT, f2, f3, f4, f5, f6]
    rintro j fr2 H2 hj f7 ⟨f2, f3, f4, f5, f6, rfl⟩
    simp [f7, f2, f3]
    refine BrK_split (fun h => ?_) (fun h => ?_)
    case refine_2 =>
      have hii : j = ns'.length := by have : ¬ j < ns'.length := by simpa using h
                                      omega
      subst hii
      rw [List.take_of_length_le (Nat.le_refl _), hlen', List.take_of_length_le (Nat.le_refl _)]
      have tc : (if (lookT x ns' ps').isSome then [x] else []) = ((lookT x ns' ps').map fun _ => x).toList := by cases lookT x ns' ps' <;> rfl
      rw [tc] at ta
      simp
      refine NextF_of (H.length + 6) (Nat.le_refl _) hlt (by simp [f6]) ?_
      rw [ta, tb]
      simp [f2, f3, f4, f5, cut_appk hcl]
    have hlj : j < ns'.length := by simpa using h
    have hjp : j < ps'.length := by omega
    have rc := rowAt_map encStr hlj
    have rd := rowAt_map T.enc hjp
    have hls := lookT_take_succ (x := x) hlj hjp hinc
    have hqf := c5 _ (List.getElem_mem hjp)
    have hqr := rw'.part (i := j) (p := ps'[j].st) (by simp [hjp])
    have hnot : ns'[j] = x → lookT x (ns'.take j) (ps'.take j) = none := fun e => lookT_none fun hm => by
      obtain ⟨m, hm⟩ := List.getElem?_of_mem hm
      rw [List.getElem?_take] at hm
      split at hm
      · rename_i hmj
        have := hinc.inj hm (show ns'[j]? = some x by rw [List.getElem?_eq_getElem hlj, e])
        omega
      · cases hm
    generalize ns'[j] = x' at rc hls hnot
    generalize ps'[j] = q at rd hls hqf hqr
    simp only [encStr] at rc
    simp [f7, f6, f2, f3, ra, rc]
    refine BrK_split (fun h => ?_) (fun h => ?_)
    case refine_2 =>
      have hne : ¬ x' = x := fun e => by simp [e] at h
      rw [if_neg hne] at hls
      simp
      refine NextF_of (H.length + 6) (Nat.le_refl _) hlj (by simp [f7]) ?_
      rw [hls]
      simp [f2, f3, f4, f5, f6, cut_appk hcl]
    have he : x' = x := by simp at h; exact h.symm
    have hnot := hnot he
    rw [if_pos he] at hls
    rw [hnot]
    have hx := hx q hpf hqf hpr hqr
    unfold JoinT at hx
    generalize hu : T.join true p q = u at hx
    obtain ⟨k1, z1, n1, y1, p1⟩ := p
    obtain ⟨k2, z2, n2, y2, p2⟩ := q
    obtain ⟨k3, z3, n3, y3, p3⟩ := u
    simp only [T.a_mk, T.enc_mk] at hx rb rd
    simp [f2, f3, f5, f6, f7, ra, rb, rd, appA, hc1]
    refine CallD_of (hx _) ?_
    simp [f2, f3, f5, f6, f7, appA, hc2]
    refine NextF_of (H.length + 6) (Nat.le_refl _) hlj (by simp [f7]) ?_
    rw [hls]
    simp [f2, f3, f4, f5, f6, cut_appk hcl, encStr, T.enc_mk, hu]
  have g34 : ∀ c : Prop, True := fun _ => trivial
  by_cases h4 : k = 4 ∧ k' = 4
  case neg =>
    have hfin := hfin _ (hnn h3 fun e => h4 ⟨e.1, e.2.1⟩)
    rw [T.a_nil] at hfin
    by_cases k3 : k = 3
    · have k3' : ¬ k' = 3 := fun e => h3 ⟨k3, e⟩
      have k4 : ¬ k = 4 := by omega
      simp [k3, k3']
      simp [RetK, cut_app hcl, g3, g4]
      exact hfin
    by_cases k4 : k = 4
    · have k4' : ¬ k' = 4 := fun e => h4 ⟨k4, e⟩
      simp [k4, k4']
      simp [RetK, cut_app hcl, g3, g4]
      exact hfin
    · simp [k3, k4]
      simp [RetK, cut_app hcl, g3, g4]
      exact hfin
  obtain ⟨rfl, rfl⟩ := h4
  by_cases hl : ps.length = ps'.length
  case neg =>
    have hfin := hfin _ (hnn h3 fun e => hl e.2.2.1)
    rw [T.a_nil] at hfin
    have hl' : ¬ (ps.length : Int) = ps'.length := by omega
    simp [hl, hl']
    simp [RetK, cut_app hcl, g3, g4]
    exact hfin
  have hpne : ps ≠ [] := fun e => by
    have := (Ty.rt_iff.1 rv).2.2.2.1 rfl
    simp [e] at this
  obtain ⟨l, p, rfl⟩ : ∃ l p, ps = l ++ [p] := ⟨ps.dropLast, ps.getLast hpne, (List.dropLast_concat_getLast hpne).symm⟩
  have hpne' : ps' ≠ [] := fun e => by simp [e] at hl
  obtain ⟨l', p', rfl⟩ : ∃ l p, ps' = l ++ [p] := ⟨ps'.dropLast, ps'.getLast hpne', (List.dropLast_concat_getLast hpne').symm⟩
  have hll : l.length = l'.length := by simpa using hl
  have hb3 : l.length + 1 ≤ 1048576 := by simpa using b3
  have hw1 : IntKind.i64.wrap (l'.length : Int) = (l'.length : Int) := wrap_i64 (by omega) (by omega)
  have hlI : (l.length : Int) = l'.length := by omega
  simp [hll, hw1]
  have hstop : ∀ i : Nat, (l.map T.st).take i ≠ (l'.map T.st).take i → Q T.nil.a H := fun i hi => hfin _ (hnn h3 fun e => hi (by have := e.2.2.2; simp at this; rw [this]))
  refine ForK_of (H.length + 6) l'.length (fun i fr H' => fr 2 = .ptr H.length 0 ∧ fr 3 = .ptr (H.length + 1) 0 ∧ fr 4 = .ptr (H.length + 2) 0 ∧ fr 5 = .ptr (H.length + 5) 0 ∧ fr 8 = .d (.int .i64 l'.length) ∧ (l.map T.st).take i = (l'.map T.st).take i ∧
      H' = H ++ [.box t [.d (.int .i64 4), .d (.sl z 1 (ns.map encStr)), .d (.sl y 3 (l.map T.enc ++ [p.enc]))], .box t [.d (.int .i64 4), .d (.sl z' 1 (ns'.map encStr)), .d (.sl y' 3 (l'.map T.enc ++ [p'.enc]))],
        .box t [.d (.int .i64 0), .d (.sl true 1 []), .d (.sl true 3 [])], .tok 0 1 tS, .tok 0 3 t, .box t [.d (.int .i64 0), .osl true 1 [] (H.length + 3), .osl true 3 [] (H.length + 4)]]) (by omega) (by decide) (by simp) (by simp) ?_ ?_
  · simp [cut_appk hcl]
  rintro i fr H' hi f9 ⟨f2, f3, f4, f5, f8, he, rfl⟩
  simp [f9, f8]
  refine BrK_split (fun h => ?_) (fun h => ?_)
  · have hlt : i < l'.length := by simpa using h
    have hlt2 : i < l.length := by omega
    have hi1 : i < (l ++ [p]).length := by simp; omega
    have hi2 : i < (l' ++ [p']).length := by simp; omega
    have ra := rowAt_map T.enc hi1
    have rb := rowAt_map T.enc hi2
    have e1 : (l ++ [p])[i] = l[i] := List.getElem_append_left hlt2
    have e2 : (l' ++ [p'])[i] = l'[i] := List.getElem_append_left hlt
    rw [e1] at ra
    rw [e2] at rb
    simp only [List.map_append, List.map_cons, List.map_nil] at ra rb
    have ta := take_map_succ T.st hlt2
    have tb := take_map_succ T.st hlt
    have hx := hS l[i] (b5 _ (by simp [List.getElem_mem])) l'[i]
    have hst := hstop (i + 1)
    rw [ta, tb] at hst
    generalize l[i] = a at ra ta hx hst
    generalize l'[i] = b at rb tb hx hst
    obtain ⟨k1, z1, n1, y1, p1⟩ := a
    obtain ⟨k2, z2, n2, y2, p2⟩ := b
    simp only [T.a_mk, T.enc_mk] at hx
    rw [T.enc_mk] at ra rb
    simp [f9, f2, f3, ra, rb]
    refine CallD_of (hx _) ?_
    by_cases hE : (T.mk k1 z1 n1 y1 p1).st = (T.mk k2 z2 n2 y2 p2).st
    · simp [hE]
      refine NextF_of (H.length + 6) (Nat.le_refl _) hlt (by simp [f9]) ?_
      rw [ta, tb]
      simp [f2, f3, f4, f5, f8, cut_appk hcl, he, hE]
    · have hfin := hst (by rw [he]; simpa using hE)
      rw [T.a_nil] at hfin
      simp [hE, f4, f5]
      simp [RetK, f4, cut_app hcl, g3, g4]
      exact hfin
  have hii : i = l'.length := by have : ¬ i < l'.length := by simpa using h
                                 omega
  subst hii
  have hm : l.map T.st = l'.map T.st := by
    rw [List.take_of_length_le (by simp; omega), List.take_of_length_le (by simp)] at he
    exact he
  have hfin := hfin _ (hnf rfl rfl (by simp [hll]) (by simpa using hm))
  have hjl : T.joinL true (l ++ [p]) (l' ++ [p']) = l ++ [T.join true p p'] := T.joinL_snoc hll
  rw [hjl] at hfin
  simp
  have hx := ih p (by simp) p' (b5 p (by simp)) (c5 p' (by simp)) (rv.part (i := l.length) (p := p.st) (by simp)) (rw'.part (i := l.length) (p := p'.st) (by simp [hll]))
  have hip : l.length < (l ++ [p]).length := by simp
  have hip' : l.length < (l' ++ [p']).length := by simp; omega
  have ra := rowAt_map T.enc hip
  have rb := rowAt_map T.enc hip'
  have ea : (l ++ [p])[l.length] = p := by simp
  have eb : (l' ++ [p'])[l.length] = p' := by simp [hll]
  rw [ea] at ra
  rw [eb] at rb
  simp only [List.map_append, List.map_cons, List.map_nil] at ra rb
  rw [hlI] at ra rb
  unfold JoinT at hx
  have hel : ∀ (i : Nat) (hi : i < l.length), rowAt (l.map T.enc ++ [p.enc]) (i : Int) = some l[i].enc := fun i hi => by
    have hi1 : i < (l ++ [p]).length := by simp; omega
    have := rowAt_map T.enc hi1
    have e1 : (l ++ [p])[i] = l[i] := List.getElem_append_left hi
    rw [e1] at this
    simpa using this
  have hcc : ∀ i : Nat, i ≤ l.length → (i + 1) * 56 ≤ 140737488355328 := fun i hi => by omega
  generalize hu : T.join true p p' = u at hx hfin
  refine ForK_of (H.length + 9) l'.length (fun i fr H' => fr 2 = .ptr H.length 0 ∧ fr 3 = .ptr (H.length + 1) 0 ∧ fr 4 = .ptr (H.length + 2) 0 ∧ fr 10 = .ptr (H.length + 8) 0 ∧ fr 8 = .d (.int .i64 l'.length) ∧
      H' = H ++ [.box t [.d (.int .i64 4), .d (.sl z 1 (ns.map encStr)), .d (.sl y 3 (l.map T.enc ++ [p.enc]))], .box t [.d (.int .i64 4), .d (.sl z' 1 (ns'.map encStr)), .d (.sl y' 3 (l'.map T.enc ++ [p'.enc]))],
        .box t [.d (.int .i64 0), .d (.sl true 1 []), .d (.sl true 3 [])], .tok 0 1 tS, .tok 0 3 t, .box t [.d (.int .i64 0), .osl true 1 [] (H.length + 3), .osl true 3 [] (H.length + 4)],
        .tok 0 1 tS, .tok i 3 t, .box t [.d (.int .i64 4), .osl true 1 [] (H.length + 6), .osl true 3 ((l.map T.enc).take i) (H.length + 7)]]) (by omega) (by decide) (by simp) (by simp) ?_ ?_
  · simp [cut_appk hcl, f2, f3, f4, f8]
  rintro i fr2 H2 hi f11 ⟨f2, f3, f4, f10, f8, rfl⟩
  simp [f11, f8]
  refine BrK_split (fun h => ?_) (fun h => ?_)
  · have hlt : i < l'.length := by simpa using h
    have hlt2 : i < l.length := by omega
    have re := hel i hlt2
    have ta := take_map_succ T.enc hlt2
    have hc2 := hcc i (by omega)
    have hmin : min i l.length = i := by omega
    generalize l[i] = a at re ta
    obtain ⟨k1, z1, n1, y1, p1⟩ := a
    rw [T.enc_mk] at re ta
    simp [f11, f2, f3, f10, re, appA, hc2, hmin]
    refine NextF_of (H.length + 9) (Nat.le_refl _) hlt (by simp [f11]) ?_
    rw [ta]
    simp [f2, f3, f4, f10, f8, cut_appk hcl]
  have hii : i = l'.length := by have : ¬ i < l'.length := by simpa using h
                                 omega
  subst hii
  have htk : (l.map T.enc).take l'.length = l.map T.enc := List.take_of_length_le (by simp; omega)
  have hc2 := hcc l'.length (by omega)
  rw [htk]
  obtain ⟨k1, z1, n1, y1, p1⟩ := p
  obtain ⟨k2, z2, n2, y2, p2⟩ := p'
  obtain ⟨k3, z3, n3, y3, p3⟩ := u
  simp only [T.a_mk] at hx
  simp only [T.enc_mk] at ra rb ⊢
  simp [f2, f3, f4, f8, f10, ra, rb]
  refine CallD_of (hx _) ?_
  simp [f2, f3, f4, f8, f10, appA, hc2, hll]
  simp [RetK, cut_app hcl, f4, g6, g7]
  rw [T.a_mk] at hfin
  simpa [T.enc_mk] using hfin
end
end Go.Zam

namespace Go.Zam
set_option linter.all false
set_option maxRecDepth 100000
set_option maxHeartbeats 4000000
open Classical

def irLJoins (fi fa fj rj al tw rs t : Nat) : IFn :=
 { nt := 63, res := [.t 6], body := (
  .seq (.ops [
    ⟨(some 3), none, .box t 3 (.t 0)⟩,
    ⟨(some 4), none, .box t 3 (.t 1)⟩,
    ⟨(some 6), none, .mv (.c (.bool false))⟩] false)
  (.seq (.seq (.ops [
     ⟨(some 10), none, .load 3 true (.t 3)⟩,
     ⟨(some 11), none, .load 3 true (.t 4)⟩,
     ⟨(some 12), none, .bslice 3 [(.t 10), (.t 11)]⟩,
     ⟨(some 13), none, .call fi [(.t 12)]⟩,
     ⟨(some 14), none, .un .not (.t 13)⟩,
     ⟨(some 15), none, .mv (.t 14)⟩,
     ⟨(some 16), (some (15, false)), .mv (.t 2)⟩,
     ⟨(some 17), (some (15, false)), .lenL (.t 16)⟩,
     ⟨(some 18), (some (15, false)), .bin .gtr (.t 17) (.c (.int .i64 20))⟩,
     ⟨(some 19), none, .pick (.t 15) (.c (.bool true)) (.t 18)⟩,
     ⟨(some 20), none, .mv (.t 19)⟩,
     ⟨(some 21), (some (20, false)), .mv (.t 2)⟩,
     ⟨(some 22), (some (20, false)), .call fi [(.t 21)]⟩,
     ⟨(some 23), (some (20, false)), .un .not (.t 22)⟩,
     ⟨(some 24), none, .pick (.t 20) (.c (.bool true)) (.t 23)⟩] false)
   (.cond (.t 24) (.seq (.ops [
      ⟨(some 25), none, .call fa []⟩,
      ⟨(some 6), none, .mv (.t 25)⟩] false)
    (.ret))
   (.skip)))
  (.seq (.ops [
    ⟨(some 26), none, .build [(.int .i64 0), (.sl true 1 []), (.sl true 3 [])] []⟩,
    ⟨(some 7), none, .alloc t [(.int .i64 0), (.sl true 1 []), (.sl true 3 [])]⟩,
    ⟨none, none, .store 3 (.t 7) (.t 26)⟩] false)
  (.seq (.seq (.ops [
     ⟨(some 27), none, .mv (.t 2)⟩,
     ⟨(some 28), none, .lenL (.t 27)⟩,
     ⟨(some 29), none, .mv (.c (.int .i64 0))⟩] false)
   (.blk 0 (.loop (.seq (.ops [
       ⟨(some 30), none, .bin .lss (.t 29) (.t 28)⟩] false)
     (.seq (.cond (.t 30) (.skip)
      (.exit 0))
     (.seq (.blk 1 (.seq (.ops [
         ⟨(some 31), none, .mv (.t 29)⟩,
         ⟨(some 32), none, .iaddr 3 (.t 27) (.t 29)⟩,
         ⟨(some 33), none, .load 3 true (.t 32)⟩,
         ⟨(some 9), none, .alloc t [(.int .i64 0), (.sl true 1 []), (.sl true 3 [])]⟩,
         ⟨(some 8), none, .mv (.t 31)⟩,
         ⟨none, none, .store 3 (.t 9) (.t 33)⟩] false)
       (.seq (.seq (.ops [
          ⟨(some 34), none, .mv (.t 8)⟩,
          ⟨(some 35), none, .bin .eql (.t 34) (.c (.int .i64 0))⟩] false)
        (.cond (.t 35) (.seq (.ops [
           ⟨(some 36), none, .load 3 true (.t 9)⟩,
           ⟨none, none, .store 3 (.t 7) (.t 36)⟩] false)
         (.exit 1))
        (.skip)))
       (.ops [
        ⟨(some 37), none, .load 3 true (.t 7)⟩,
        ⟨(some 38), none, .load 3 true (.t 9)⟩,
        ⟨(some 39), none, .call rj [(.t 37), (.t 38)]⟩,
        ⟨none, none, .store 3 (.t 7) (.t 39)⟩] false))))
     (.ops [
      ⟨(some 40), none, .bin .add (.t 29) (.c (.int .i64 1))⟩,
      ⟨(some 29), none, .mv (.t 40)⟩] false)))))))
  (.seq (.ops [
    ⟨(some 41), none, .call fa []⟩,
    ⟨(some 42), none, .mv (.t 41)⟩,
    ⟨(some 43), (some (42, true)), .load 3 true (.t 3)⟩,
    ⟨(some 44), (some (42, true)), .load 3 true (.t 4)⟩,
    ⟨(some 45), (some (42, true)), .call fj [(.t 43), (.t 44)]⟩,
    ⟨(some 46), (some (42, true)), .load 3 true (.t 3)⟩,
    ⟨(some 47), (some (42, true)), .load 3 true (.t 4)⟩,
    ⟨(some 48), (some (42, true)), .call rj [(.t 46), (.t 47)]⟩,
    ⟨(some 49), (some (42, true)), .call rs [(.t 45), (.t 48)]⟩,
    ⟨(some 50), none, .pick (.t 42) (.t 49) (.c (.bool false))⟩,
    ⟨(some 51), none, .mv (.t 50)⟩,
    ⟨(some 52), (some (51, true)), .mv (.t 2)⟩,
    ⟨(some 53), (some (51, true)), .call al [(.t 52)]⟩,
    ⟨(some 54), (some (51, true)), .load 3 true (.t 7)⟩,
    ⟨(some 55), (some (51, true)), .call rs [(.t 53), (.t 54)]⟩,
    ⟨(some 56), none, .pick (.t 51) (.t 55) (.c (.bool false))⟩,
    ⟨(some 57), none, .mv (.t 56)⟩,
    ⟨(some 58), (some (57, true)), .load 3 true (.t 3)⟩,
    ⟨(some 59), (some (57, true)), .call tw [(.t 58)]⟩,
    ⟨(some 60), (some (57, true)), .load 3 true (.t 3)⟩,
    ⟨(some 61), (some (57, true)), .call rs [(.t 59), (.t 60)]⟩,
    ⟨(some 62), none, .pick (.t 57) (.t 61) (.c (.bool false))⟩,
    ⟨(some 6), none, .mv (.t 62)⟩] true)
  (.ret)))))) }

/-- what many types have in common, the first ones first -/
noncomputable def T.run (c : Bool) : List T → T
  | [] => T.nil
  | v :: r => r.foldl (T.join c) v
theorem T.run_snoc (c : Bool) (l : List T) (x : T) : T.run c (l ++ [x]) = if l = [] then x else T.join c (T.run c l) x := by
  cases l with
  | nil => rfl
  | cons v r => simp [T.run]
theorem T.foldl_st (c : Bool) : ∀ (r : List T) (v : T), (r.foldl (T.join c) v).st = (r.map T.st).foldl Ty.join v.st
  | [], v => rfl
  | x :: r, v => by simp only [List.foldl_cons, List.map_cons]; rw [T.foldl_st c r, T.join_st]
theorem T.run_st (c c' : Bool) (l : List T) : (T.run c l).st = (T.run c' l).st := by
  cases l with
  | nil => rfl
  | cons v r => rw [T.run, T.run, T.foldl_st, T.foldl_st]
theorem T.foldl_ok (c : Bool) : ∀ (r : List T) (v : T), (v.Fit 1048576 ∧ v.st.Rt) → (∀ x ∈ r, x.Fit 1048576 ∧ x.st.Rt) → (r.foldl (T.join c) v).Fit 1048576 ∧ (r.foldl (T.join c) v).st.Rt
  | [], v, h, _ => h
  | x :: r, v, h, hr => by
    obtain ⟨h1, h2⟩ := hr x (by simp)
    exact T.foldl_ok c r (T.join c v x) ⟨T.join_fit c v x h.1 h1, by rw [T.join_st]; exact (Ty.join_ok _ _ h.2 h2).1⟩ fun y hy => hr y (by simp [hy])
theorem T.run_ok (c : Bool) (l : List T) (h : ∀ x ∈ l, x.Fit 1048576 ∧ x.st.Rt) : (T.run c l).Fit 1048576 ∧ (T.run c l).st.Rt := by
  cases l with
  | nil => exact ⟨T.nil_fit _, by rw [T.run, show T.nil.st = .mk 0 [] [] from T.st_mk ..]; exact Ty.rt0⟩
  | cons v r => exact T.foldl_ok c r v (h v (by simp)) fun y hy => h y (by simp [hy])
theorem T.twin_fit {v : T} (h : v.Fit 1048576) : v.twin.Fit 1048576 := by
  induction v using T.ind with
  | h k z ns y ps ih =>
  rw [T.twin_mk]
  cases h with | mk _ _ _ _ _ b2 b3 b4 b5 =>
  refine .mk _ _ _ _ _ b2 (by simpa using b3) b4 fun p hp => ?_
  obtain ⟨q, hq, rfl⟩ := List.mem_map.1 hp
  exact ih q hq (b5 q hq)

section
variable {P : Program} {t : Nat} {H0 : Hp}

/-- relate.All -/
theorem Has.tyAll {f fj : FuncId} (h : Has P f (irTyAll fj t))
    (hJ : ∀ v w : T, v.Fit 1048576 → w.Fit 1048576 → v.st.Rt → w.st.Rt → JoinT P fj false v w) (l : List T) (z : Bool) (hl : l.length ≤ 1048576) (hO : ∀ x ∈ l, x.Fit 1048576 ∧ x.st.Rt) (H : Hp) :
    ACall P f [.d (.sl z 3 (l.map T.enc))] H (fun r H' => r = (T.run false l).a ∧ H' = H) := by
  obtain ⟨fn, hf, hcf⟩ := h
  refine acall_fin hf hcf (by simp [irTyAll]) fun hcl _ => ?_
  cases l with
  | nil =>
    simp [irTyAll, T.run, T.a_nil]
    simp [RetK, cut_app hcl]
  | cons v r =>
  obtain ⟨Q, hQ⟩ : ∃ Q : A → Hp → Prop, Q = fun x H' => x = (T.run false (v :: r)).a ∧ H' = H := ⟨_, rfl⟩
  rw [← hQ]
  have hfin : Q ((r.foldl (T.join false) v).a) H := by subst hQ; exact ⟨rfl, rfl⟩
  clear hQ
  have hv := hO v (by simp)
  have hl' : r.length + 1 ≤ 1048576 := by simpa using hl
  have hr0 : Zam.rowAt (v.enc :: r.map T.enc) 0 = some v.enc := rfl
  have hz : (z && (v.enc :: r.map T.enc).isEmpty) = false := by cases z <;> simp
  have hs1 : subL (v.enc :: r.map T.enc) 1 ((r.length : Int) + 1) = some (r.map T.enc) := by
    rw [subL_ok (by simp; omega)]
    simp
    rw [List.take_of_length_le (by simp)]
  have h10 : ¬ ((r.length : Int) + 1 = 0) := by omega
  rw [List.map_cons]
  have hrun : ∀ i : Nat, ((r.take i).foldl (T.join false) v).Fit 1048576 ∧ ((r.take i).foldl (T.join false) v).st.Rt := fun i => T.foldl_ok false _ v hv fun x hx => hO x (by simp [List.mem_of_mem_take hx])
  have hsn : ∀ (i : Nat) (hi : i < r.length), (r.take (i + 1)).foldl (T.join false) v = T.join false ((r.take i).foldl (T.join false) v) r[i] := fun i hi => by
    rw [List.take_succ_eq_append_getElem hi, List.foldl_append]; rfl
  obtain ⟨k, zz, ns, y, ps⟩ := v
  rw [T.enc_mk] at hr0 hz hs1 ⊢
  simp [irTyAll, hr0, hz, hs1, h10]
  refine RangeK_of (H.length + 2) r.length (fun i fr H' => fr 2 = .ptr H.length 0 ∧ fr 3 = .ptr (H.length + 1) 0 ∧ fr 14 = .d (.sl false 3 (r.map T.enc)) ∧
    H' = H ++ [.box t [.d (.int .i64 0), .d (.sl true 1 []), .d (.sl true 3 [])], .box t (((r.take i).foldl (T.join false) (.mk k zz ns y ps)).enc.map .d)]) (by omega) (by decide) (by simp) (by simp) ?_ ?_ ?_
  · simp [cut_appk hcl, T.enc_mk]
  · rintro i fr H' hi f16 f15 ⟨f2, f3, f14, rfl⟩
    have ra := rowAt_map T.enc hi
    have hr1 := hrun i
    have hs := hsn i hi
    have hx := hJ _ r[i] hr1.1 (hO r[i] (by simp [List.getElem_mem])).1 hr1.2 (hO r[i] (by simp [List.getElem_mem])).2
    unfold JoinT at hx
    rw [← hs] at hx
    generalize hsu : (r.take (i + 1)).foldl (T.join false) (.mk k zz ns y ps) = u' at *
    generalize (r.take i).foldl (T.join false) (.mk k zz ns y ps) = u at *
    generalize r[i] = q at *
    obtain ⟨k1, z1, n1, y1, p1⟩ := q
    obtain ⟨k2, z2, n2, y2, p2⟩ := u
    obtain ⟨k3, z3, n3, y3, p3⟩ := u'
    simp only [T.a_mk] at hx
    rw [T.enc_mk] at ra
    simp [f16, f14, f3, ra, T.enc_mk]
    refine CallK_of' (hx _) ?_
    simp [f3]
    refine NextK_of (H.length + 2) (Nat.le_refl _) (by simp [f16, f15]) ?_
    rw [hsu, T.enc_mk]
    simp [f2, f3, f14, cut_appk hcl]
  · rintro fr H' f16 f15 ⟨f2, f3, f14, rfl⟩
    rw [List.take_of_length_le (Nat.le_refl _)]
    generalize r.foldl (T.join false) (.mk k zz ns y ps) = u at *
    obtain ⟨k2, z2, n2, y2, p2⟩ := u
    rw [T.a_mk] at hfin
    rw [T.enc_mk]
    simp [f2, f3]
    simp [RetK, cut_app hcl, f2]
    exact hfin

/-- whetstonelaw10.RelateJoins -/
theorem Has.lJoins {f fi fa fj rj al tw rs : FuncId} (h : Has P f (irLJoins fi fa fj rj al tw rs t)) (hI : FitsT P fi) (hA : AwakeT P H0 fa)
    (hJ : ∀ v w : T, v.Fit 1048576 → w.Fit 1048576 → v.st.Rt → w.st.Rt → JoinT P fj false v w)
    (hK : ∀ v w : T, v.Fit 1048576 → w.Fit 1048576 → v.st.Rt → w.st.Rt → JoinT P rj true v w)
    (hL : ∀ (l : List T) (z : Bool), l.length ≤ 1048576 → (∀ x ∈ l, x.Fit 1048576 ∧ x.st.Rt) → ∀ H, ACall P al [.d (.sl z 3 (l.map T.enc))] H (fun r H' => r = (T.run false l).a ∧ H' = H))
    (hW : ∀ v : T, v.Fit 1048576 → ∀ H, ACall P tw [v.a] H (fun r H' => r = v.twin.a ∧ H' = H))
    (hS : ∀ v : T, v.Fit 1048576 → SameT P rs v) (v w : T) (l : List T) (lz : Bool) (hv : v.Fit 1048576) (hw : w.Fit 1048576) (hl : l.length ≤ 1048576) (hlf : ∀ x ∈ l, x.Fit 1048576) (H : Hp) (hH : Pre0 H0 H) :
    ACall P f [v.a, w.a, .d (.sl lz 3 (l.map T.enc))] H (fun r H' => r = .d (.bool true) ∧ H' = H) := by
  obtain ⟨fn, hf, hcf⟩ := h
  refine acall_fin hf hcf (by simp [irLJoins]) fun hcl _ => ?_
  have i1 := fun H => hI [v, w] (by simp) (by simpa using ⟨hv, hw⟩) false H
  have i2 := fun H => hI l hl hlf lz H
  have x1 := hJ v w hv hw
  have x2 := hK v w hv hw
  have x3 := hS _ (T.join_fit false v w hv hw) (T.join true v w)
  have x4 := hW v hv
  have x5 := hS _ (T.twin_fit hv) v
  have e3 : (T.join false v w).st = (T.join true v w).st := by rw [T.join_st, T.join_st]
  have e5 : v.twin.st = v.st := T.twin_st v
  simp only [e3, e5, decide_true] at x3 x5
  clear e3 e5
  have hc : ∀ c : Bool, (c = true → ∀ x ∈ [v, w], x.st.Rt) → c = true → v.st.Rt ∧ w.st.Rt := fun c h e => ⟨h e v (by simp), h e w (by simp)⟩
  unfold JoinT at x1 x2
  generalize T.join false v w = u1 at *
  generalize T.join true v w = u2 at *
  generalize v.twin = u3 at *
  generalize hv1 : v.st = V at *
  generalize hw1 : w.st = W at *
  obtain ⟨k, z, ns, y, ps⟩ := v
  obtain ⟨k', z', ns', y', ps'⟩ := w
  obtain ⟨k1, z1, n1, y1, p1⟩ := u1
  obtain ⟨k2, z2, n2, y2, p2⟩ := u2
  obtain ⟨k3, z3, n3, y3, p3⟩ := u3
  simp only [T.a_mk, T.enc_mk, List.map_cons, List.map_nil] at i1 x1 x2 x3 x4 x5 ⊢
  simp [irLJoins]
  refine CallK_of (i1 _) ?_
  rintro r H2 ⟨⟨c, rfl, hcc⟩, rfl⟩
  have hcc := hc c hcc
  cases c
  · simp
    refine CallK_of' (hA _ ((hH.app _))) ?_
    simp
    simp [RetK, cut_appk hcl, cut_app hcl]
  obtain ⟨rv, rw_⟩ := hcc rfl
  by_cases h20 : (20 : Int) < l.length
  · simp [h20]
    refine CallK_of' (hA _ ((hH.app _))) ?_
    simp
    simp [RetK, cut_appk hcl, cut_app hcl]
  simp [h20]
  refine CallK_of (i2 _) ?_
  rintro r H2 ⟨⟨c, rfl, hcc⟩, rfl⟩
  cases c
  · simp
    refine CallK_of' (hA _ ((hH.app _))) ?_
    simp
    simp [RetK, cut_appk hcl, cut_app hcl]
  have hO : ∀ x ∈ l, x.Fit 1048576 ∧ x.st.Rt := fun x hx => ⟨hlf x hx, hcc rfl x hx⟩
  simp
  refine RangeK_of (H.length + 3) l.length (fun i fr H' => fr 2 = .d (.sl lz 3 (l.map T.enc)) ∧ fr 3 = .ptr H.length 0 ∧ fr 4 = .ptr (H.length + 1) 0 ∧ fr 7 = .ptr (H.length + 2) 0 ∧ fr 27 = .d (.sl lz 3 (l.map T.enc)) ∧
    H' = H ++ [.box t [.d (.int .i64 k), .d (.sl z 1 (ns.map encStr)), .d (.sl y 3 (ps.map T.enc))], .box t [.d (.int .i64 k'), .d (.sl z' 1 (ns'.map encStr)), .d (.sl y' 3 (ps'.map T.enc))], .box t ((T.run true (l.take i)).enc.map .d)]) (by omega) (by decide) (by simp) (by simp) ?_ ?_ ?_
  · simp [cut_appk hcl, T.run, T.nil, T.enc_mk]
  · rintro i fr H' hi f29 f28 ⟨f2, f3, f4, f7, f27, rfl⟩
    have ra := rowAt_map T.enc hi
    have hr1 := T.run_ok true (l.take i) fun x hx => hO x (List.mem_of_mem_take hx)
    have hs : T.run true (l.take (i + 1)) = if l.take i = [] then l[i] else T.join true (T.run true (l.take i)) l[i] := by
      rw [List.take_succ_eq_append_getElem hi, T.run_snoc]
    have hx := hK _ l[i] hr1.1 (hO l[i] (by simp [List.getElem_mem])).1 hr1.2 (hO l[i] (by simp [List.getElem_mem])).2
    have hnil : l.take i = [] ↔ i = 0 := by
      rw [List.take_eq_nil_iff]
      constructor
      · rintro (h | h)
        · exact h
        · subst h; simp at hi
      · exact .inl
    simp only [hnil] at hs
    unfold JoinT at hx
    generalize T.run true (l.take i) = u at *
    generalize l[i] = q at *
    by_cases i0 : i = 0
    · simp only [i0, if_true] at hs
      obtain ⟨k4, z4, n4, y4, p4⟩ := q
      obtain ⟨k5, z5, n5, y5, p5⟩ := u
      rw [T.enc_mk] at ra
      have ra0 : Zam.rowAt (l.map T.enc) 0 = some [D.int IntKind.i64 k4, D.sl z4 1 (n4.map encStr), D.sl y4 3 (p4.map T.enc)] := by simpa [i0] using ra
      simp [f29, f27, ra0, f7, i0, T.enc_mk]
      refine NextK_of (H.length + 3) (Nat.le_refl _) (by simp [f29, f28, i0]) ?_
      rw [hs]
      simp [f2, f3, f4, f7, f27, cut_appk hcl, T.enc_mk]
    · simp only [i0, if_false] at hs
      generalize T.join true u q = u' at hx hs
      obtain ⟨k4, z4, n4, y4, p4⟩ := q
      obtain ⟨k5, z5, n5, y5, p5⟩ := u
      obtain ⟨k6, z6, n6, y6, p6⟩ := u'
      simp only [T.a_mk] at hx
      rw [T.enc_mk] at ra
      simp [f29, f27, ra, f7, i0, T.enc_mk]
      refine CallK_of' (hx _) ?_
      simp [f7]
      refine NextK_of (H.length + 3) (Nat.le_refl _) (by simp [f29, f28]) ?_
      rw [hs]
      simp [f2, f3, f4, f7, f27, cut_appk hcl, T.enc_mk]
  · rintro fr H' f29 f28 ⟨f2, f3, f4, f7, f27, rfl⟩
    rw [List.take_of_length_le (Nat.le_refl _)]
    have x6 := hL l lz hl hO
    have x7 := hS _ (T.run_ok false l hO).1 (T.run true l)
    rw [T.run_st false true l] at x7
    simp only [decide_true] at x7
    generalize T.run false l = u at *
    generalize T.run true l = u' at *
    obtain ⟨k5, z5, n5, y5, p5⟩ := u
    obtain ⟨k6, z6, n6, y6, p6⟩ := u'
    simp only [T.a_mk] at x6 x7
    rw [T.enc_mk]
    simp
    refine CallD_of (hA _ ((hH.app _))) ?_
    simp [f2, f3, f4, f7]
    refine CallD_of (x1 rv rw_ _) ?_
    simp [f2, f3, f4, f7]
    refine CallD_of (x2 rv rw_ _) ?_
    simp [f2, f3, f4, f7]
    refine CallD_of (x3 _) ?_
    simp [f2, f3, f4, f7]
    refine CallD_of (x6 _) ?_
    simp [f2, f3, f4, f7]
    refine CallD_of (x7 _) ?_
    simp [f2, f3, f4, f7]
    refine CallD_of (x4 _) ?_
    simp [f2, f3, f4, f7]
    refine CallD_of (x5 _) ?_
    simp [f2, f3, f4, f7]
    simp [RetK, cut_appk hcl, cut_app hcl]
end
end Go.Zam
