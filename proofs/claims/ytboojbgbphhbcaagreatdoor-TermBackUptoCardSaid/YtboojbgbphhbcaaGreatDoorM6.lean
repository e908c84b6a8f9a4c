/-
  Texts of one proof, one behind the other: An abstract machine over the model, hundred and fourteenth part: types made out of others: functions, twins; how deep one is, over any program that asks. The lengths are bounded. An abstract machine over the model, fifty-fifth part: plain facts on texts that are UTF-8. No program in sight. No condition. An abstract machine over the model, fifty-sixth part: plain facts on a text's tokens. No program in sight. No condition. An abstract machine over the model, seventy-ninth part: the tree of a text, over any program that has the functions. The lengths are bounded. An abstract machine over the model, ninety-ninth part: parse.Type: what it answers at any text. No program in sight. The lengths are bounded. An abstract machine over the model, hundred and fifteenth part: term.Of, term.Parse, over any program that has their functions. The lengths are bounded. An abstract machine over the model, hundred and sixteenth part: types that trees tell: how great they are; the statements' examples. No program in sight. An abstract machine over the model, hundred and seventh part: when a type goes where another one is wanted, over any program that asks. The lengths are bounded. An abstract machine over the model, hundred and eighth part: the document's answer on when a type goes where another one is wanted, over any program that asks. The lengths are bounded. An abstract machine over the model, hundred and ninth part: whether a type may be, the document's answer, over any program that asks. The lengths are bounded. An abstract machine over the model, hundred and seventeenth part: whether a type is without any, the document's answer; the guards of the tenth chapter's laws, over any program that asks. The lengths are bounded. An abstract machine over the model, hundred and eighteenth part: the tenth chapter's sentinel, and its laws on going, over any program that asks. The lengths are bounded. An abstract machine over the model, hundred and nineteenth part: the tenth chapter's first laws, over any program that asks. The lengths are bounded. An abstract machine over the model, hundred and twentieth part: what two types have in common, as the program holds it. Plain Lean. No program in sight. An abstract machine over the model, hundred and twenty-fifth part: texts joined by the library. No program in sight. The lengths are bounded. An abstract machine over the model, hundred and twenty-sixth part: a type's text. Plain Lean. No program in sight. An abstract machine over the model, fifty-seventh part: plain facts on tokens of texts put together. No program in sight. No condition. An abstract machine over the model, fifty-eighth part: tokens up to one of them, tokens of one text behind another one. No program in sight. No condition. An abstract machine over the model, hundred and thirty-ninth part: the tokens of a type's text. Plain Lean. No program in sight. An abstract machine over the model, hundred and fortieth part: the tokens of a type's text, all of them. Plain Lean. No program in sight. An abstract machine over the model, eighty-first part: trees as lines, trees that are the same, over any program that has the functions. The lengths are bounded. An abstract machine over the model, eighty-second part: how trees of parts stand to the tree of the whole, in plain Lean. No program in sight. No condition. An abstract machine over the model, hundred and forty-first part: rows of what tokens tell, a comma between, out of their tokens. Plain Lean. No program in sight. An abstract machine over the model, hundred and twenty-ninth part: what a record has at its labels, how deep it is. Plain Lean. No program in sight. An abstract machine over the model, hundred and forty-second part: a type out of the tokens of its text. Plain Lean. No program in sight. An abstract machine over the model, hundred and forty-third part: a type's text is the text of that type. Plain Lean. No program in sight. An abstract machine over the model, hundred and forty-fourth part: what tokens that are read as rows come to. Plain Lean. No program in sight. An abstract machine over the model, hundred and forty-fifth part: a type that was parsed may be, and is no longer than its tokens. Plain Lean. No program in sight. An abstract machine over the model, hundred and forty-sixth part: what was parsed as a type may be. Plain Lean. No program in sight. An abstract machine over the model, seventy-fifth part: the form of the functions of the document's answers for the layers of runes, tokens, trees, over any program that has them. (Printed by gen.py.) An abstract machine over the model, ninety-first part: the document's parser: where things end; its small functions, over any program that has them. The lengths are bounded. An abstract machine over the model, hundred and twenty-seventh part: a type's text, over any program that asks. The lengths are bounded. An abstract machine over the model, hundred and thirty-third part: a type's text, the document's answer, over any program that asks. The lengths are bounded. An abstract machine over the model, hundred and forty-seventh part: how many tokens a type's text has; what a parsed type is. Plain Lean. No program in sight. An abstract machine over the model, hundred and thirty-fourth part: whether a type may be, the program's answer, over any program that asks. The lengths are bounded.
-/
import Derived.Test.YtboojbgbphhbcaaGreatDoorM5
import Derived.Test.YtboojbgbphhbcaaGreatDoorM4
import Derived.KernelRfl
import Derived.Test.YtboojbgbphhbcaaGreatDoorM3
import Derived.Shelf.Strings.OnBuilder
namespace Go.Zam
set_option linter.all false
set_option maxRecDepth 100000
set_option maxHeartbeats 2000000
open Classical

/-- a function's type -/
def T.fn (v : T) (z : Bool) (ps : List T) : T := .mk 4 true [] (z && ps.isEmpty) (ps ++ [v])
mutual
/-- a type in new memory -/
def T.twin : T → T
  | .mk k z ns _ ps => .mk k (z && ns.isEmpty) ns true (T.twins ps)
def T.twins : List T → List T
  | [] => []
  | p :: r => T.twin p :: T.twins r
end
theorem T.twins_map : ∀ l : List T, T.twins l = l.map T.twin
  | [] => rfl
  | p :: r => by rw [T.twins, T.twins_map r]; rfl
theorem T.twin_mk (k : Int) (z : Bool) (ns : List Str') (y : Bool) (ps : List T) : T.twin (.mk k z ns y ps) = .mk k (z && ns.isEmpty) ns true (ps.map T.twin) := by rw [T.twin, T.twins_map]
theorem T.deps_take_succ {ps : List T} {i : Nat} (h : i < ps.length) : T.deps (ps.take (i + 1)) = max (T.deps (ps.take i)) ps[i].dep := by
  rw [List.take_succ_eq_append_getElem h, T.deps_snoc]

section
variable {P : Program}

theorem Has.tyTwin {f fc : FuncId} {t fo : TypeId} (h : HasT P [11] f (irTyTwin fc f t)) (hc : HasT P [1000005] fc (irCloneM 1 16 fo)) (v : T) : v.Fit 1048576 → ∀ H, ACall P f [v.a] H (fun r H' => r = v.twin.a ∧ H' = H) := by
  induction v using T.ind with
  | h k z ns y ps ih =>
  rintro (⟨_, _, _, _, _, b2, b3, b4, b5⟩) H
  have h0 := h
  obtain ⟨fn, hf, hcf⟩ := h
  obtain ⟨fnc, hcf1, hcf2⟩ := hc
  have hc' := fun H' => cloneD_acall (H := H') (z := z) hcf1 hcf2 (rows := ns.map encStr) (by simp; omega)
  simp only [List.isEmpty_map] at hc'
  refine acall_fin hf hcf (by simp [irTyTwin]) fun hcl _ => ?_
  rw [T.a_mk, T.twin_mk, T.a_mk]
  simp only [irTyTwin]
  refine Seq_out (fun fr H' => fr 1 = .ptr H.length 0 ∧ fr 2 = .ptr (H.length + 1) 0 ∧ H' = H ++ [.box t [.d (.int .i64 k), .d (.sl z 1 (ns.map encStr)), .d (.sl y 3 (ps.map T.enc))], .box t [.d (.int .i64 0), .d (.sl true 1 []), .d (.sl true 3 [])]]) (fun _ _ => False) (by simp) (fun _ _ h => h.elim) ?_
  rintro fr H' ⟨f1, f2, rfl⟩
  refine Seq_out (fun fr H' => fr 1 = .ptr H.length 0 ∧ fr 2 = .ptr (H.length + 1) 0 ∧
    ((fr 3 = .ptr (H.length + 3) 0 ∧ H' = H ++ [.box t [.d (.int .i64 k), .d (.sl z 1 (ns.map encStr)), .d (.sl y 3 (ps.map T.enc))], .box t [.d (.int .i64 0), .d (.sl true 1 []), .d (.sl true 3 [])],
        .tok 0 3 t, .box t [.d (.int .i64 k), .d (.sl (z && ns.isEmpty) 1 (ns.map encStr)), .osl true 3 [] (H.length + 2)]]) ∨
     (fr 3 = .ptr (H.length + 2) 0 ∧ H' = H ++ [.box t [.d (.int .i64 k), .d (.sl z 1 (ns.map encStr)), .d (.sl y 3 (ps.map T.enc))], .box t [.d (.int .i64 0), .d (.sl true 1 []), .d (.sl true 3 [])],
        .box t [.d (.int .i64 k), .d (.sl (z && ns.isEmpty) 1 (ns.map encStr)), .osl true 3 [] (H.length + 3)], .tok 0 3 t]))) (fun _ _ => False) ?_ (fun _ _ h => h.elim) ?_
  · simp [f1]
    repeat' apply And.intro
    all_goals
      refine CallK_of' (hc' _) ?_
      simp [f1, f2]
  rintro fr H' ⟨f1, f2, hor⟩
  rcases hor with ⟨f3, rfl⟩ | ⟨f3, rfl⟩
  · simp [f1]
    refine RangeK_of (H.length + 4) ps.length (fun i fr H' => fr 2 = .ptr (H.length + 1) 0 ∧ fr 3 = .ptr (H.length + 3) 0 ∧ fr 13 = .d (.sl y 3 (ps.map T.enc)) ∧ H' = H ++ [.box t [.d (.int .i64 k), .d (.sl z 1 (ns.map encStr)), .d (.sl y 3 (ps.map T.enc))], .box t [.d (.int .i64 0), .d (.sl true 1 []), .d (.sl true 3 [])],
        .tok i 3 t, .box t [.d (.int .i64 k), .d (.sl (z && ns.isEmpty) 1 (ns.map encStr)), .osl true 3 ((ps.map (T.enc ∘ T.twin)).take i) (H.length + 2)]]) (by omega) (by decide) (by simp) (by simp) ?_ ?_ ?_
    · simp [f2, f3, cut_appk hcl]
    · rintro i fr H' hi f15 f14 ⟨f2, f3, f13, rfl⟩
      have hr := rowAt_map T.enc hi
      have hx := ih ps[i] (List.getElem_mem hi) (b5 _ (List.getElem_mem hi))
      have ht := take_map_succ (T.enc ∘ T.twin) hi
      generalize ps[i] = p at hr hx ht
      obtain ⟨k', z', ns', y', ps'⟩ := p
      simp only [T.enc_mk, T.a_mk, T.twin_mk, Function.comp_apply] at hr hx ht
      have hm : min i ps.length = i := by omega
      have hcap : (i + 1) * 56 ≤ 140737488355328 := by omega
      simp [f15, f13, hr, f3]
      refine CallD_of (hx _) ?_
      simp [f3, appA, hm, hcap, f15]
      refine NextK_of (H.length + 4) (Nat.le_refl _) (by simp [f15, f14]) ?_
      simp [f2, f3, f13, cut_appk hcl, ht]
    · rintro fr H' f15 f14 ⟨f2, f3, f13, rfl⟩
      have hfull : (ps.map (T.enc ∘ T.twin)).take ps.length = ps.map (T.enc ∘ T.twin) := List.take_of_length_le (by simp)
      simp [f2, f3, hfull]
      simp [RetK, cut_app hcl, f2]
  · simp [f1]
    refine RangeK_of (H.length + 4) ps.length (fun i fr H' => fr 2 = .ptr (H.length + 1) 0 ∧ fr 3 = .ptr (H.length + 2) 0 ∧ fr 13 = .d (.sl y 3 (ps.map T.enc)) ∧ H' = H ++ [.box t [.d (.int .i64 k), .d (.sl z 1 (ns.map encStr)), .d (.sl y 3 (ps.map T.enc))], .box t [.d (.int .i64 0), .d (.sl true 1 []), .d (.sl true 3 [])],
        .box t [.d (.int .i64 k), .d (.sl (z && ns.isEmpty) 1 (ns.map encStr)), .osl true 3 ((ps.map (T.enc ∘ T.twin)).take i) (H.length + 3)], .tok i 3 t]) (by omega) (by decide) (by simp) (by simp) ?_ ?_ ?_
    · simp [f2, f3, cut_appk hcl]
    · rintro i fr H' hi f15 f14 ⟨f2, f3, f13, rfl⟩
      have hr := rowAt_map T.enc hi
      have hx := ih ps[i] (List.getElem_mem hi) (b5 _ (List.getElem_mem hi))
      have ht := take_map_succ (T.enc ∘ T.twin) hi
      generalize ps[i] = p at hr hx ht
      obtain ⟨k', z', ns', y', ps'⟩ := p
      simp only [T.enc_mk, T.a_mk, T.twin_mk, Function.comp_apply] at hr hx ht
      have hm : min i ps.length = i := by omega
      have hcap : (i + 1) * 56 ≤ 140737488355328 := by omega
      simp [f15, f13, hr, f3]
      refine CallD_of (hx _) ?_
      simp [f3, appA, hm, hcap, f15]
      refine NextK_of (H.length + 4) (Nat.le_refl _) (by simp [f15, f14]) ?_
      simp [f2, f3, f13, cut_appk hcl, ht]
    · rintro fr H' f15 f14 ⟨f2, f3, f13, rfl⟩
      have hfull : (ps.map (T.enc ∘ T.twin)).take ps.length = ps.map (T.enc ∘ T.twin) := List.take_of_length_le (by simp)
      simp [f2, f3, hfull]
      simp [RetK, cut_app hcl, f2]

theorem Has.tyDepth {f : FuncId} {t : TypeId} (h : Has P f (irTyDepth f t)) (v : T) : v.Fit 1048576 → v.dep ≤ 1125899906842624 → ∀ H, ACall P f [v.a] H (fun r H' => r = .d (.int .i64 (v.dep : Int)) ∧ H' = H) := by
  induction v using T.ind with
  | h k z ns y ps ih =>
  rintro (⟨_, _, _, _, _, b2, b3, b4, b5⟩) hd H
  have h0 := h
  obtain ⟨fn, hf, hcf⟩ := h
  refine acall_fin hf hcf (by simp [irTyDepth]) fun hcl _ => ?_
  rw [T.a_mk, T.dep_mk]
  rw [T.dep_mk] at hd
  have hdp : ∀ p ∈ ps, p.dep ≤ T.deps ps := T.deps_le.1 (Nat.le_refl _)
  simp [irTyDepth]
  refine RangeK_of (H.length + 1) ps.length (fun i fr H' => fr 3 = .d (.int .i64 (T.deps (ps.take i) : Int)) ∧ fr 7 = .d (.sl y 3 (ps.map T.enc)) ∧ H' = H ++ [.box t [.d (.int .i64 k), .d (.sl z 1 (ns.map encStr)), .d (.sl y 3 (ps.map T.enc))]]) (by omega) (by decide) (by simp) (by simp) ?_ ?_ ?_
  · simp [T.deps, cut_appk hcl]
  · rintro i fr H' hi f9 f8 ⟨f3, f7, rfl⟩
    have hr := rowAt_map T.enc hi
    have hmem := List.getElem_mem hi
    have hx := ih ps[i] hmem (b5 _ hmem) (by have := hdp _ hmem; omega)
    have ht := T.deps_take_succ hi
    generalize ps[i] = p at hr hx ht
    obtain ⟨k', z', ns', y', ps'⟩ := p
    generalize hdd : (T.mk k' z' ns' y' ps').dep = dd at hx ht
    simp only [T.enc_mk, T.a_mk] at hr hx
    simp [f9, f7, hr, f3]
    refine CallK_of' (hx _) ?_
    simp
    refine NextK_of (H.length + 1) (Nat.le_refl _) (by simp [f9, f8]) ?_
    simp [f7, cut_appk hcl, ht]
    omega
  · rintro fr H' f9 f8 ⟨f3, f7, rfl⟩
    rw [List.take_of_length_le (Nat.le_refl _)] at f3
    have hw : IntKind.i64.wrap ((T.deps ps : Int) + 1) = (T.deps ps : Int) + 1 := wrap_i64 (by omega) (by omega)
    simp [f3, hw]
    simp [RetK, cut_app hcl]

end
end Go.Zam

namespace Go.Zam
set_option linter.all false
set_option maxRecDepth 100000
set_option maxHeartbeats 2000000

inductive Utf : Bs → Prop
  | nil : Utf []
  | step {s : Bs} (h : s ≠ []) (hd : decU s ≠ (65533, 1)) (hr : Utf (s.drop (decU s).2)) : Utf s

theorem badF_ge : ∀ (f : Nat) (s : Bs) (n : Nat), badF f s n = -1 ∨ 0 ≤ badF f s n
  | 0, _, _ => .inl rfl
  | f + 1, s, n => by
    rw [badF]
    split
    · exact .inl rfl
    · split
      · exact .inr (by omega)
      · exact badF_ge f _ _

theorem badF_utf : ∀ (f : Nat) (s : Bs) (n : Nat), s.length ≤ f → (badF f s n = -1 ↔ Utf s)
  | 0, s, n, h => by
    have : s = [] := List.eq_nil_of_length_eq_zero (by omega)
    subst this
    exact ⟨fun _ => .nil, fun _ => rfl⟩
  | f + 1, s, n, h => by
    rw [badF]
    by_cases hs : s = []
    · rw [if_pos hs]; subst hs; exact ⟨fun _ => .nil, fun _ => rfl⟩
    rw [if_neg hs]
    by_cases hd : decU s = (65533, 1)
    · rw [if_pos hd]
      constructor
      · intro e; omega
      · intro hu
        cases hu with
        | nil => exact absurd rfl hs
        | step _ h2 _ => exact absurd hd h2
    · rw [if_neg hd]
      have hl := decU_len hs
      rw [badF_utf f _ _ (by simp; omega)]
      constructor
      · exact fun h => .step hs hd h
      · intro hu
        cases hu with
        | nil => exact absurd rfl hs
        | step _ _ h3 => exact h3

theorem badS_utf (s : Bs) : ¬ 0 ≤ badS s ↔ Utf s := by
  rw [← badF_utf s.length s 0 (Nat.le_refl _)]
  have := badF_ge s.length s 0
  unfold badS
  omega

theorem decodeN_w (n b0 b1 b2 b3 : Nat) (hn : 1 ≤ n) : Lib.decodeN n b0 b1 b2 b3 = (65533, 1) ∨ ((Lib.decodeN n b0 b1 b2 b3).2 = 1 ∧ b0 < 128) ∨ ((Lib.decodeN n b0 b1 b2 b3).2 = 2 ∧ 2 ≤ n ∧ 128 ≤ b0 ∧ 128 ≤ b1) ∨ ((Lib.decodeN n b0 b1 b2 b3).2 = 3 ∧ 3 ≤ n ∧ 128 ≤ b0 ∧ 128 ≤ b1 ∧ 128 ≤ b2) ∨ ((Lib.decodeN n b0 b1 b2 b3).2 = 4 ∧ 4 ≤ n ∧ 128 ≤ b0 ∧ 128 ≤ b1 ∧ 128 ≤ b2 ∧ 128 ≤ b3) := by
  unfold Lib.decodeN
  (repeat' split) <;> simp <;> omega

theorem decodeN_1 (n n' b0 b1 b2 b3 c1 c2 c3 : Nat) (h : b0 < 128) : Lib.decodeN n' b0 c1 c2 c3 = Lib.decodeN n b0 b1 b2 b3 := by simp [Lib.decodeN, h]
theorem decodeN_2 (n n' b0 b1 b2 b3 c2 c3 : Nat) (hn : 2 ≤ n) (hn' : 2 ≤ n') (h : (Lib.decodeN n b0 b1 b2 b3).2 = 2) : Lib.decodeN n' b0 b1 c2 c3 = Lib.decodeN n b0 b1 b2 b3 := by
  unfold Lib.decodeN at *
  (repeat' split at h) <;> simp only at h <;> try omega
  all_goals (repeat' split) <;> first | rfl | (exfalso; omega)
theorem decodeN_3 (n n' b0 b1 b2 b3 c3 : Nat) (hn : 3 ≤ n) (hn' : 3 ≤ n') (h : (Lib.decodeN n b0 b1 b2 b3).2 = 3) : Lib.decodeN n' b0 b1 b2 c3 = Lib.decodeN n b0 b1 b2 b3 := by
  unfold Lib.decodeN at *
  (repeat' split at h) <;> simp only at h <;> try omega
  all_goals (repeat' split) <;> first | rfl | (exfalso; omega)
theorem decodeN_4 (n n' b0 b1 b2 b3 : Nat) (hn : 4 ≤ n) (hn' : 4 ≤ n') (h : (Lib.decodeN n b0 b1 b2 b3).2 = 4) : Lib.decodeN n' b0 b1 b2 b3 = Lib.decodeN n b0 b1 b2 b3 := by
  unfold Lib.decodeN at *
  (repeat' split at h) <;> simp only at h <;> try omega
  all_goals (repeat' split) <;> first | rfl | (exfalso; omega)

theorem getD_take_app (s r : Bs) (w i : Nat) (h : i < w) (hw : w ≤ s.length) : (s.take w ++ r).getD i 0 = s.getD i 0 := by
  have h1 : i < s.length := by omega
  simp [List.getD, List.getElem?_append, h, h1, Nat.min_eq_left hw]

theorem decU_ne {s : Bs} (h : s ≠ []) : decU s = Lib.decodeN s.length (s.getD 0 0).toNat (s.getD 1 0).toNat (s.getD 2 0).toNat (s.getD 3 0).toNat := by unfold decU; rw [if_neg h]

theorem Utf.inv {s : Bs} (hu : Utf s) (h : s ≠ []) : decU s ≠ (65533, 1) ∧ Utf (s.drop (decU s).2) := by
  cases hu with
  | nil => exact absurd rfl h
  | step h1 h2 h3 => exact ⟨h2, h3⟩

/-- a character stays what it is, whatever follows -/
theorem decU_loc {s : Bs} (hs : s ≠ []) (hd : decU s ≠ (65533, 1)) (r : Bs) : decU (s.take (decU s).2 ++ r) = decU s ∧ (2 ≤ (decU s).2 → ∀ i, i < (decU s).2 → 128 ≤ (s.getD i 0).toNat) := by
  have hl := decU_len hs
  have hn : 1 ≤ s.length := by omega
  have hE : decU s = Lib.decodeN s.length (s.getD 0 0).toNat (s.getD 1 0).toNat (s.getD 2 0).toNat (s.getD 3 0).toNat := decU_ne hs
  have hne : s.take (decU s).2 ++ r ≠ [] := fun e => by
    have := congrArg List.length e
    simp only [List.length_append, List.length_take, List.length_nil] at this
    omega
  have hlen : (s.take (decU s).2 ++ r).length = (decU s).2 + r.length := by simp only [List.length_append, List.length_take]; omega
  have hF : decU (s.take (decU s).2 ++ r) = Lib.decodeN ((decU s).2 + r.length) ((s.take (decU s).2 ++ r).getD 0 0).toNat ((s.take (decU s).2 ++ r).getD 1 0).toNat ((s.take (decU s).2 ++ r).getD 2 0).toNat ((s.take (decU s).2 ++ r).getD 3 0).toNat := by
    rw [← hlen]; exact decU_ne hne
  have hg := fun i h => getD_take_app s r (decU s).2 i h hl.2
  rw [hF]
  rw [hE] at hd
  rcases decodeN_w s.length (s.getD 0 0).toNat (s.getD 1 0).toNat (s.getD 2 0).toNat (s.getD 3 0).toNat hn with h | ⟨h1, h2⟩ | ⟨h1, h2, h3, h4⟩ | ⟨h1, h2, h3, h4, h5⟩ | ⟨h1, h2, h3, h4, h5, h6⟩
  · exact absurd h hd
  · rw [← hE] at h1
    refine ⟨?_, fun h => by omega⟩
    rw [hg 0 (by omega), hE]
    exact decodeN_1 _ _ _ _ _ _ _ _ _ h2
  · have h1' := h1
    rw [← hE] at h1
    refine ⟨?_, fun _ i hi => ?_⟩
    · rw [hg 0 (by omega), hg 1 (by omega), hE]
      rw [hE] at h1 
      exact decodeN_2 _ _ _ _ _ _ _ _ h2 (by omega) h1'
    · match i, (show i < 2 by omega) with
      | 0, _ => exact h3
      | 1, _ => exact h4
  · have h1' := h1
    rw [← hE] at h1
    refine ⟨?_, fun _ i hi => ?_⟩
    · rw [hg 0 (by omega), hg 1 (by omega), hg 2 (by omega), hE]
      rw [hE] at h1 
      exact decodeN_3 _ _ _ _ _ _ _ h2 (by omega) h1'
    · match i, (show i < 3 by omega) with
      | 0, _ => exact h3
      | 1, _ => exact h4
      | 2, _ => exact h5
  · have h1' := h1
    rw [← hE] at h1
    refine ⟨?_, fun _ i hi => ?_⟩
    · rw [hg 0 (by omega), hg 1 (by omega), hg 2 (by omega), hg 3 (by omega), hE]
      rw [hE] at h1 
      exact decodeN_4 _ _ _ _ _ _ h2 (by omega) h1'
    · match i, (show i < 4 by omega) with
      | 0, _ => exact h3
      | 1, _ => exact h4
      | 2, _ => exact h5
      | 3, _ => exact h6

theorem Utf.app {s t : Bs} (hs : Utf s) (ht : Utf t) : Utf (s ++ t) := by
  induction hs with
  | nil => exact ht
  | @step s h hd hr ih =>
    have hl := decU_len h
    have hloc := (decU_loc h hd (s.drop (decU s).2 ++ t)).1
    rw [← List.append_assoc, List.take_append_drop] at hloc
    refine .step (by simp [h]) (by rw [hloc]; exact hd) ?_
    rw [hloc, List.drop_append_of_le_length hl.2]
    exact ih

theorem Utf.ahead : ∀ (m : Nat) {a b : Bs}, a.length ≤ m → Utf (a ++ b) → (∀ x, a.getLast? = some x → x.toNat < 128) → Utf a
  | m, [], b, _, _, _ => .nil
  | 0, x :: a, b, h, _, _ => by simp at h
  | m + 1, x :: a, b, h, hu, hlast => by
    generalize hA : x :: a = A at *
    have hne : A ≠ [] := by rw [← hA]; simp
    have h1 : A ++ b ≠ [] := by simp [hne]
    obtain ⟨hd, hr⟩ := hu.inv h1
    · have hl := decU_len h1
      have hloc := decU_loc h1 hd
      rcases Nat.lt_or_ge A.length (decU (A ++ b)).2 with hw | hw
      · exfalso
        have hA1 : 1 ≤ A.length := by rw [← hA]; simp
        have := (hloc []).2 (by omega) (A.length - 1) (by omega)
        have hg : A.getLast? = some (A[A.length - 1]'(by omega)) := by rw [List.getLast?_eq_getElem?, List.getElem?_eq_getElem]
        have h2 := hlast _ hg
        have h3 : (A ++ b).getD (A.length - 1) 0 = A[A.length - 1]'(by omega) := by
          simp [List.getD, List.getElem?_append, show A.length - 1 < A.length by omega]
        rw [h3] at this
        omega
      · have e1 : (A ++ b).take (decU (A ++ b)).2 = A.take (decU (A ++ b)).2 := List.take_append_of_le_length hw
        have h3 := (hloc (A.drop (decU (A ++ b)).2)).1
        rw [e1, List.take_append_drop] at h3
        have hA1 := decU_len hne
        refine .step hne (by rw [h3]; exact hd) ?_
        rw [h3]
        rw [List.drop_append_of_le_length hw] at hr
        refine Utf.ahead m (by simp; omega) hr fun y hy => hlast y ?_
        rw [List.getLast?_drop] at hy
        split at hy
        · cases hy
        · exact hy

theorem Utf.ascii : ∀ {s : Bs}, (∀ c ∈ s, c.toNat < 128) → Utf s
  | [], _ => .nil
  | b :: r, h => by
    have hb := h b (by simp)
    have hd : decU (b :: r) = (b.toNat, 1) := by
      have : decU (b :: r) = Lib.decodeN (b :: r).length b.toNat ((b :: r).getD 1 0).toNat ((b :: r).getD 2 0).toNat ((b :: r).getD 3 0).toNat := rfl
      rw [this]; simp [Lib.decodeN, hb]
    refine .step (by simp) (by rw [hd]; simp; omega) ?_
    rw [hd]
    show Utf r
    exact Utf.ascii fun c hc => h c (by simp [hc])

end Go.Zam

namespace Go.Zam
set_option linter.all false
set_option maxRecDepth 100000
set_option maxHeartbeats 2000000

/-- the tokens of a text that begins at a place -/
inductive Toks : Bs → Nat → List Tk → Prop
  | fin {s : Bs} {n : Nat} (h : (tokN (s.drop (leadS false s))).1 = 0) (h0 : s.drop (leadS false s) = []) : Toks s n [⟨0, n + leadS false s, s.take (leadS false s), []⟩]
  | tok {s : Bs} {n : Nat} {l : List Tk} (h : (tokN (s.drop (leadS false s))).1 = 0) (h0 : s.drop (leadS false s) ≠ []) (hr : Toks ((s.drop (leadS false s)).drop (tokN (s.drop (leadS false s))).2.2) (n + leadS false s + (tokN (s.drop (leadS false s))).2.2) l) :
      Toks s n (⟨(tokN (s.drop (leadS false s))).2.1, n + leadS false s, s.take (leadS false s), (s.drop (leadS false s)).take (tokN (s.drop (leadS false s))).2.2⟩ :: l)

theorem lexF_toks : ∀ (f : Nat) (s : Bs) (n c : Nat), s.length < f → ((lexF f s n c).2.1 = 0 ↔ ∃ l, Toks s n l ∧ c + l.length ≤ 4000) ∧ ((lexF f s n c).2.1 = 0 → Toks s n (lexF f s n c).1 ∧ c + (lexF f s n c).1.length ≤ 4000)
  | 0, s, n, c, h => by omega
  | f + 1, s, n, c, h => by
    have htl := tokN_len (s.drop (leadS false s))
    obtain ⟨t1, t2, t3, t4⟩ := htl
    rw [lexF]
    by_cases he : (tokN (s.drop (leadS false s))).1 = 0
    case neg =>
      rw [if_pos he]
      refine ⟨⟨fun e => absurd e he, ?_⟩, fun e => absurd e he⟩
      rintro ⟨l, hl, -⟩
      cases hl with
      | fin h1 h2 => exact absurd h1 he
      | tok h1 h2 h3 => exact absurd h1 he
    rw [if_neg (by simp [he])]
    by_cases hc : 4000 ≤ c
    case pos =>
      rw [if_pos hc]
      refine ⟨⟨fun e => absurd e (by simp), ?_⟩, fun e => absurd e (by simp)⟩
      rintro ⟨l, hl, hlc⟩
      cases hl with
      | fin h1 h2 => simp at hlc; omega
      | tok h1 h2 h3 => simp at hlc; omega
    rw [if_neg hc]
    by_cases hk : (tokN (s.drop (leadS false s))).2.1 = 0
    · rw [if_pos hk]
      have hnil := t2 he hk
      have hT : Toks s n [⟨(tokN (s.drop (leadS false s))).2.1, n + leadS false s, s.take (leadS false s), (s.drop (leadS false s)).take (tokN (s.drop (leadS false s))).2.2⟩] := by
        have := Toks.fin (n := n) he hnil
        rw [hk, hnil]
        simpa using this
      exact ⟨⟨fun _ => ⟨_, hT, by simp; omega⟩, fun _ => rfl⟩, fun _ => ⟨hT, by simp; omega⟩⟩
    · rw [if_neg hk]
      have hne : s.drop (leadS false s) ≠ [] := fun e => hk (t4 e)
      have hm := t3 he hne
      have hlen : ((s.drop (leadS false s)).drop (tokN (s.drop (leadS false s))).2.2).length < f := by
        simp only [List.length_drop] at t1 ⊢
        have : leadS false s < s.length := by
          rcases Nat.lt_or_ge (leadS false s) s.length with h' | h'
          · exact h'
          · exact absurd (List.drop_eq_nil_of_le h') hne
        omega
      obtain ⟨i1, i2⟩ := lexF_toks f _ (n + leadS false s + (tokN (s.drop (leadS false s))).2.2) (c + 1) hlen
      generalize lexF f ((s.drop (leadS false s)).drop (tokN (s.drop (leadS false s))).2.2) (n + leadS false s + (tokN (s.drop (leadS false s))).2.2) (c + 1) = R at i1 i2
      by_cases hR : R.2.1 = 0
      · rw [if_pos hR]
        obtain ⟨j1, j2⟩ := i2 hR
        have hT := Toks.tok (n := n) he hne j1
        exact ⟨⟨fun _ => ⟨_, hT, by simp; omega⟩, fun _ => rfl⟩, fun _ => ⟨hT, by simp; omega⟩⟩
      · rw [if_neg hR]
        refine ⟨⟨fun e => absurd e hR, ?_⟩, fun e => absurd e hR⟩
        rintro ⟨l, hl, hlc⟩
        exfalso
        cases hl with
        | fin h1 h2 => exact hne h2
        | tok h1 h2 h3 => exact hR (i1.2 ⟨_, h3, by simp at hlc; omega⟩)

theorem Toks.uniq : ∀ {s : Bs} {n : Nat} {l l' : List Tk}, Toks s n l → Toks s n l' → l = l' := by
  intro s n l l' h
  induction h generalizing l' with
  | fin h1 h2 =>
    intro h'
    cases h' with
    | fin h3 h4 => rfl
    | tok h3 h4 h5 => exact absurd h2 h4
  | tok h1 h2 h3 ih =>
    intro h'
    cases h' with
    | fin h4 h5 => exact absurd h5 h2
    | tok h4 h5 h6 => rw [ih h6]

/-- what token.Lex answers, where nothing is wrong -/
theorem lexS_ok (s : Bs) : ((lexS s).2.1 = 0 ↔ s.length ≤ 16384 ∧ Utf s ∧ ∃ l, Toks s 0 l ∧ l.length ≤ 4000) ∧ ((lexS s).2.1 = 0 → Toks s 0 (lexS s).1 ∧ (lexS s).1.length ≤ 4000) := by
  have hu := badS_utf s
  unfold lexS
  by_cases h1 : 16384 < s.length
  · rw [if_pos h1]
    exact ⟨⟨fun e => absurd e (by simp), fun e => by omega⟩, fun e => absurd e (by simp)⟩
  rw [if_neg h1]
  by_cases h2 : 0 ≤ badS s
  · rw [if_pos h2]
    exact ⟨⟨fun e => absurd e (by simp), fun e => absurd e.2.1 fun q => hu.2 q h2⟩, fun e => absurd e (by simp)⟩
  rw [if_neg h2]
  obtain ⟨i1, i2⟩ := lexF_toks (s.length + 1) s 0 0 (by omega)
  refine ⟨?_, fun e => by simpa using i2 e⟩
  rw [i1]
  simp only [Nat.zero_add]
  exact ⟨fun ⟨l, a, b⟩ => ⟨by omega, hu.1 h2, l, a, b⟩, fun ⟨_, _, q⟩ => q⟩

/-- what one token is -/
def TkAt (p : Nat) (last : Prop) (t : Tk) : Prop := t.a = p + t.l.length ∧ (t.k = 0 ↔ last) ∧ (t.x = [] ↔ t.k = 0)

theorem Toks.join {s : Bs} {n : Nat} {l : List Tk} (h : Toks s n l) : joinS l = s ∧ (∃ t, l.getLast? = some t ∧ t.k = 0) ∧ ∀ (i : Nat) (t : Tk), l[i]? = some t → TkAt (n + (joinS (l.take i)).length) (i + 1 = l.length) t := by
  induction h with
  | @fin s n h1 h2 =>
    refine ⟨?_, ⟨_, rfl, rfl⟩, fun i t hi => ?_⟩
    · simp only [joinS, List.flatMap_cons, List.flatMap_nil, List.append_nil]
      have := List.take_append_drop (leadS false s) s
      rw [h2, List.append_nil] at this
      exact this
    · cases i with
      | zero =>
        simp at hi; subst hi
        have := lead_le false s
        refine ⟨by simp [joinS]; omega, by simp, by simp⟩
      | succ i => simp at hi
  | @tok s n l h1 h2 h3 ih =>
    obtain ⟨j1, ⟨t0, j2, j3⟩, j4⟩ := ih
    have hl := lead_le false s
    obtain ⟨m1, m2, m3, m4⟩ := tokN_len (s.drop (leadS false s))
    have hne : l ≠ [] := fun e => by subst e; simp at j2
    have hm := m3 h1 h2
    have hx : (s.drop (leadS false s)).take (tokN (s.drop (leadS false s))).2.2 ≠ [] := fun e => by
      have := congrArg List.length e
      simp only [List.length_take, List.length_nil] at this
      omega
    have hk : ¬ (tokN (s.drop (leadS false s))).2.1 = 0 := fun e => h2 (m2 h1 e)
    have hlx : ((s.drop (leadS false s)).take (tokN (s.drop (leadS false s))).2.2).length = (tokN (s.drop (leadS false s))).2.2 := by simp only [List.length_take]; omega
    refine ⟨?_, ⟨t0, ?_, j3⟩, fun i t hi => ?_⟩
    · have e : joinS (⟨(tokN (s.drop (leadS false s))).2.1, n + leadS false s, s.take (leadS false s), (s.drop (leadS false s)).take (tokN (s.drop (leadS false s))).2.2⟩ :: l) = (s.take (leadS false s) ++ (s.drop (leadS false s)).take (tokN (s.drop (leadS false s))).2.2) ++ joinS l := rfl
      rw [e, j1, List.append_assoc, List.take_append_drop, List.take_append_drop]
    · rw [List.getLast?_cons, j2]; rfl
    · cases i with
      | zero =>
        simp at hi; subst hi
        refine ⟨by simp [joinS]; omega, ?_, ?_⟩
        · simp [hk]; exact hne
        · simp only; exact ⟨fun e => absurd e hx, fun e => absurd e hk⟩
      | succ i =>
        simp at hi
        obtain ⟨q1, q2, q3⟩ := j4 i t hi
        refine ⟨?_, ?_, q3⟩
        · rw [q1, List.take_succ_cons]
          have e : joinS (⟨(tokN (s.drop (leadS false s))).2.1, n + leadS false s, s.take (leadS false s), (s.drop (leadS false s)).take (tokN (s.drop (leadS false s))).2.2⟩ :: l.take i) = (s.take (leadS false s) ++ (s.drop (leadS false s)).take (tokN (s.drop (leadS false s))).2.2) ++ joinS (l.take i) := rfl
          rw [e]
          simp only [List.length_append, hlx, List.length_take]
          omega
        · rw [q2]; simp

end Go.Zam

namespace Go.Zam
set_option linter.all false
set_option maxRecDepth 100000
set_option maxHeartbeats 1000000

/-- the last token is an end -/
def EndsL (L : List Tk) : Prop := ∀ i, i + 1 = L.length → kdT L i = 0
theorem kdT_ltE {L : List Tk} {i : Nat} (hE : EndsL L) (h : kdT L i ≠ 0) : i + 1 < L.length := by
  have := kdT_lt h
  rcases Nat.lt_or_ge (i + 1) L.length with h' | h'
  · exact h'
  · exact absurd (hE i (by omega)) h
theorem isT_kd {L : List Tk} {i : Nat} {x : Bs} (h : isT L i x = true) : kdT L i ≠ 0 := by
  unfold isT at h
  unfold kdT
  cases hg : L[i]? with
  | none => rw [hg] at h; cases h
  | some t =>
    rw [hg] at h
    simp at h ⊢
    rcases h.1 with h | h <;> omega
theorem isT_ltE {L : List Tk} {i : Nat} {x : Bs} (hE : EndsL L) (h : isT L i x = true) : i + 1 < L.length := kdT_ltE hE (isT_kd h)

/-- where it ends, or can't go on, there is a token -/
def Bd (L : List Tk) : PR → Prop
  | .ok _ j | .bad j => j < L.length
  | .out => True

section
variable {L : List Tk}
theorem Bd.want (hE : EndsL L) {k : Nat} {x : Bs} {h : Nat → PR} (hk : k < L.length) (hh : k + 1 < L.length → Bd L (h (k + 1))) : Bd L (wantR L k x h) := by
  unfold wantR
  split
  · rename_i e; exact hh (isT_ltE hE e)
  · exact hk
theorem Bd.word (hE : EndsL L) {k : Nat} {h : Bs → Nat → PR} (hk : k < L.length) (hh : k + 1 < L.length → Bd L (h (txT L k) (k + 1))) : Bd L (wordR L k h) := by
  unfold wordR
  split
  · rename_i e; exact hh (kdT_ltE hE (by omega))
  · exact hk
theorem Bd.ifT (hE : EndsL L) {k : Nat} {x : Bs} {a b : PR} (ha : k + 1 < L.length → Bd L a) (hb : Bd L b) : Bd L (if isT L k x then a else b) := by
  split
  · rename_i e; exact ha (isT_ltE hE e)
  · exact hb
theorem Bd.ifK (hE : EndsL L) {k : Nat} {x : Int} {a b : PR} (hx : x ≠ 0) (ha : k + 1 < L.length → Bd L a) (hb : Bd L b) : Bd L (if kdT L k = x then a else b) := by
  split
  · rename_i e; exact ha (kdT_ltE hE (by omega))
  · exact hb
theorem Bd.if0 {k : Nat} {a b : PR} (ha : Bd L a) (hb : Bd L b) : Bd L (if kdT L k = 0 then a else b) := by
  split
  · exact ha
  · exact hb
theorem Bd.ifS (hE : EndsL L) {k : Nat} {x : Bs} {a b : PR} (ha : k + 2 < L.length → Bd L a) (hb : Bd L b) : Bd L (if kdT L k = 1 ∧ isT L (k + 1) x = true then a else b) := by
  split
  · rename_i e; exact ha (by have := isT_ltE hE e.2; omega)
  · exact hb
theorem Bd.thenG {r : PR} {h : N → Nat → PR} (hr : Bd L r) (hh : ∀ m j, j < L.length → Bd L (h m j)) : Bd L (r.then h) := by
  cases r with
  | out => trivial
  | bad j => exact hr
  | ok m j => exact hh m j hr

end

/-! what a text's tokens are like -/

theorem tokN_key (s : Bs) : (tokN s).1 = 0 → (tokN s).2.1 = 2 → s.take (tokN s).2.2 ∈ keysL := by
  cases s with
  | nil => intro _ h; cases h
  | cons b r =>
    rw [tokN]
    (repeat' split) <;> simp_all

theorem Toks.like {s : Bs} {n : Nat} {l : List Tk} (h : Toks s n l) : l ≠ [] ∧ EndsL l ∧ (∀ i, i + 1 < l.length → kdT l i ≠ 0) ∧ ∀ t ∈ l, t.k = 2 → t.x ∈ keysL := by
  induction h with
  | fin h h0 =>
    refine ⟨by simp, fun i hi => ?_, fun i hi => by simp at hi, ?_⟩
    · have : i = 0 := by simp at hi; omega
      subst this; rfl
    · intro t ht hk
      simp at ht; subst ht
      simp at hk
  | @tok s n l h h0 hr ih =>
    obtain ⟨i1, i2, i3, i4⟩ := ih
    have htl := tokN_len (s.drop (leadS false s))
    obtain ⟨t1, t2, t3, t4⟩ := htl
    have hl : 0 < l.length := List.length_pos_iff.2 i1
    refine ⟨by simp, fun i hi => ?_, fun i hi => ?_, ?_⟩
    · cases i with
      | zero => exact absurd hi (by simp only [List.length_cons]; omega)
      | succ i => exact i2 i (by simpa using hi)
    · cases i with
      | zero =>
        show (tokN (s.drop (leadS false s))).2.1 ≠ 0
        exact fun e => h0 (t2 h e)
      | succ i => exact i3 i (by simpa using hi)
    · intro t ht hk
      rcases List.mem_cons.1 ht with rfl | ht
      · exact tokN_key _ h hk
      · exact i4 t ht hk

theorem noEq_of {l : List Tk} (h : ∀ t ∈ l, t.k = 2 → t.x ∈ keysL) (i : Nat) (hi : isT l i [61] = true) : kdT l i = 5 := by
  unfold isT at hi
  unfold kdT
  cases hg : l[i]? with
  | none => rw [hg] at hi; cases hi
  | some t =>
    rw [hg] at hi
    simp at hi ⊢
    rcases hi.1 with e | e
    · have := h t (List.mem_of_getElem? hg) e
      rw [hi.2] at this
      exact absurd this (by decide)
    · exact e

theorem lexS_like {s : Bs} (h : (lexS s).2.1 = 0) : (lexS s).1 ≠ [] ∧ EndsL (lexS s).1 ∧ (∀ i, i + 1 < (lexS s).1.length → kdT (lexS s).1 i ≠ 0) ∧ (∀ i, isT (lexS s).1 i [61] = true → kdT (lexS s).1 i = 5) ∧ (lexS s).1.length ≤ 4000 := by
  obtain ⟨h1, h2⟩ := (lexS_ok s).2 h
  obtain ⟨a1, a2, a3, a4⟩ := h1.like
  exact ⟨a1, a2, a3, noEq_of a4, h2⟩

section
variable {P : Program}

end
end Go.Zam

namespace Go.Zam
set_option linter.all false
set_option maxRecDepth 100000
set_option maxHeartbeats 1000000

def typeF (L : List Tk) : PR := pp L (16 * L.length + 8) .kind 0
/-- the tree of a type's tokens, or why there is none -/
def typeP (L : List Tk) : N × Int := match typeF L with
  | .ok n k => if kdT L k = 0 then if 60 < n.depth then (N.none, 25) else (n, 0) else (N.none, 24)
  | _ => (N.none, 24)
/-- the tree of a type's text, or why there is none -/
def typeO (s : Bs) : N × Int := if (lexS s).2.1 ≠ 0 then (N.none, (lexS s).2.1) else typeP (lexS s).1

theorem typeF_in (L : List Tk) : typeF L ≠ .out := pp_in _ _ _ (Nat.zero_le _) (by simp only [G.c]; omega) trivial

section
variable {P : Program} {F : PF}

/-- kinds alone -/
theorem KHas.kinds (hF : KHas P F) {z : Bool} {L : List Tk} (hL : L.length ≤ 1048576) : ∀ n, n ≤ 1099511627776 → UC P F.tp z L n .kind F.kind ∧ UCc P F.tp F.tb z L n .tfield F.tfield := by
  intro n
  induction n using Nat.strongRecOn with
  | ind n ih =>
  intro hn
  cases n with
  | zero => exact ⟨UC_zero (by decide), UCc_zero (by decide)⟩
  | succ n =>
    exact ⟨hF.kind' hL n (by omega) (fun m hm => (ih m (by omega) (by omega)).2) (fun m hm => (ih m hm (by omega)).1), hF.tfield' hL n (by omega) (ih n (by omega) (by omega)).1⟩

theorem Has.type_ {f fl fd} (h : Has P f (irPType fl F.kind F.now F.fail fd F.tn F.tp)) (hF : KHas P F) (hd : Has P fd (irTDepth fd F.tn)) {H0 : Hp}
    (hl : ∀ (s : Bs), s.length ≤ 1048576 → ∀ H, Pre0 H0 H → ACall P fl [.d (.str s)] H (fun r H' => r = .tup [.d (.sl true 4 ((lexS s).1.map encTk)), .d (.int .i64 (lexS s).2.1), .d (.int .i64 (lexS s).2.2)] ∧ H' = H))
    (s : Bs) (hs : s.length ≤ 1048576) (H : Hp) (hH : Pre0 H0 H) : ACall P f [.d (.str s)] H (fun r H' => r = .tup [(typeO s).1.v, .d (.int .i64 (typeO s).2)] ∧ H' = H) := by
  obtain ⟨fn, hf, hcf⟩ := h
  refine acall_fin hf hcf (by simp [irPType]) fun hcl _ => ?_
  obtain ⟨Q, hQ⟩ : ∃ Q : A → Hp → Prop, Q = fun r H' => r = .tup [(typeO s).1.v, .d (.int .i64 (typeO s).2)] ∧ H' = H := ⟨_, rfl⟩
  rw [← hQ]
  have hnone : ∀ e : Int, typeO s = (N.none, e) → Q (.tup [.agg [.d (.int .i64 0), .d (.int .i64 0), .d (.int .i64 0), .d (.str []), .d (.int .i64 0), .d (.sl true 6 [])], .d (.int .i64 e)]) H := fun e h => by
    subst hQ
    rw [h]
    exact ⟨rfl, rfl⟩
  have hO : typeO s = if (lexS s).2.1 ≠ 0 then (N.none, (lexS s).2.1) else typeP (lexS s).1 := rfl
  have hlk := lexS_like (s := s)
  obtain ⟨r0, hr0⟩ : ∃ r0 : Ob, r0 = .box F.tn [.d (.int .i64 0), .d (.int .i64 0), .d (.int .i64 0), .d (.str []), .d (.int .i64 0), .d (.sl true 6 [])] := ⟨_, rfl⟩
  have g1 := hl s hs _ (hH.app [r0])
  generalize lexS s = LS at hO hlk g1
  obtain ⟨L, e, b⟩ := LS
  simp only at hO hlk g1
  rw [hr0] at g1
  simp [irPType]
  refine CallK_of' g1 ?_
  by_cases he : e = 0
  case neg =>
    rw [if_pos he] at hO
    simp [he]
    simp [RetK, cut_app hcl]
    exact hnone e hO
  rw [if_neg (by simp [he])] at hO
  obtain ⟨l1, l2, l3, l4, l5⟩ := hlk he
  simp [he]
  have hA := (hF.kinds (z := true) (L := L) (by omega) (16 * L.length + 8) (by omega)).1
  have g := hA (H ++ [r0, pst F.tp true L (0, none)]) [] (H.length + 1) (0, none) (by simp) ⟨by simp only [G.c]; omega, by simp only [G.c]; omega, fun _ => ⟨Nat.zero_le _, by simp only [G.c]; omega⟩⟩
  have e1 : ∀ s, (H ++ [r0, pst F.tp true L (0, none)]).set (H.length + 1) (pst F.tp true L s) ++ [] = H ++ [r0, pst F.tp true L s] := fun s => by simp
  rw [e1] at g
  rw [hr0] at g
  refine CallK_of g ?_
  rintro _ _ ⟨m, s', rfl, rfl, hrel⟩
  rw [← hr0, e1]
  rcases hrel.none' with ⟨q, b, hq, rfl, e3⟩ | ⟨k', hk, rfl⟩
  · have hq' : typeF L = .bad q := hq
    have hP : typeP L = (N.none, 24) := by unfold typeP; rw [hq']
    rw [hP] at hO
    obtain ⟨k2, f2, t2, w2, a2, z2, ks2⟩ := m
    rw [N.v_mk, hr0]
    simp [pst]
    repeat' apply And.intro
    all_goals
      simp [RetK, cut_app hcl]
      try exact hnone 24 hO
  have hk' : typeF L = .ok m k' := hk
  have hsz := pp_size (L := L) (16 * L.length + 8) .kind 0 trivial
  rw [show pp L (16 * L.length + 8) .kind 0 = .ok m k' from hk] at hsz
  simp only [Sz, G.k1, G.sz, N.sizes_nil] at hsz
  have hadv := pp_adv (L := L) (16 * L.length + 8) .kind 0
  rw [show pp L (16 * L.length + 8) .kind 0 = .ok m k' from hk] at hadv
  obtain ⟨v1, -, v3⟩ := hadv
  have hdep := N.depth_size m
  have hd' := hd.depth m (by omega)
  have hnow : ∀ X, ACall P F.now [.ptr (H.length + 1) 0] (H ++ (r0 :: pst F.tp true L (k', none) :: X)) (fun r H' => r = tokA_ L k' ∧ H' = H ++ (r0 :: pst F.tp true L (k', none) :: X)) := fun X => hF.now' (z := true) (s := (k', none)) (by simp)
  have hfail : ∀ X, ACall P F.fail [.ptr (H.length + 1) 0, .d (.int .i64 24)] (H ++ (r0 :: pst F.tp true L (k', none) :: X)) (fun r H' => r = .tup [] ∧ H' = H ++ (r0 :: pst F.tp true L (k', some k') :: X)) := fun X => by
    have := hF.fail' (z := true) (L := L) (H := H ++ (r0 :: pst F.tp true L (k', none) :: X)) (i := H.length + 1) (s := (k', none)) (by simp)
    simpa [failS] using this
  obtain ⟨k2, f2, t2, w2, a2, z2, ks2⟩ := m
  rw [N.v_mk] at hd'
  have hnk := hnow [.box F.tn [.d (.int .i64 k2), .d (.int .i64 f2), .d (.int .i64 t2), .d (.str w2), .d (.int .i64 a2), .d (.sl z2 6 (ks2.map N.enc))]]
  have hfk := hfail [.box F.tn [.d (.int .i64 k2), .d (.int .i64 f2), .d (.int .i64 t2), .d (.str w2), .d (.int .i64 a2), .d (.sl z2 6 (ks2.map N.enc))]]
  rw [hr0] at hnk hfk
  rw [N.v_mk, hr0]
  simp only [pst] at hnk hfk
  simp [pst]
  simp at hnk hfk
  obtain ⟨ta, tl, htk⟩ := tokA_k L k'
  rw [htk] at hnk
  refine CallK_of' hnk ?_
  by_cases hkd : kdT L k' = 0
  · simp [hkd]
    refine CallK_of' (hd' _) ?_
    by_cases hdp : 60 < (N.mk k2 f2 t2 w2 a2 z2 ks2).depth
    · have hP : typeP L = (N.none, 25) := by unfold typeP; rw [hk']; simp [hkd, hdp]
      rw [hP] at hO
      have hdi : (60 : Int) < ((N.mk k2 f2 t2 w2 a2 z2 ks2).depth : Int) := by omega
      simp [hdi]
      simp [RetK, cut_app hcl]
      exact hnone 25 hO
    · have hP : typeP L = (N.mk k2 f2 t2 w2 a2 z2 ks2, 0) := by unfold typeP; rw [hk']; simp [hkd, hdp]
      rw [hP] at hO
      have hdi : ¬ (60 : Int) < ((N.mk k2 f2 t2 w2 a2 z2 ks2).depth : Int) := by omega
      simp [hdi]
      simp [RetK, cut_app hcl]
      subst hQ
      rw [hO, N.v_mk]
      exact ⟨rfl, rfl⟩
  · have hP : typeP L = (N.none, 24) := by unfold typeP; rw [hk']; simp [hkd]
    rw [hP] at hO
    simp [hkd]
    refine CallK_of' hfk ?_
    simp
    repeat' apply And.intro
    all_goals
      simp [RetK, cut_app hcl]
      try exact hnone 24 hO

end
end Go.Zam

namespace Go.Zam
set_option linter.all false
set_option maxRecDepth 100000
set_option maxHeartbeats 2000000
open Classical

theorem N.sizes_get {k f t : Int} {w : Bs} {a : Int} {z : Bool} {ks : List N} {i : Nat} {p : N} (h : ks[i]? = some p) : p.size < (N.mk k f t w a z ks).size := by
  have := N.sizes_mem (List.mem_of_getElem? h)
  rw [N.size_mk]; omega

/-- what is asked of a function that tells a tree's type -/
def OfT (P : Program) (f : FuncId) (n : N) : Prop := ∀ (H : Hp), ACall P f [n.v] H (fun r H' => r = .tup [n.ty.1.a, .d (.int .i64 n.ty.2)] ∧ H' = H)

/-- what a record's tree comes to -/
noncomputable def recNR (ks : List N) : T × Int := if badE (ks.map N.fty) ≠ 0 then (T.nil, badE (ks.map N.fty)) else recT (ks.map N.w) ((ks.map N.fty).map Prod.fst)

section
variable {P : Program}

/-- a record's tree -/
theorem Has.tyRecN {f fo fr_ : FuncId} {t1 t2 t3 : TypeId} (h : HasT P [4, 5] f (irTyRecN fo fr_ t1 t2 t3)) (hR : RecT P fr_) (n : N) (hs : n.size ≤ 1048576) (hO : ∀ p ∈ n.ks, ∀ q ∈ p.ks, OfT P fo q) (H : Hp) :
    ACall P f [n.v] H (fun r H' => r = .tup [(recNR n.ks).1.a, .d (.int .i64 (recNR n.ks).2)] ∧ H' = H) := by
  obtain ⟨fn, hf, hcf⟩ := h
  obtain ⟨k, f0, t0, w, a, z, ks⟩ := n
  have hlen : ks.length ≤ 1048576 := by
    have := N.sizes_len ks
    rw [N.size_mk] at hs; omega
  simp only [N.ks] at hO ⊢
  refine acall_fin hf hcf (by simp [irTyRecN]) fun hcl _ => ?_
  obtain ⟨Q, hQ⟩ : ∃ Q : A → Hp → Prop, Q = fun r H' => r = .tup [(recNR ks).1.a, .d (.int .i64 (recNR ks).2)] ∧ H' = H := ⟨_, rfl⟩
  rw [← hQ]
  have hbad : ∀ (i : Nat) (p : T × Int), (∀ q ∈ (ks.map N.fty).take i, q.2 = 0) → (ks.map N.fty)[i]? = some p → p.2 ≠ 0 → Q (.tup [.agg [.d (.int .i64 0), .d (.sl true 1 []), .d (.sl true 3 [])], .d (.int .i64 p.2)]) H := fun i p h1 h2 h3 => by
    have := badE_at h1 h2 h3
    subst hQ
    have e : recNR ks = (T.nil, p.2) := by rw [recNR, if_pos (by rw [this]; exact h3), this]
    rw [e]
    exact ⟨rfl, rfl⟩
  rw [N.v_mk]
  simp [irTyRecN]
  refine RangeK_of (H.length + 4) ks.length (fun i fr H' => fr 2 = .ptr (H.length + 1) 0 ∧ fr 11 = .d (.sl z 6 (ks.map N.enc)) ∧ fr 4 = .osl true 1 ((ks.map (encStr ∘ N.w)).take i) (H.length + 2) ∧ fr 5 = .osl true 3 ((ks.map (T.enc ∘ (Prod.fst ∘ N.fty))).take i) (H.length + 3) ∧
    (∀ q ∈ (ks.map N.fty).take i, q.2 = 0) ∧
    H' = H ++ [.box t1 [.d (.int .i64 k), .d (.int .i64 f0), .d (.int .i64 t0), .d (.str w), .d (.int .i64 a), .d (.sl z 6 (ks.map N.enc))], .box t2 [.d (.int .i64 0), .d (.sl true 1 []), .d (.sl true 3 [])], .tok i 1 t3, .tok i 3 t2]) (by omega) (by decide) (by simp) (by simp) ?_ ?_ ?_
  · simp [cut_appk hcl, A.lo]
  · rintro i fr H' hi f13 f12 ⟨f2, f11, f4, f5, hz, rfl⟩
    have hr := rowAt_map N.enc hi
    have hg : ks[i]? = some ks[i] := List.getElem?_eq_getElem hi
    have hmem := List.getElem_mem hi
    have ta := take_map_succ (encStr ∘ N.w) hi
    have tb := take_map_succ (T.enc ∘ (Prod.fst ∘ N.fty)) hi
    have tc := take_map_succ N.fty hi
    have hm : min i ks.length = i := by omega
    have hc1 : (i + 1) * 16 ≤ 140737488355328 := by omega
    have hc2 : (i + 1) * 56 ≤ 140737488355328 := by omega
    have hO' := hO _ hmem
    generalize ks[i] = p at hr hg hmem ta tb tc hO'
    have hgf : (ks.map N.fty)[i]? = some p.fty := by simp [hg]
    obtain ⟨k1, f1, t1', w1, a1, z1, ks1⟩ := p
    rw [N.enc_mk] at hr
    by_cases hk : k1 = 33
    case neg =>
      have hno : (N.mk k1 f1 t1' w1 a1 z1 ks1).fty = (T.nil, 8) := N.fty_not fun h => hk h.1
      rw [hno] at hgf
      simp [f13, f11, hr, hk, f2]
      simp [RetK, cut_app hcl, f2]
      exact hbad i _ hz hgf (by decide)
    by_cases hl : ks1.length = 1
    case neg =>
      have hno : (N.mk k1 f1 t1' w1 a1 z1 ks1).fty = (T.nil, 8) := N.fty_not fun h => hl h.2
      rw [hno] at hgf
      have hl' : ¬ (ks1.length : Int) = 1 := by omega
      simp [f13, f11, hr, hk, f2, hl, hl']
      simp [RetK, cut_app hcl, f2]
      exact hbad i _ hz hgf (by decide)
    obtain ⟨m, rfl⟩ := List.length_eq_one_iff.1 hl
    have hyes : (N.mk k1 f1 t1' w1 a1 z1 [m]).fty = m.ty := N.fty_one hk
    have hx := hO' m (by simp [N.ks])
    simp only [Function.comp_apply, hyes] at tb tc
    rw [hyes] at hgf
    have hwd : N.w (.mk k1 f1 t1' w1 a1 z1 [m]) = w1 := rfl
    simp only [Function.comp_apply, hwd, encStr] at ta
    unfold OfT at hx
    generalize m.ty = ty at hx hgf tb tc
    obtain ⟨v, e⟩ := ty
    obtain ⟨k2, f2', t2', w2, a2, z2, ks2⟩ := m
    have hr0 : Zam.rowAt [(N.mk k2 f2' t2' w2 a2 z2 ks2).enc] 0 = some [.int .i64 k2, .int .i64 f2', .int .i64 t2', .str w2, .int .i64 a2, .sl z2 6 (ks2.map N.enc)] := by rw [N.enc_mk]; rfl
    obtain ⟨kv, zv, nv, yv, pv⟩ := v
    rw [N.v_mk] at hx
    simp only [T.a_mk] at hx
    simp [f13, f11, hr, hk, f2, hr0]
    refine CallK_of' (hx _) ?_
    by_cases he : e = 0
    case neg =>
      simp [he, f2]
      simp [RetK, cut_app hcl, f2]
      exact hbad i _ hz hgf he
    subst he
    simp only [T.enc_mk] at tb
    simp [f4, f5, appA, hm, hc1, hc2, f13]
    refine NextK_of (H.length + 4) (Nat.le_refl _) (by simp [f13, f12]) ?_
    simp [f2, f11, cut_appk hcl, ta, tb, A.lo]
    rw [tc]
    intro q q2 hq
    rcases List.mem_append.1 hq with h | h
    · exact hz _ h
    · simp at h; exact h.2
  · rintro fr H' f13 f12 ⟨f2, f11, f4, f5, hz, rfl⟩
    have fa : (ks.map (encStr ∘ N.w)).take ks.length = ks.map (encStr ∘ N.w) := List.take_of_length_le (by simp)
    have fb : (ks.map (T.enc ∘ (Prod.fst ∘ N.fty))).take ks.length = ks.map (T.enc ∘ (Prod.fst ∘ N.fty)) := List.take_of_length_le (by simp)
    have fc : (ks.map N.fty).take ks.length = ks.map N.fty := List.take_of_length_le (by simp)
    rw [fa] at f4
    rw [fb] at f5
    rw [fc] at hz
    have hb0 : badE (ks.map N.fty) = 0 := badE_zero.2 hz
    have hrec := fun H => hR true true (ks.map N.w) ((ks.map N.fty).map Prod.fst) (by simpa using hlen) (by simpa using hlen) H
    simp only [List.map_map] at hrec
    have hfin : ∀ (v : T) (e : Int), (v, e) = recT (ks.map N.w) ((ks.map N.fty).map Prod.fst) → Q (.tup [v.a, .d (.int .i64 e)]) H := fun v e he => by
      subst hQ
      have e2 : recNR ks = (v, e) := by rw [recNR, if_neg (by simp [hb0]), he]
      rw [e2]
      exact ⟨rfl, rfl⟩
    simp only [List.map_map] at hfin
    generalize recT (ks.map N.w) (ks.map (Prod.fst ∘ N.fty)) = rt at hrec hfin
    obtain ⟨v, e⟩ := rt
    have hfin := hfin v e rfl
    obtain ⟨kv, zv, nv, yv, pv⟩ := v
    simp only [T.a_mk] at hrec hfin
    simp [f4, f5]
    refine CallK_shut (by simpa [A.shut] using hrec _) ?_
    simp [f2]
    simp [RetK, cut_app hcl, f2]
    exact hfin

/-- the type of a tree, however deep -/
theorem Has.tyOfN {f fr_ fR : FuncId} {t1 t2 t3 u1 u2 u3 : TypeId} (h : HasT P [29] f (irTyOfN fr_ f t1 t2 t3)) (hr : HasT P [4, 5] fr_ (irTyRecN f fR u1 u2 u3)) (hR : RecT P fR) (n : N) : n.size ≤ 1048576 → OfT P f n ∧ ∀ p ∈ n.ks, OfT P f p := by
  refine N.ind (Q := fun n => n.size ≤ 1048576 → OfT P f n ∧ ∀ p ∈ n.ks, OfT P f p) (fun k f0 t0 w a z ks ih => ?_) n
  intro hs
  have hsz : ∀ p ∈ ks, p.size ≤ 1048576 := fun p hp => by
    obtain ⟨i, hi⟩ := List.getElem?_of_mem hp
    have := N.sizes_get (k := k) (f := f0) (t := t0) (w := w) (a := a) (z := z) hi
    omega
  have hkids : ∀ p ∈ ks, OfT P f p := fun p hp => (ih p hp (hsz p hp)).1
  have hgrand : ∀ p ∈ ks, ∀ q ∈ p.ks, OfT P f q := fun p hp => (ih p hp (hsz p hp)).2
  refine ⟨?_, hkids⟩
  have hlen : ks.length ≤ 1048576 := by
    have := N.sizes_len ks
    rw [N.size_mk] at hs; omega
  intro H
  have hrec := fun H => Has.tyRecN hr hR (.mk k f0 t0 w a z ks) hs hgrand H
  obtain ⟨fn, hf, hcf⟩ := h
  refine acall_fin hf hcf (by simp [irTyOfN]) fun hcl _ => ?_
  have hty := N.ty_mk k f0 t0 w a z ks
  have hty2 : k = 32 → (N.mk k f0 t0 w a z ks).ty = recNR ks := fun hk => by
    rw [hty, if_neg (by omega), if_neg (by omega), if_neg (by omega), if_pos hk]; rfl
  obtain ⟨Q, hQ⟩ : ∃ Q : A → Hp → Prop, Q = fun r H' => r = .tup [(N.mk k f0 t0 w a z ks).ty.1.a, .d (.int .i64 (N.mk k f0 t0 w a z ks).ty.2)] ∧ H' = H := ⟨_, rfl⟩
  rw [← hQ]
  have hfin : ∀ (v : T) (e : Int), (N.mk k f0 t0 w a z ks).ty = (v, e) → Q (.tup [v.a, .d (.int .i64 e)]) H := fun v e he => by
    subst hQ
    rw [he]; exact ⟨rfl, rfl⟩
  rw [N.v_mk] at hrec ⊢
  by_cases c1 : k = 0
  · have := hfin T.nil 0 (by rw [hty, if_pos (.inl c1)])
    rw [T.a_nil] at this
    simp [irTyOfN, c1]
    simp [RetK, cut_app hcl]
    exact this
  by_cases c2 : k = 31
  · have := hfin T.nil 0 (by rw [hty, if_pos (.inr c2)])
    rw [T.a_nil] at this
    simp [irTyOfN, c2]
    simp [RetK, cut_app hcl]
    exact this
  by_cases c3 : k = 29
  · have := hfin (T.new 1 [] []) 0 (by rw [hty, if_neg (by omega), if_pos c3])
    rw [T.new, T.a_mk] at this
    simp [irTyOfN, c3]
    simp [RetK, cut_app hcl]
    simpa using this
  by_cases c4 : k = 30
  · have := hfin (T.new 2 [] []) 0 (by rw [hty, if_neg (by omega), if_neg c3, if_pos c4])
    rw [T.new, T.a_mk] at this
    simp [irTyOfN, c4]
    simp [RetK, cut_app hcl]
    simpa using this
  by_cases c5 : k = 32
  · have := fun v e (he : recNR ks = (v, e)) => hfin v e ((hty2 c5).trans he)
    simp only [N.ks] at hrec
    generalize recNR ks = rk at hrec this
    obtain ⟨v, e⟩ := rk
    have := this v e rfl
    obtain ⟨kv, zv, nv, yv, pv⟩ := v
    simp only [T.a_mk] at hrec this
    subst c5
    simp [irTyOfN]
    refine CallK_of' (hrec _) ?_
    simp
    simp [RetK, cut_app hcl]
    exact this
  by_cases c6 : k = 34
  case neg =>
    have := hfin T.nil 8 (by rw [hty, if_neg (by omega), if_neg c3, if_neg c4, if_neg c5, if_neg c6])
    rw [T.a_nil] at this
    simp [irTyOfN, c1, c2, c3, c4, c5, c6]
    simp [RetK, cut_app hcl]
    exact this
  -- a function's
  have hty3 : (N.mk k f0 t0 w a z ks).ty = if badE (ks.map N.ty) ≠ 0 then (T.nil, badE (ks.map N.ty)) else if ks = [] then (T.nil, 8) else (T.new 4 [] ((ks.map N.ty).map Prod.fst), 0) := by
    rw [hty, if_neg (by omega), if_neg c3, if_neg c4, if_neg c5, if_pos c6]
  have hbad : ∀ (i : Nat) (p : T × Int), (∀ q ∈ (ks.map N.ty).take i, q.2 = 0) → (ks.map N.ty)[i]? = some p → p.2 ≠ 0 → Q (.tup [.agg [.d (.int .i64 0), .d (.sl true 1 []), .d (.sl true 3 [])], .d (.int .i64 p.2)]) H := fun i p h1 h2 h3 => by
    have := badE_at h1 h2 h3
    exact hfin T.nil p.2 (by rw [hty3, if_pos (by rw [this]; exact h3), this])
  subst c6
  simp [irTyOfN]
  refine RangeK_of (H.length + 5) ks.length (fun i fr H' => fr 2 = .ptr (H.length + 1) 0 ∧ fr 31 = .d (.sl z 6 (ks.map N.enc)) ∧ fr 4 = .ptr (H.length + 4) 0 ∧
    (∀ q ∈ (ks.map N.ty).take i, q.2 = 0) ∧
    H' = H ++ [.box t1 [.d (.int .i64 34), .d (.int .i64 f0), .d (.int .i64 t0), .d (.str w), .d (.int .i64 a), .d (.sl z 6 (ks.map N.enc))], .box t2 [.d (.int .i64 0), .d (.sl true 1 []), .d (.sl true 3 [])], .tok 0 1 t3, .tok i 3 t2,
      .box t2 [.d (.int .i64 4), .osl true 1 [] (H.length + 2), .osl true 3 ((ks.map (T.enc ∘ (Prod.fst ∘ N.ty))).take i) (H.length + 3)]]) (by omega) (by decide) (by simp) (by simp) ?_ ?_ ?_
  · simp [cut_appk hcl]
  · rintro i fr H' hi f33 f32 ⟨f2, f31, f4, hz, rfl⟩
    have hr := rowAt_map N.enc hi
    have hg : ks[i]? = some ks[i] := List.getElem?_eq_getElem hi
    have hmem := List.getElem_mem hi
    have tb := take_map_succ (T.enc ∘ (Prod.fst ∘ N.ty)) hi
    have tc := take_map_succ N.ty hi
    have hm : min i ks.length = i := by omega
    have hc2 : (i + 1) * 56 ≤ 140737488355328 := by omega
    have hx := hkids _ hmem
    generalize ks[i] = p at hr hg hmem tb tc hx
    have hgf : (ks.map N.ty)[i]? = some p.ty := by simp [hg]
    unfold OfT at hx
    simp only [Function.comp_apply] at tb
    generalize p.ty = ty at hx hgf tb tc
    obtain ⟨v, e⟩ := ty
    obtain ⟨k1, f1, t1', w1, a1, z1, ks1⟩ := p
    obtain ⟨kv, zv, nv, yv, pv⟩ := v
    rw [N.enc_mk] at hr
    rw [N.v_mk] at hx
    simp only [T.a_mk] at hx
    simp [f33, f31, hr]
    refine CallK_of' (hx _) ?_
    by_cases he : e = 0
    case neg =>
      simp [he, f2]
      simp [RetK, cut_app hcl, f2]
      exact hbad i _ hz hgf he
    subst he
    simp only [T.enc_mk] at tb
    simp [f4, appA, hm, hc2, f33]
    refine NextK_of (H.length + 5) (Nat.le_refl _) (by simp [f33, f32]) ?_
    simp [f2, f4, f31, cut_appk hcl, tb]
    rw [tc]
    intro q q2 hq
    rcases List.mem_append.1 hq with h | h
    · exact hz _ h
    · simp at h; exact h.2
  · rintro fr H' f33 f32 ⟨f2, f31, f4, hz, rfl⟩
    have fb : (ks.map (T.enc ∘ (Prod.fst ∘ N.ty))).take ks.length = ks.map (T.enc ∘ (Prod.fst ∘ N.ty)) := List.take_of_length_le (by simp)
    have fc : (ks.map N.ty).take ks.length = ks.map N.ty := List.take_of_length_le (by simp)
    rw [fc] at hz
    have hb0 : badE (ks.map N.ty) = 0 := badE_zero.2 hz
    by_cases hks : ks = []
    · have := hfin T.nil 8 (by rw [hty3, if_neg (by simp [hb0]), if_pos hks])
      rw [T.a_nil] at this
      simp [f4, fb, hks, f2]
      simp [RetK, cut_app hcl, f2]
      exact this
    · have := hfin (T.new 4 [] ((ks.map N.ty).map Prod.fst)) 0 (by rw [hty3, if_neg (by simp [hb0]), if_neg hks])
      have hkl : ¬ ks.length = 0 := by simpa using hks
      rw [T.new, T.a_mk, List.map_map, List.map_map] at this
      have n2 : ¬ H.length + 2 < H.length := by omega
      have n3 : ¬ H.length + 3 < H.length := by omega
      simp [f4, fb, hks, f2]
      simp [RetK, cut_app hcl, f2, n2, n3]
      exact this

/-- term.Of -/
theorem Has.tyOf {f fo fd : FuncId} {t1 t2 : TypeId} (h : Has P f (irTyOf fo fd t1 t2)) (n : N) (ho : OfT P fo n) (hd : ∀ H, ACall P fd [n.ty.1.a] H (fun r H' => r = .d (.int .i64 (n.ty.1.dep : Int)) ∧ H' = H)) (H : Hp) :
    ACall P f [n.v] H (fun r H' => r = .tup [n.typ.1.a, .d (.int .i64 n.typ.2)] ∧ H' = H) := by
  obtain ⟨fn, hf, hcf⟩ := h
  refine acall_fin hf hcf (by simp [irTyOf]) fun hcl _ => ?_
  unfold OfT at ho
  have ht : n.typ = if n.ty.2 ≠ 0 then (T.nil, n.ty.2) else if 12 < n.ty.1.dep then (T.nil, 25) else n.ty := rfl
  generalize n.typ = ny at ht
  generalize n.ty = ty at ho hd ht
  obtain ⟨v, e⟩ := ty
  generalize hdd : v.dep = dd at hd ht
  simp only at ho hd ht hdd
  obtain ⟨kv, zv, nv, yv, pv⟩ := v
  obtain ⟨k1, f1, t1', w1, a1, z1, ks1⟩ := n
  rw [N.v_mk] at ho ⊢
  simp only [T.a_mk] at ho hd
  subst ht
  simp [irTyOf]
  refine CallK_of' (ho _) ?_
  by_cases he : e = 0
  case neg =>
    simp [he]
    simp [RetK, cut_app hcl, he, T.a_nil]
  subst he
  simp
  refine CallK_of' (hd _) ?_
  by_cases hd12 : 12 < dd
  · have : (12 : Int) < (dd : Int) := by omega
    simp [hd12, this]
    simp [RetK, cut_app hcl, hd12, T.a_nil]
  · have : ¬ (12 : Int) < (dd : Int) := by omega
    simp [hd12, this]
    simp [RetK, cut_app hcl, hd12, T.a_mk]

/-- the type of a text, or why there is none -/
noncomputable def typO (s : Bs) : T × Int := if (typeO s).2 ≠ 0 then (T.nil, (typeO s).2) else (typeO s).1.typ

theorem Has.tyParse {f fp fo : FuncId} {t1 t2 : TypeId} (h : Has P f (irTyParse fp fo t1 t2)) (s : Bs) (H : Hp) {H0 : Hp} (hH : Pre0 H0 H) (hp : ∀ H, Pre0 H0 H → ACall P fp [.d (.str s)] H (fun r H' => r = .tup [(typeO s).1.v, .d (.int .i64 (typeO s).2)] ∧ H' = H))
    (ho : ∀ H, ACall P fo [(typeO s).1.v] H (fun r H' => r = .tup [(typeO s).1.typ.1.a, .d (.int .i64 (typeO s).1.typ.2)] ∧ H' = H)) : ACall P f [.d (.str s)] H (fun r H' => r = .tup [(typO s).1.a, .d (.int .i64 (typO s).2)] ∧ H' = H) := by
  obtain ⟨fn, hf, hcf⟩ := h
  refine acall_fin hf hcf (by simp [irTyParse]) fun hcl _ => ?_
  have ht : typO s = if (typeO s).2 ≠ 0 then (T.nil, (typeO s).2) else (typeO s).1.typ := rfl
  generalize typO s = ty at ht
  generalize typeO s = ts at hp ho ht
  obtain ⟨n, e⟩ := ts
  simp only at hp ho ht
  generalize n.typ = ny at ho ht
  obtain ⟨v, e2⟩ := ny
  obtain ⟨kv, zv, nv, yv, pv⟩ := v
  obtain ⟨k1, f1, t1', w1, a1, z1, ks1⟩ := n
  rw [N.v_mk] at hp ho
  simp only [T.a_mk] at ho
  subst ht
  have hp' := hp _ (hH.app [.box t1 [.d (.int .i64 0), .d (.sl true 1 []), .d (.sl true 3 [])]])
  simp [irTyParse]
  refine CallK_of' hp' ?_
  by_cases he : e = 0
  case neg =>
    simp [he]
    simp [RetK, cut_app hcl, he, T.a_nil]
  subst he
  simp
  refine CallK_of' (ho _) ?_
  simp
  simp [RetK, cut_app hcl, T.a_mk]

end
end Go.Zam

namespace Go.Zam
open Go.Proofs
set_option linter.all false
set_option maxRecDepth 100000
set_option maxHeartbeats 1000000
open Classical

theorem T.nil_fit (b : Nat) : T.nil.Fit b := .mk _ _ _ _ _ (Nat.zero_le _) (Nat.zero_le _) (by simp) (by simp)
theorem T.nil_dep : T.nil.dep = 1 := rfl

/-- a node's words are no longer than a number -/
inductive N.Wd (b : Nat) : N → Prop
  | mk {k f t : Int} {w : Bs} {a : Int} {z : Bool} {ks : List N} (hw : w.length ≤ b) (h : ∀ p ∈ ks, N.Wd b p) : N.Wd b (.mk k f t w a z ks)

theorem recT_fit {b : Nat} {ns : List Str'} {ps : List T} (h1 : ns.length ≤ b) (h2 : ∀ x ∈ ns, x.length ≤ b) (h3 : ∀ p ∈ ps, p.Fit b) : (recT ns ps).1.Fit b := by
  unfold recT
  split
  · rename_i hl
    split
    · exact T.nil_fit b
    · have hp := ssort_perm cP_cmp (ns.zip ps)
      have hlen := ssort_length cP_cmp (ns.zip ps)
      refine .mk _ _ _ _ _ (by simp [hlen]; omega) (by simp [hlen]; omega) (fun x hx => ?_) (fun p hq => ?_)
      · obtain ⟨y, hy, rfl⟩ := List.mem_map.1 hx
        exact h2 _ (List.of_mem_zip (hp.mem_iff.2 hy)).1
      · obtain ⟨y, hy, rfl⟩ := List.mem_map.1 hq
        exact h3 _ (List.of_mem_zip (hp.mem_iff.2 hy)).2
  · exact T.nil_fit b

theorem recT_dep {ns : List Str'} {ps : List T} {d : Nat} (h : ∀ p ∈ ps, p.dep ≤ d) : (recT ns ps).1.dep ≤ d + 1 := by
  unfold recT
  split
  · split
    · rw [T.nil_dep]; omega
    · rw [T.new, T.dep_mk]
      have := T.deps_le (l := (ssort cP (ns.zip ps)).map Prod.snd) (n := d)
      have := this.2 fun p hq => by
        obtain ⟨y, hy, rfl⟩ := List.mem_map.1 hq
        exact h _ (List.of_mem_zip ((ssort_perm cP_cmp (ns.zip ps)).mem_iff.2 hy)).2
      omega
  · rw [T.nil_dep]; omega

theorem N.ty_ok (n : N) : n.size ≤ 1048576 → n.Wd 1048576 → (n.ty.1.Fit 1048576 ∧ n.ty.1.dep ≤ n.size) ∧ ∀ p ∈ n.ks, p.ty.1.Fit 1048576 ∧ p.ty.1.dep ≤ p.size := by
  refine N.ind (Q := fun n => n.size ≤ 1048576 → n.Wd 1048576 → (n.ty.1.Fit 1048576 ∧ n.ty.1.dep ≤ n.size) ∧ ∀ p ∈ n.ks, p.ty.1.Fit 1048576 ∧ p.ty.1.dep ≤ p.size) (fun k f t w a z ks ih => ?_) n
  intro hs hw
  have hsz : ∀ p ∈ ks, p.size < (N.mk k f t w a z ks).size := fun p hp => by
    obtain ⟨i, hi⟩ := List.getElem?_of_mem hp
    exact N.sizes_get hi
  have hwk : ∀ p ∈ ks, p.Wd 1048576 := fun p hp => by cases hw with | mk _ h => exact h p hp
  have hk : ∀ p ∈ ks, p.ty.1.Fit 1048576 ∧ p.ty.1.dep ≤ p.size := fun p hp => (ih p hp (by have := hsz p hp; omega) (hwk p hp)).1
  have hg : ∀ p ∈ ks, ∀ q ∈ p.ks, q.ty.1.Fit 1048576 ∧ q.ty.1.dep ≤ q.size := fun p hp => (ih p hp (by have := hsz p hp; omega) (hwk p hp)).2
  have hlen : ks.length ≤ 1048576 := by
    have := N.sizes_len ks
    rw [N.size_mk] at hs; omega
  have h1 : 1 ≤ (N.mk k f t w a z ks).size := by rw [N.size_mk]; omega
  refine ⟨?_, hk⟩
  rw [N.ty_mk]
  split
  · exact ⟨T.nil_fit _, by rw [T.nil_dep]; exact h1⟩
  split
  · exact ⟨.mk _ _ _ _ _ (Nat.zero_le _) (Nat.zero_le _) (by simp) (by simp), h1⟩
  split
  · exact ⟨.mk _ _ _ _ _ (Nat.zero_le _) (Nat.zero_le _) (by simp) (by simp), h1⟩
  split
  · split
    · exact ⟨T.nil_fit _, by rw [T.nil_dep]; exact h1⟩
    · have hf : ∀ p ∈ ks, p.fty.1.Fit 1048576 ∧ p.fty.1.dep + 1 ≤ (N.mk k f t w a z ks).size := fun p hp => by
        have hpz := hsz p hp
        obtain ⟨k1, f1, t1, w1, a1, z1, ks1⟩ := p
        have h1' : 1 ≤ (N.mk k1 f1 t1 w1 a1 z1 ks1).size := by rw [N.size_mk]; omega
        by_cases hc : k1 = 33 ∧ ks1.length = 1
        · obtain ⟨m, rfl⟩ := List.length_eq_one_iff.1 hc.2
          rw [N.fty_one hc.1]
          have := hg _ hp m (by simp [N.ks])
          have hmz : m.size < (N.mk k1 f1 t1 w1 a1 z1 [m]).size := N.sizes_get (i := 0) rfl
          exact ⟨this.1, by omega⟩
        · rw [N.fty_not hc]
          exact ⟨T.nil_fit _, by show 1 + 1 ≤ _; omega⟩
      refine ⟨recT_fit (by simpa using hlen) (fun x hx => ?_) (fun p hp => ?_), ?_⟩
      · obtain ⟨p, hp, rfl⟩ := List.mem_map.1 hx
        have := hwk p hp
        cases this with | mk h _ => exact h
      · obtain ⟨q, hq, rfl⟩ := List.mem_map.1 hp
        obtain ⟨r, hr, rfl⟩ := List.mem_map.1 hq
        exact (hf r hr).1
      · have := recT_dep (ns := ks.map N.w) (ps := (ks.map N.fty).map Prod.fst) (d := (N.mk k f t w a z ks).size - 1) fun p hp => by
          obtain ⟨q, hq, rfl⟩ := List.mem_map.1 hp
          obtain ⟨r, hr, rfl⟩ := List.mem_map.1 hq
          have := (hf r hr).2; omega
        omega
  split
  · split
    · exact ⟨T.nil_fit _, by rw [T.nil_dep]; exact h1⟩
    split
    · exact ⟨T.nil_fit _, by rw [T.nil_dep]; exact h1⟩
    · refine ⟨.mk _ _ _ _ _ (Nat.zero_le _) (by simpa using hlen) (by simp) (fun p hp => ?_), ?_⟩
      · obtain ⟨q, hq, rfl⟩ := List.mem_map.1 hp
        obtain ⟨r, hr, rfl⟩ := List.mem_map.1 hq
        exact (hk r hr).1
      · rw [T.new, T.dep_mk]
        have := (T.deps_le (l := (ks.map N.ty).map Prod.fst) (n := (N.mk k f t w a z ks).size - 1)).2 fun p hp => by
          obtain ⟨q, hq, rfl⟩ := List.mem_map.1 hp
          obtain ⟨r, hr, rfl⟩ := List.mem_map.1 hq
          have h1 := (hk r hr).2
          have h2 := hsz r hr
          omega
        omega
  · exact ⟨T.nil_fit _, by rw [T.nil_dep]; exact h1⟩

/-! words of trees -/
def WdR (b : Nat) : PR → Prop
  | .ok m _ => m.Wd b
  | _ => True
def G.Wd (b : Nat) : G → Prop
  | .file ks | .stmts ks => ∀ p ∈ ks, N.Wd b p
  | .list o _ => G.Wd b o
  | .listL o _ ks => G.Wd b o ∧ ∀ p ∈ ks, N.Wd b p
  | .sumL a | .termL a | .postL a => N.Wd b a
  | _ => True
section
variable {L : List Tk} {b : Nat}
theorem WdR.want {k : Nat} {x : Bs} {h : Nat → PR} (hh : WdR b (h (k + 1))) : WdR b (wantR L k x h) := by
  unfold wantR
  split
  · exact hh
  · trivial
theorem WdR.word (hL : ∀ t ∈ L, t.x.length ≤ b) {k : Nat} {h : Bs → Nat → PR} (hh : ∀ w : Bs, w.length ≤ b → WdR b (h w (k + 1))) : WdR b (wordR L k h) := by
  unfold wordR
  split
  · refine hh _ ?_
    unfold txT
    cases hg : L[k]? with
    | none => simp
    | some t => exact hL t (List.mem_of_getElem? hg)
  · trivial
theorem WdR.ite {c : Prop} [Decidable c] {x y : PR} (hx : WdR b x) (hy : WdR b y) : WdR b (if c then x else y) := by
  split
  · exact hx
  · exact hy
theorem WdR.thenG {r : PR} {h : N → Nat → PR} (hr : WdR b r) (hh : ∀ m j, m.Wd b → WdR b (h m j)) : WdR b (r.then h) := by
  cases r with
  | out => trivial
  | bad j => trivial
  | ok m j => exact hh m j hr
theorem txT_len (hL : ∀ t ∈ L, t.x.length ≤ b) (k : Nat) : (txT L k).length ≤ b := by
  unfold txT
  cases hg : L[k]? with
  | none => simp
  | some t => exact hL t (List.mem_of_getElem? hg)
theorem N.Wd.new {k f t : Int} {w : Bs} {a : Int} {ks : List N} (hw : w.length ≤ b) (h : ∀ p ∈ ks, N.Wd b p) : WdR b (.ok (N.new k f t w a ks) 0) := .mk hw h
theorem N.Wd.ks {n : N} (h : n.Wd b) : ∀ p ∈ n.ks, N.Wd b p := by cases h with | mk _ h => exact h
theorem N.Wd.nil {k f t a : Int} {z : Bool} : N.Wd b (.mk k f t [] a z []) := .mk (Nat.zero_le _) (by simp)
theorem wd_snoc {ks : List N} {m : N} (h : ∀ p ∈ ks, N.Wd b p) (hm : m.Wd b) : ∀ p ∈ ks ++ [m], N.Wd b p := fun p hp => by
  rcases List.mem_append.1 hp with h1 | h1
  · exact h p h1
  · simp at h1; subst h1; exact hm
theorem wd_cons {ks : List N} {m : N} (hm : m.Wd b) (h : ∀ p ∈ ks, N.Wd b p) : ∀ p ∈ m :: ks, N.Wd b p := fun p hp => by
  rcases List.mem_cons.1 hp with h1 | h1
  · subst h1; exact hm
  · exact h p h1
theorem wd_nil : ∀ p ∈ ([] : List N), N.Wd b p := fun p hp => by cases hp

theorem pp_wd (hL : ∀ t ∈ L, t.x.length ≤ b) : ∀ (n : Nat) (g : G) (i : Nat), g.Wd b → WdR b (pp L n g i)
  | 0, g, i, _ => trivial
  | n + 1, g, i, hg => by
    have ih := pp_wd hL n
    have hx := txT_len hL
    have h0 : ([] : Bs).length ≤ b := Nat.zero_le _
    cases g
    all_goals simp only [pp, G.Wd] at hg ⊢
    all_goals
      repeat' first
        | trivial
        | assumption
        | (refine WdR.want ?_)
        | (refine WdR.word hL fun w hw => ?_)
        | (refine WdR.ite ?_ ?_)
        | (refine WdR.thenG (ih _ _ ?_) fun m j hm => ?_)
        | (refine ih _ _ ?_)
        | (exact N.Wd.nil)
        | (exact wd_nil)
        | (exact N.Wd.ks (by assumption))
        | (exact hx _)
        | (refine wd_snoc ?_ ?_)
        | (refine wd_cons ?_ ?_)
        | (exact (by assumption : N.Wd b _))
        | (exact hg.1)
        | (exact hg.2)
        | (exact ⟨hg, wd_nil⟩)
        | (refine ⟨hg.1, wd_snoc hg.2 ?_⟩)
        | (refine N.Wd.mk ?_ ?_)

end

theorem Toks.wd {s : Bs} {n : Nat} {l : List Tk} (h : Toks s n l) : ∀ t ∈ l, t.x.length ≤ s.length := by
  induction h with
  | fin h h0 => intro t ht; simp at ht; subst ht; simp
  | @tok s n l h h0 hr ih =>
    intro t ht
    rcases List.mem_cons.1 ht with rfl | ht
    · simp; omega
    · have := ih t ht
      simp at this; omega

theorem lexS_wd (s : Bs) (h : (lexS s).2.1 = 0) : ∀ t ∈ (lexS s).1, t.x.length ≤ s.length := ((lexS_ok s).2 h).1.wd

theorem N.none_wd (b : Nat) : N.none.Wd b := N.Wd.nil

/-- a type's text's tree isn't too great -/
theorem typeO_ok (s : Bs) (hs : s.length ≤ 1048576) : (typeO s).1.size ≤ 1048576 ∧ (typeO s).1.Wd 1048576 := by
  unfold typeO
  split
  · exact ⟨by rw [N.size_none]; decide, N.none_wd _⟩
  · rename_i h
    have h0 : (lexS s).2.1 = 0 := by simpa using h
    have hwd := lexS_wd s h0
    have hl := (lexS_like h0).2.2.2.2
    unfold typeP
    cases hF : typeF (lexS s).1 with
    | out => exact ⟨by simp [N.size_none], N.none_wd _⟩
    | bad q => exact ⟨by simp [N.size_none], N.none_wd _⟩
    | ok m j =>
      simp only
      split
      · split
        · exact ⟨by simp [N.size_none], N.none_wd _⟩
        · have hsz := pp_size (L := (lexS s).1) (16 * (lexS s).1.length + 8) .kind 0 trivial
          have hw := pp_wd (b := 1048576) (L := (lexS s).1) (fun t ht => by have := hwd t ht; omega) (16 * (lexS s).1.length + 8) .kind 0 trivial
          have hadv := pp_adv (L := (lexS s).1) (16 * (lexS s).1.length + 8) .kind 0
          rw [show pp (lexS s).1 (16 * (lexS s).1.length + 8) .kind 0 = .ok m j from hF] at hsz hw hadv
          simp only [Sz, G.k1, G.sz, N.sizes_nil] at hsz
          obtain ⟨v1, -, v3⟩ := hadv
          exact ⟨by simp only; omega, hw⟩
      · exact ⟨by simp [N.size_none], N.none_wd _⟩

/-! the examples -/
def nFld (f t : Int) (w : Bs) (k : Int) : N := N.new 33 f t w f [N.new k (f + 2) (f + 3) [] 0 []]
theorem fld_ty {f t : Int} {w : Bs} {k : Int} : (nFld f t w k).fty = (N.new k (f + 2) (f + 3) [] 0 []).ty := N.fty_one rfl
theorem leaf_ty (f t : Int) : (N.new 29 f t [] 0 []).ty = (T.new 1 [] [], 0) ∧ (N.new 30 f t [] 0 []).ty = (T.new 2 [] [], 0) ∧ (N.new 31 f t [] 0 []).ty = (T.nil, 0) := by
  refine ⟨?_, ?_, ?_⟩ <;> (rw [N.new, N.ty_mk]; simp)
def tI : T := .new 1 [] []
def tS : T := .new 2 [] []
end Go.Zam

namespace Go.Zam
set_option linter.all false
set_option maxRecDepth 100000
set_option maxHeartbeats 2000000
open Classical

theorem T.size_get {k : Int} {z : Bool} {ns : List Str'} {y : Bool} {ps : List T} {i : Nat} {p : T} (hp : ps[i]? = some p) : p.st.size < (T.mk k z ns y ps).st.size := by
  rw [T.st_mk]
  exact Ty.size_get (i := i) (by simp [hp])

section
variable {P : Program}

end
end Go.Zam

namespace Go.Zam
set_option linter.all false
set_option maxRecDepth 100000
set_option maxHeartbeats 2000000
open Classical

section
variable {P : Program}

end
end Go.Zam

namespace Go.Zam
set_option linter.all false
set_option maxRecDepth 100000
set_option maxHeartbeats 2000000
open Classical

/-- what is asked of a function that says whether a type may be -/
def RightT (P : Program) (f : FuncId) (v : T) : Prop := ∀ (H : Hp), ACall P f [v.a] H (fun r H' => r = .d (.bool (decide v.st.Rt)) ∧ H' = H)

/-- labels up to a place rise, and are names -/
def UpTo (ns : List Str') (i : Nat) : Prop := (∀ (j : Nat) (x : Str'), j < i → ns[j]? = some x → isNameB x = true) ∧ ∀ (j : Nat) (x y : Str'), j + 1 < i → ns[j]? = some x → ns[j + 1]? = some y → Op.bytesLess x y = true
theorem UpTo.all {ns : List Str'} (h : UpTo ns ns.length) : (∀ x ∈ ns, isNameB x = true) ∧ Ty.Inc ns :=
  ⟨fun x hx => by
    obtain ⟨i, hi⟩ := List.getElem?_of_mem hx
    exact h.1 i x (List.getElem?_eq_some_iff.1 hi).1 hi, fun i x y hx hy => h.2 i x y (List.getElem?_eq_some_iff.1 hy).1 hx hy⟩
theorem UpTo.zero (ns : List Str') : UpTo ns 0 := ⟨fun j x h => by omega, fun j x y h => by omega⟩
theorem UpTo.succ {ns : List Str'} {i : Nat} {y : Str'} (h : UpTo ns i) (hy : ns[i]? = some y) (hn : isNameB y = true) (hp : ∀ x, 0 < i → ns[i - 1]? = some x → Op.bytesLess x y = true) : UpTo ns (i + 1) := by
  refine ⟨fun j x hj hx => ?_, fun j x z hj hx hz => ?_⟩
  · by_cases e : j = i
    · subst e; rw [hy] at hx; cases hx; exact hn
    · exact h.1 j x (by omega) hx
  · by_cases e : j + 1 = i
    · subst e; rw [hy] at hz; cases hz; exact hp x (by omega) (by simpa using hx)
    · exact h.2 j x z (by omega) hx hz

section
variable {P : Program} {bt : Nat}

end
end Go.Zam

namespace Go.Zam
set_option linter.all false
set_option maxRecDepth 100000
set_option maxHeartbeats 2000000
open Classical

section
variable {P : Program} {t : Nat}

end
end Go.Zam

namespace Go.Zam
set_option linter.all false
set_option maxRecDepth 100000
set_option maxHeartbeats 2000000
open Classical

namespace Ty
theorem rt1 : Rt (.mk 1 [] []) := rt_iff.2 ⟨by decide, by simp, by simp, by simp, by simp, fun i x y hx => by simp at hx, by simp⟩
theorem rt2 : Rt (.mk 2 [] []) := rt_iff.2 ⟨by decide, by simp, by simp, by simp, by simp, fun i x y hx => by simp at hx, by simp⟩
theorem rt0 : Rt (.mk 0 [] []) := rt_iff.2 ⟨by decide, by simp, by simp, by simp, by simp, fun i x y hx => by simp at hx, by simp⟩
end Ty

theorem tI_fit : tI.Fit 1048576 := .mk _ _ _ _ _ (by simp) (by simp) (by simp) (by simp)
theorem nil_fit : T.nil.Fit 1048576 := .mk _ _ _ _ _ (by simp) (by simp) (by simp) (by simp)
theorem two_fit {w w' : Str'} {v v' : T} (hw : w.length ≤ 1048576) (hw' : w'.length ≤ 1048576) (hv : v.Fit 1048576) (hv' : v'.Fit 1048576) : (T.new 3 [w, w'] [v, v']).Fit 1048576 := .mk _ _ _ _ _ (by simp) (by simp) (by simpa using ⟨hw, hw'⟩) (by simpa using ⟨hv, hv'⟩)

section
variable {P : Program} {t : Nat} {H0 : Hp}

/-- what is asked of the sentinel -/
def AwakeT (P : Program) (H0 : Hp) (f : FuncId) : Prop := ∀ H, Pre0 H0 H → ACall P f [] H (fun r H' => r = .d (.bool true) ∧ H' = H)

end
end Go.Zam

namespace Go.Zam
set_option linter.all false
set_option maxRecDepth 100000
set_option maxHeartbeats 2000000
open Classical

section
variable {P : Program} {t : Nat} {H0 : Hp}

end
end Go.Zam

namespace Go.Zam
set_option linter.all false
set_option maxRecDepth 100000
open Classical

def T.kk : T → Int
  | .mk k _ _ _ _ => k
def T.nms : T → List Str'
  | .mk _ _ ns _ _ => ns
def T.prt : T → List T
  | .mk _ _ _ _ ps => ps

mutual
/-- what two types have in common, as the program holds it; the flag: a list of parts cut off keeps its nil flag, or it does not -/
noncomputable def T.join (c : Bool) : T → T → T
  | .mk k z ns y ps, w => if (T.mk k z ns y ps).st = w.st then .mk k z ns y ps else if k = 3 ∧ w.kk = 3 then .mk 3 true (ns.filter fun x => (lookT x w.nms w.prt).isSome) true (T.joinR c ns ps w)
      else if k = 4 ∧ w.kk = 4 ∧ ps.length = w.prt.length ∧ (ps.map T.st).dropLast = (w.prt.map T.st).dropLast then .mk 4 true [] c (T.joinL c ps w.prt) else T.nil
noncomputable def T.joinR (c : Bool) : List Str' → List T → T → List T
  | x :: ns, p :: ps, w => match lookT x w.nms w.prt with
    | some q => T.join c p q :: T.joinR c ns ps w
    | none => T.joinR c ns ps w
  | _, _, _ => []
noncomputable def T.joinL (c : Bool) : List T → List T → List T
  | p :: ps, q :: qs => if ps = [] then [T.join c p q] else p :: T.joinL c ps qs
  | _, _ => []
end

section
variable {c : Bool} {k k' : Int} {z z' y y' : Bool} {ns ns' : List Str'} {ps ps' : List T}
end

end Go.Zam

namespace Go.Zam
open Go.RowKit (Below)
open Go.Proofs Go.Shelf
set_option linter.all false
set_option maxRecDepth 100000
set_option maxHeartbeats 1000000

theorem join_leaf {P : Program} {ρ : Ren} (L : Lays.n156 P ρ) (X : Builder.Extra P ρ) (z : Bool) (xs : List (List UInt8)) (sep : List UInt8) (hN : xs.length ≤ 140737488355328) (hlen : (Lib.join xs sep).length ≤ 140737488355328) (H : Hp) :
    ACall P (ρ.f 156) [.d (.sl z 1 (xs.map Go.Zam.encStr)), .d (.str sep)] H (fun r H' => r = .d (.str (Lib.join xs sep)) ∧ H' = H) := by
  refine leaf (args := [.sl z 1 (xs.map Go.Zam.encStr), .str sep]) (fun w σ vs hσ hl hv => ?_) H
  obtain ⟨v1, v2, rfl⟩ : ∃ v1 v2, vs = [v1, v2] := by
    match vs, hl with
    | [a, b], _ => exact ⟨a, b, rfl⟩
  have h1 := hv 0 v1 _ rfl rfl
  have h2 := (hv 1 v2 _ rfl rfl).str_inv
  subst h2
  have hmap : (xs.map fun l => (⟨l.toArray⟩ : ByteArray)).map (·.data.toList) = xs := by
    rw [List.map_map]
    conv => rhs; rw [← List.map_id xs]
    exact List.map_congr_left fun l _ => by simp
  have none : ∀ (a : Option Addr) (c : Nat), xs = [] → Calls P (ρ.f 156) #[.slice a 0 c, .string ⟨sep.toArray⟩] w fun e w' => ∃ v, e = .returned v ∧ Below w.heap.size w w' ∧ ∀ σ, DR σ v (.str (Lib.join xs sep)) := fun a c e => by
    refine (Any.strings_Join_none L X a c ⟨sep.toArray⟩ w).mono ?_
    rintro e' w' ⟨rfl, rfl⟩
    refine ⟨_, rfl, Below.refl _ _, fun σ => ?_⟩
    subst e
    exact DR.strOf []
  rcases h1.sl_inv with ⟨rfl, -, hx⟩ | ⟨a, cap, rfl, -, hx⟩ | ⟨b, o, cap, f, rfl, -, hcap, -, hc, hd⟩
  · exact none _ _ (by simpa using hx)
  · exact none _ _ (by simpa using hx)
  by_cases e : xs = []
  · subst e
    exact none _ _ rfl
  have hcell : ∀ (j : Nat) x, (xs.map fun l => (⟨l.toArray⟩ : ByteArray))[j]? = some x → w.cell? ⟨b, o + j, .none⟩ = some (.string x) := fun j x hj => by
    rw [List.getElem?_map, Option.map_eq_some_iff] at hj
    obtain ⟨l, hl, rfl⟩ := hj
    have hr : (xs.map Go.Zam.encStr)[j]? = some [.str l] := by simp [hl, Go.Zam.encStr]
    have a1 := hσ _ _ _ (hc j 0 _ _ hr rfl)
    have a2 := (hd j 0 _ _ hr rfl).str_inv
    rw [a2] at a1
    simpa using a1
  have hb : b < w.heap.size := by
    obtain ⟨l, hl⟩ : ∃ l, xs[0]? = some l := by
      cases xs with
      | nil => exact absurd rfl e
      | cons l r => exact ⟨l, rfl⟩
    exact World.block_lt_of_cell? w ⟨b, o + 0, .none⟩ (hcell 0 _ (by rw [List.getElem?_map, hl]; rfl))
  have := Any.strings_Join L X b o cap (xs.map fun l => (⟨l.toArray⟩ : ByteArray)) ⟨sep.toArray⟩ w hcell hb (by simpa using hN) (by simpa using hcap) (by rw [hmap]; simpa using hlen)
  simp only [List.length_map] at this
  rw [hmap] at this
  simp only [List.length_map]
  refine this.mono ?_
  rintro e' w' ⟨rfl, hw⟩
  refine ⟨_, rfl, hw, fun σ => ?_⟩
  simpa using DR.strOf (σ := σ) (Lib.join xs sep)
end Go.Zam

namespace Go.Zam
set_option linter.all false
set_option maxRecDepth 100000

/-- a row of texts with the texts of labels ahead -/
def labs (ns ts : List Bs) : List Bs := List.zipWith (fun n t => n ++ [58, 32] ++ t) ns ts

mutual
/-- a type's text -/
def T.txt : T → Bs
  | .mk k z ns y ps => if k = 1 then [105, 110, 116] else if k = 2 then [115, 116, 114] else if k = 3 then [123] ++ Lib.join (labs ns (T.txts ps)) [44, 32] ++ [125]
      else if k = 4 ∧ ps ≠ [] then [102, 110, 40] ++ Lib.join (T.txts ps).dropLast [44, 32] ++ [41, 58, 32] ++ (T.txts ps).getLastD [] else [100, 121, 110]
def T.txts : List T → List Bs
  | [] => []
  | p :: r => T.txt p :: T.txts r
end
theorem T.txts_map : ∀ l : List T, T.txts l = l.map T.txt
  | [] => rfl
  | p :: r => by rw [T.txts, T.txts_map r]; rfl
theorem T.txt_mk (k : Int) (z : Bool) (ns : List Str') (y : Bool) (ps : List T) : T.txt (.mk k z ns y ps) = if k = 1 then [105, 110, 116] else if k = 2 then [115, 116, 114] else if k = 3 then [123] ++ Lib.join (labs ns (ps.map T.txt)) [44, 32] ++ [125]
      else if k = 4 ∧ ps ≠ [] then [102, 110, 40] ++ Lib.join (ps.map T.txt).dropLast [44, 32] ++ [41, 58, 32] ++ (ps.map T.txt).getLastD [] else [100, 121, 110] := by rw [T.txt, T.txts_map]

mutual
/-- a bound on a type's text -/
def T.wt : T → Nat
  | .mk _ _ ns _ ps => 16 + (ns.map fun n => n.length + 4).sum + T.wts ps
def T.wts : List T → Nat
  | [] => 0
  | p :: r => T.wt p + 4 + T.wts r
end
theorem T.wt_mk (k : Int) (z : Bool) (ns : List Str') (y : Bool) (ps : List T) : T.wt (.mk k z ns y ps) = 16 + (ns.map fun n => n.length + 4).sum + T.wts ps := by rw [T.wt]
theorem T.wts_mem : ∀ {l : List T} {p : T}, p ∈ l → p.wt + 4 ≤ T.wts l
  | [], _, h => by simp at h
  | x :: r, p, h => by
    rw [T.wts]
    rcases List.mem_cons.1 h with rfl | h
    · omega
    · have := T.wts_mem h; omega

theorem join_len (xs : List Bs) (sep : Bs) : (Lib.join xs sep).length ≤ (xs.map fun x => x.length + sep.length).sum := by
  cases xs with
  | nil => simp [Lib.join_nil]
  | cons x r =>
    rw [Lib.join_cons, List.length_append, Lib.joinTail_length, List.map_cons, List.sum_cons]
    have : ∀ r : List Bs, sep.length * r.length + Lib.lens r ≤ (r.map fun x => x.length + sep.length).sum := fun r => by
      induction r with
      | nil => simp [Lib.lens]
      | cons y r ih =>
        simp only [Lib.lens, List.map_cons, List.sum_cons, List.length_cons, Nat.mul_add] at ih ⊢
        omega
    have := this r
    omega
theorem labs_sum : ∀ (ns : List Str') (ts : List Bs), ((labs ns ts).map fun x => x.length + 2).sum ≤ (ns.map fun n => n.length + 4).sum + (ts.map fun t => t.length).sum
  | [], _ => by simp [labs]
  | _ :: _, [] => by simp [labs]
  | n :: ns, t :: ts => by
    have := labs_sum ns ts
    simp only [labs] at this
    simp only [labs, List.zipWith_cons_cons, List.map_cons, List.sum_cons, List.length_append, List.length_cons, List.length_nil]
    omega
theorem sum_txt : ∀ {l : List T}, (∀ p ∈ l, p.txt.length ≤ p.wt) → (l.map fun p => p.txt.length + 4).sum ≤ T.wts l
  | [], _ => by simp [T.wts]
  | p :: r, h => by
    have h1 := h p (by simp)
    have := sum_txt (l := r) fun q hq => h q (by simp [hq])
    simp only [List.map_cons, List.sum_cons, T.wts]
    omega
theorem sum_le {α : Type} {f g : α → Nat} : ∀ {l : List α}, (∀ x ∈ l, f x ≤ g x) → (l.map f).sum ≤ (l.map g).sum
  | [], _ => by simp
  | x :: r, h => by
    have h1 := h x (by simp)
    have := sum_le (l := r) fun y hy => h y (by simp [hy])
    simp only [List.map_cons, List.sum_cons]
    omega

theorem T.txt_len (v : T) : v.txt.length ≤ v.wt := by
  induction v using T.ind with
  | h k z ns y ps ih =>
  rw [T.txt_mk, T.wt_mk]
  have hs := sum_txt ih
  split
  · simp; omega
  split
  · simp; omega
  split
  · have h1 : (Lib.join (labs ns (ps.map T.txt)) [44, 32]).length ≤ ((labs ns (ps.map T.txt)).map fun x => x.length + 2).sum := join_len _ _
    have h2 := labs_sum ns (ps.map T.txt)
    have h3 : ((ps.map T.txt).map fun t => t.length).sum ≤ (ps.map fun p => p.txt.length + 4).sum := by
      rw [List.map_map]
      exact sum_le fun p _ => by simp
    simp only [List.length_append, List.length_cons, List.length_nil] at h1 ⊢
    omega
  split
  · rename_i h
    obtain ⟨l, p, rfl⟩ : ∃ l p, ps = l ++ [p] := ⟨ps.dropLast, ps.getLast h.2, (List.dropLast_concat_getLast h.2).symm⟩
    have h1 : (Lib.join (l.map T.txt) [44, 32]).length ≤ ((l.map T.txt).map fun x => x.length + 2).sum := join_len _ _
    have h3 : ((l.map T.txt).map fun t => t.length + 2).sum ≤ (l.map fun p => p.txt.length + 4).sum := by
      rw [List.map_map]
      exact sum_le fun p _ => by simp
    have e1 : ((l ++ [p]).map T.txt).dropLast = l.map T.txt := by simp
    have e2 : ((l ++ [p]).map T.txt).getLastD [] = p.txt := by simp
    rw [e1, e2]
    simp only [List.map_append, List.sum_append, List.map_cons, List.map_nil, List.sum_cons, List.sum_nil] at hs
    simp only [List.length_append, List.length_cons, List.length_nil] at h1 ⊢
    omega
  · simp; omega

theorem T.wt_part {k : Int} {z : Bool} {ns : List Str'} {y : Bool} {ps : List T} {p : T} (h : p ∈ ps) : p.wt ≤ (T.mk k z ns y ps).wt := by
  rw [T.wt_mk]; have := T.wts_mem h; omega

theorem T.wt_bulk (v : T) : v.wt + 4 ≤ 16 * D.bulkC v.enc := by
  induction v using T.ind with
  | h k z ns y ps ih =>
  rw [T.wt_mk, T.enc_mk]
  have h1 : ∀ ns : List Str', (ns.map fun n => n.length + 4).sum ≤ 16 * D.bulkR (ns.map encStr) := fun ns => by
    induction ns with
    | nil => simp [D.bulkR]
    | cons n ns ih =>
      simp only [List.map_cons, List.sum_cons, D.bulkR, encStr, D.bulkC, D.bulk] at ih ⊢
      omega
  have h2 : ∀ l : List T, (∀ p ∈ l, p.wt + 4 ≤ 16 * D.bulkC p.enc) → T.wts l ≤ 16 * D.bulkR (l.map T.enc) := fun l h => by
    induction l with
    | nil => simp [D.bulkR, T.wts]
    | cons p r ihr =>
      have a := h p (by simp)
      have b := ihr fun q hq => h q (by simp [hq])
      simp only [List.map_cons, D.bulkR, T.wts] at b ⊢
      omega
  have h1 := h1 ns
  have h2 := h2 ps ih
  simp only [D.bulkC, D.bulk]
  omega
end Go.Zam

namespace Go.Zam
set_option linter.all false
set_option maxRecDepth 100000
set_option maxHeartbeats 2000000

theorem letter_ne {b : UInt8} (h : letterB b = true) : blankB b = false ∧ hashB b = false ∧ digitB b = false ∧ b.toNat < 128 := by
  simp only [letterB, Bool.or_eq_true, Bool.and_eq_true, decide_eq_true_eq] at h
  refine ⟨?_, ?_, ?_, ?_⟩
  · simp only [blankB, Bool.or_eq_false_iff, decide_eq_false_iff_not]; omega
  · simp only [hashB, decide_eq_false_iff_not]; omega
  · simp only [digitB, Bool.and_eq_false_iff, decide_eq_false_iff_not]; omega
  · omega
theorem digit_ne {b : UInt8} (h : digitB b = true) : blankB b = false ∧ hashB b = false ∧ letterB b = false ∧ b.toNat < 128 := by
  simp only [digitB, Bool.and_eq_true, decide_eq_true_eq] at h
  refine ⟨?_, ?_, ?_, ?_⟩
  · simp only [blankB, Bool.or_eq_false_iff, decide_eq_false_iff_not]; omega
  · simp only [hashB, decide_eq_false_iff_not]; omega
  · simp only [letterB, Bool.or_eq_false_iff, Bool.and_eq_false_iff, decide_eq_false_iff_not]; omega
  · omega
theorem word_ascii {b : UInt8} (h : wordB b = true) : b.toNat < 128 := by
  simp only [wordB, Bool.or_eq_true] at h
  rcases h with h | h
  · exact (letter_ne h).2.2.2
  · exact (digit_ne h).2.2.2

/-- what may come behind a token: nothing, what came, or what ends all tokens -/
def Sep (rest r' : Bs) : Prop := r' = [] ∨ ∃ b t, r' = b :: t ∧ ((∃ u, rest = b :: u) ∨ (wordB b = false ∧ b ≠ 61))

theorem runN_split (p : UInt8 → Bool) (s r' : Bs) (h : r' = [] ∨ ∃ b t, r' = b :: t ∧ p b = false) : runN p (s.take (runN p s) ++ r') = runN p s := by
  have hr : ∀ r' : Bs, (r' = [] ∨ ∃ b t, r' = b :: t ∧ p b = false) → runN p r' = 0 := by
    rintro r' (rfl | ⟨b, t, rfl, hb⟩)
    · rfl
    · simp [runN, hb]
  induction s with
  | nil => exact hr r' h
  | cons b s ih =>
    cases hb : p b with
    | false =>
      have e : runN p (b :: s) = 0 := by simp [runN, hb]
      rw [e]
      simpa using hr r' h
    | true =>
      have e : runN p (b :: s) = runN p s + 1 := by simp [runN, hb]
      rw [e, List.take_succ_cons, List.cons_append]
      have e2 : runN p (b :: (s.take (runN p s) ++ r')) = runN p (s.take (runN p s) ++ r') + 1 := by simp [runN, hb]
      rw [e2, ih]

theorem runN_rest (p : UInt8 → Bool) : ∀ (s : Bs), s.drop (runN p s) = [] ∨ ∃ b t, s.drop (runN p s) = b :: t ∧ p b = false
  | [] => .inl (by simp [runN])
  | b :: s => by
    cases hb : p b with
    | false => exact .inr ⟨b, s, by simp [runN, hb], hb⟩
    | true =>
      have e : runN p (b :: s) = runN p s + 1 := by simp [runN, hb]
      rw [e, List.drop_succ_cons]
      exact runN_rest p s

theorem strS_app : ∀ {s : Bs} {k : Nat}, strS s = some k → ∀ r', strS (s.take k ++ r') = some k
  | [], k, h, r' => by simp [strS] at h
  | [b], k, h, r' => by
    simp only [strS] at h
    split at h
    · rename_i hb
      cases h
      subst hb
      cases r' <;> simp [strS]
    · cases h
  | b :: c :: r, k, h, r' => by
    simp only [strS] at h
    split at h
    · rename_i hb
      cases h
      subst hb
      cases r' <;> simp [strS]
    rename_i hb
    split at h
    · rename_i h92
      cases e : strS r with
      | none => simp [e] at h
      | some q =>
        have i := strS_app e r'
        simp [e] at h
        subst h
        have : (b :: c :: r).take (q + 2) ++ r' = b :: c :: (r.take q ++ r') := rfl
        rw [this, strS, if_neg hb, if_pos h92, i]; rfl
    rename_i h92
    split at h
    · cases h
    · rename_i h10
      cases e : strS (c :: r) with
      | none => simp [e] at h
      | some q =>
        have i := strS_app e r'
        have hq := strS_le e
        simp [e] at h
        subst h
        obtain ⟨q', rfl⟩ : ∃ q', q = q' + 1 := ⟨q - 1, by omega⟩
        have e2 : (b :: c :: r).take (q' + 1 + 1) ++ r' = b :: c :: (r.take q' ++ r') := rfl
        have e3 : (c :: r).take (q' + 1) ++ r' = c :: (r.take q' ++ r') := rfl
        rw [e3] at i
        rw [e2, strS, if_neg hb, if_neg h92, if_neg h10, i]; rfl

theorem strV_app {s : Bs} (hs : s ≠ []) (h : (strV s).2 = 0) (r' : Bs) : strV (s.take (strV s).1.length ++ r') = strV s := by
  cases s with
  | nil => exact absurd rfl hs
  | cons b s =>
  unfold strV at h ⊢
  simp only [List.drop_succ_cons, List.drop_zero] at h ⊢
  cases e : strS s with
  | none => rw [e] at h; simp at h
  | some k =>
    have hk := strS_le e
    rw [e] at h
    simp only at h ⊢
    have hlen : ((b :: s).take (k + 1)).length = k + 1 := by simp; omega
    rw [hlen, List.take_succ_cons, List.cons_append, List.drop_succ_cons, List.drop_zero, strS_app e r']
    simp only
    have e2 : (b :: (s.take k ++ r')).take (k + 1) = b :: s.take k := by
      rw [List.take_succ_cons, List.take_append_of_le_length (by simp; omega), List.take_take, Nat.min_self]
    rw [e2]

/-- the sign that a text begins with, by its first two bytes -/
theorem signV_two : ∀ (s : Bs), signV s = match s with
    | [] => []
    | [b] => if b ∈ ([40, 41, 123, 125, 44, 59, 58, 46, 61, 43, 45, 42, 60] : List UInt8) then [b] else []
    | b :: c :: _ => if b = 61 ∧ c = 61 then [61, 61] else if b ∈ ([40, 41, 123, 125, 44, 59, 58, 46, 61, 43, 45, 42, 60] : List UInt8) then [b] else [] := by
  intro s
  match s with
  | [] => rfl
  | [b] =>
    simp only [signV, signsT, List.find?, List.isPrefixOf]
    by_cases h : b ∈ ([40, 41, 123, 125, 44, 59, 58, 46, 61, 43, 45, 42, 60] : List UInt8)
    · simp only [List.mem_cons, List.not_mem_nil, or_false] at h
      rcases h with rfl | rfl | rfl | rfl | rfl | rfl | rfl | rfl | rfl | rfl | rfl | rfl | rfl <;> rfl
    · simp only [List.mem_cons, List.not_mem_nil, or_false, not_or] at h
      obtain ⟨h1, h2, h3, h4, h5, h6, h7, h8, h9, h10, h11, h12, h13⟩ := h
      have g : ∀ x : UInt8, b ≠ x → (x == b) = false := fun x h => by simpa using Ne.symm h
      simp [g _ h1, g _ h2, g _ h3, g _ h4, g _ h5, g _ h6, g _ h7, g _ h8, g _ h9, g _ h10, g _ h11, g _ h12, g _ h13, h1, h2, h3, h4, h5, h6, h7, h8, h9, h10, h11, h12, h13]
  | b :: c :: r =>
    simp only [signV, signsT, List.find?, List.isPrefixOf]
    by_cases h : b ∈ ([40, 41, 123, 125, 44, 59, 58, 46, 61, 43, 45, 42, 60] : List UInt8)
    · by_cases hc : c = 61
      · subst hc
        simp only [List.mem_cons, List.not_mem_nil, or_false] at h
        rcases h with rfl | rfl | rfl | rfl | rfl | rfl | rfl | rfl | rfl | rfl | rfl | rfl | rfl <;> rfl
      · have gc : ((61 : UInt8) == c) = false := by simpa using Ne.symm hc
        simp only [List.mem_cons, List.not_mem_nil, or_false] at h
        rcases h with rfl | rfl | rfl | rfl | rfl | rfl | rfl | rfl | rfl | rfl | rfl | rfl | rfl <;> simp [gc, hc]
    · simp only [List.mem_cons, List.not_mem_nil, or_false, not_or] at h
      obtain ⟨h1, h2, h3, h4, h5, h6, h7, h8, h9, h10, h11, h12, h13⟩ := h
      have g : ∀ x : UInt8, b ≠ x → (x == b) = false := fun x h => by simpa using Ne.symm h
      simp [g _ h1, g _ h2, g _ h3, g _ h4, g _ h5, g _ h6, g _ h7, g _ h8, g _ h9, g _ h10, g _ h11, g _ h12, g _ h13, h1, h2, h3, h4, h5, h6, h7, h8, h9, h10, h11, h12, h13]

theorem signV_1 (b : UInt8) : signV [b] = if b ∈ ([40, 41, 123, 125, 44, 59, 58, 46, 61, 43, 45, 42, 60] : List UInt8) then [b] else [] := signV_two [b]
theorem signV_cc (b c : UInt8) (r : Bs) : signV (b :: c :: r) = if b = 61 ∧ c = 61 then [61, 61] else if b ∈ ([40, 41, 123, 125, 44, 59, 58, 46, 61, 43, 45, 42, 60] : List UInt8) then [b] else [] := signV_two (b :: c :: r)

theorem signV_app {s : Bs} (h : signV s ≠ []) {r' : Bs} (hr : Sep (s.drop (signV s).length) r') : signV (s.take (signV s).length ++ r') = signV s := by
  match s with
  | [] => exact absurd rfl h
  | [b] =>
    rw [signV_1] at h hr ⊢
    by_cases hb : b ∈ ([40, 41, 123, 125, 44, 59, 58, 46, 61, 43, 45, 42, 60] : List UInt8)
    · rw [if_pos hb] at hr ⊢
      simp only [List.length_cons, List.length_nil, List.take_succ_cons, List.take_zero, List.cons_append, List.nil_append, List.drop_succ_cons, List.drop_zero, Nat.zero_add] at hr ⊢
      rcases hr with rfl | ⟨d, t, rfl, ⟨u, hu⟩ | ⟨h1, h2⟩⟩
      · rw [signV_1, if_pos hb]
      · cases hu
      · rw [signV_cc, if_neg (fun q => h2 q.2), if_pos hb]
    · rw [if_neg hb] at h; exact absurd rfl h
  | b :: c :: r =>
    rw [signV_cc] at h hr ⊢
    by_cases h2 : b = 61 ∧ c = 61
    · obtain ⟨rfl, rfl⟩ := h2
      rw [if_pos ⟨rfl, rfl⟩]
      show signV (61 :: 61 :: ([] ++ r')) = _
      rw [signV_cc]; rfl
    · rw [if_neg h2] at h hr ⊢
      by_cases hb : b ∈ ([40, 41, 123, 125, 44, 59, 58, 46, 61, 43, 45, 42, 60] : List UInt8)
      · rw [if_pos hb] at hr ⊢
        simp only [List.length_cons, List.length_nil, List.take_succ_cons, List.take_zero, List.cons_append, List.nil_append, List.drop_succ_cons, List.drop_zero, Nat.zero_add] at hr ⊢
        rcases hr with rfl | ⟨d, t, rfl, ⟨u, hu⟩ | ⟨h3, h4⟩⟩
        · rw [signV_1, if_pos hb]
        · cases hu
          rw [signV_cc, if_neg h2, if_pos hb]
        · rw [signV_cc, if_neg (fun q => h4 q.2), if_pos hb]
      · rw [if_neg hb] at h; exact absurd rfl h

end Go.Zam

namespace Go.Zam
set_option linter.all false
set_option maxRecDepth 100000
set_option maxHeartbeats 2000000

theorem tokN_cons (b : UInt8) (r : Bs) : tokN (b :: r) = if letterB b then
      if (b :: r).take (runN wordB (b :: r)) ∈ keysL then (0, 2, runN wordB (b :: r)) else if 40 < runN wordB (b :: r) then (26, 0, 0) else (0, 1, runN wordB (b :: r))
    else if digitB b then
      if numOk ((b :: r).take (runN wordB (b :: r))) then (0, 3, runN wordB (b :: r)) else (23, 0, 0)
    else if b = 34 then
      if (strV (b :: r)).2 = 0 then (0, 4, (strV (b :: r)).1.length) else (22, 0, 0)
    else if signV (b :: r) = [] then (21, 0, 0) else (0, 5, (signV (b :: r)).length) := rfl

theorem take_app_take (s r' : Bs) (m : Nat) (h : m ≤ s.length) : (s.take m ++ r').take m = s.take m := by
  rw [List.take_append_of_le_length (by simp; omega), List.take_take, Nat.min_self]

/-- a token stays what it is -/
theorem tok_loc {s : Bs} (hs : s ≠ []) (h0 : (tokN s).1 = 0) {r' : Bs} (hr : Sep (s.drop (tokN s).2.2) r') : tokN (s.take (tokN s).2.2 ++ r') = tokN s := by
  cases s with
  | nil => exact absurd rfl hs
  | cons b r =>
  have hm := (tokN_len (b :: r)).2.2.1 h0 hs
  have hml := (tokN_len (b :: r)).1
  have hS : ∀ m, 1 ≤ m → ∃ t, (b :: r).take m ++ r' = b :: t := fun m hm => by
    obtain ⟨m', rfl⟩ : ∃ m', m = m' + 1 := ⟨m - 1, by omega⟩
    exact ⟨r.take m' ++ r', rfl⟩
  have hword : runN wordB (b :: r) = (tokN (b :: r)).2.2 → runN wordB ((b :: r).take (tokN (b :: r)).2.2 ++ r') = (tokN (b :: r)).2.2 := fun e => by
    rw [← e] at hr ⊢
    refine runN_split wordB (b :: r) r' ?_
    rcases hr with rfl | ⟨d, t, rfl, ⟨u, hu⟩ | ⟨h1, h2⟩⟩
    · exact .inl rfl
    · rcases runN_rest wordB (b :: r) with h | ⟨d', t', h, hd⟩
      · rw [h] at hu; cases hu
      · rw [h] at hu; cases hu
        exact .inr ⟨_, t, rfl, hd⟩
    · exact .inr ⟨d, t, rfl, h1⟩
  have hT := tokN_cons b r
  obtain ⟨t, ht⟩ := hS _ hm
  have hT' := tokN_cons b t
  rw [← ht] at hT'
  have htk := take_app_take (b :: r) r' _ hml
  by_cases c1 : letterB b = true
  · rw [if_pos c1] at hT hT'
    have e : runN wordB (b :: r) = (tokN (b :: r)).2.2 := by
      rw [hT] at h0 ⊢
      split at h0
      · rename_i h; rw [if_pos h]
      · rename_i h; rw [if_neg h]; split at h0
        · cases h0
        · rename_i h'; rw [if_neg h']
    have hw := hword e
    rw [hT', hw, htk]
    rw [e] at hT
    exact hT.symm
  rw [if_neg c1] at hT hT'
  by_cases c2 : digitB b = true
  · rw [if_pos c2] at hT hT'
    have e : runN wordB (b :: r) = (tokN (b :: r)).2.2 := by
      rw [hT] at h0 ⊢
      split at h0
      · rename_i h; rw [if_pos h]
      · cases h0
    have hw := hword e
    rw [hT', hw, htk]
    rw [e] at hT
    exact hT.symm
  rw [if_neg c2] at hT hT'
  by_cases c3 : b = 34
  · rw [if_pos c3] at hT hT'
    by_cases c4 : (strV (b :: r)).2 = 0
    · rw [if_pos c4] at hT
      have e : (tokN (b :: r)).2.2 = (strV (b :: r)).1.length := by rw [hT]
      have := strV_app (by simp) c4 r'
      rw [← e] at this
      rw [hT', this, if_pos c4, hT]
    · rw [if_neg c4] at hT
      rw [hT] at h0; cases h0
  rw [if_neg c3] at hT hT'
  by_cases c4 : signV (b :: r) = []
  · rw [if_pos c4] at hT
    rw [hT] at h0; cases h0
  · rw [if_neg c4] at hT
    have e : (tokN (b :: r)).2.2 = (signV (b :: r)).length := by rw [hT]
    have := signV_app c4 (r' := r') (by rw [← e]; exact hr)
    rw [← e] at this
    rw [hT', this, if_neg c4, hT]

theorem lead_app : ∀ (c : Bool) (s : Bs) {b : UInt8} {u : Bs}, s.drop (leadS c s) = b :: u → blankB b = false ∧ hashB b = false ∧ ∀ r' : Bs, moreB blankB r' = false → moreB hashB r' = false → leadS c (s.take (leadS c s) ++ r') = leadS c s
  | c, [], b, u, h => by cases c <;> simp at h
  | false, x :: s, b, u, h => by
    rw [leadS] at h ⊢
    by_cases h1 : blankB x = true
    · rw [if_pos h1] at h ⊢
      rw [List.drop_succ_cons] at h
      obtain ⟨i1, i2, i3⟩ := lead_app false s h
      refine ⟨i1, i2, fun r' q1 q2 => ?_⟩
      rw [List.take_succ_cons, List.cons_append, leadS, if_pos h1, i3 r' q1 q2]
    rw [if_neg h1] at h ⊢
    by_cases h2 : hashB x = true
    · rw [if_pos h2] at h ⊢
      rw [List.drop_succ_cons] at h
      obtain ⟨i1, i2, i3⟩ := lead_app true s h
      refine ⟨i1, i2, fun r' q1 q2 => ?_⟩
      rw [List.take_succ_cons, List.cons_append, leadS, if_neg h1, if_pos h2, i3 r' q1 q2]
    rw [if_neg h2] at h ⊢
    cases h
    exact ⟨by simpa using h1, by simpa using h2, fun r' q1 q2 => lead_none q1 q2⟩
  | true, x :: s, b, u, h => by
    rw [leadS] at h ⊢
    by_cases h1 : noNlB x = true
    · rw [if_pos h1] at h ⊢
      rw [List.drop_succ_cons] at h
      obtain ⟨i1, i2, i3⟩ := lead_app true s h
      refine ⟨i1, i2, fun r' q1 q2 => ?_⟩
      rw [List.take_succ_cons, List.cons_append, leadS, if_pos h1, i3 r' q1 q2]
    · rw [if_neg h1] at h ⊢
      rw [List.drop_succ_cons] at h
      obtain ⟨i1, i2, i3⟩ := lead_app false s h
      refine ⟨i1, i2, fun r' q1 q2 => ?_⟩
      rw [List.take_succ_cons, List.cons_append, leadS, if_neg h1, i3 r' q1 q2]

theorem lead_end (t : Bs) : ∀ (c : Bool) (s : Bs), s.drop (leadS c s) = [] → leadS c (s ++ 10 :: t) = s.length + 1 + leadS false t
  | false, [], _ => by
    have : blankB 10 = true := by decide
    simp [leadS, this]; omega
  | true, [], _ => by
    have : noNlB 10 = false := by decide
    simp [leadS, this]; omega
  | false, x :: s, h => by
    rw [leadS] at h
    by_cases h1 : blankB x = true
    · rw [if_pos h1, List.drop_succ_cons] at h
      rw [List.cons_append, leadS, if_pos h1, lead_end t false s h]; simp; omega
    rw [if_neg h1] at h
    by_cases h2 : hashB x = true
    · rw [if_pos h2, List.drop_succ_cons] at h
      rw [List.cons_append, leadS, if_neg h1, if_pos h2, lead_end t true s h]; simp; omega
    rw [if_neg h2] at h
    cases h
  | true, x :: s, h => by
    rw [leadS] at h
    by_cases h1 : noNlB x = true
    · rw [if_pos h1, List.drop_succ_cons] at h
      rw [List.cons_append, leadS, if_pos h1, lead_end t true s h]; simp; omega
    · rw [if_neg h1, List.drop_succ_cons] at h
      rw [List.cons_append, leadS, if_neg h1, lead_end t false s h]; simp; omega

/-- one token more, whatever follows -/
theorem Toks.more {s : Bs} {n : Nat} {r' : Bs} {l : List Tk} (h : (tokN (s.drop (leadS false s))).1 = 0) (h0 : s.drop (leadS false s) ≠ []) (hr : Sep ((s.drop (leadS false s)).drop (tokN (s.drop (leadS false s))).2.2) r')
    (hl : Toks r' (n + leadS false s + (tokN (s.drop (leadS false s))).2.2) l) :
    Toks (s.take (leadS false s) ++ ((s.drop (leadS false s)).take (tokN (s.drop (leadS false s))).2.2 ++ r')) n (⟨(tokN (s.drop (leadS false s))).2.1, n + leadS false s, s.take (leadS false s), (s.drop (leadS false s)).take (tokN (s.drop (leadS false s))).2.2⟩ :: l) := by
  have hloc := tok_loc h0 h hr
  obtain ⟨m1, m2, m3, m4⟩ := tokN_len (s.drop (leadS false s))
  have hm := m3 h h0
  have hll := lead_le false s
  obtain ⟨b, u, hbu⟩ : ∃ b u, s.drop (leadS false s) = b :: u := by
    cases e : s.drop (leadS false s) with
    | nil => exact absurd e h0
    | cons b u => exact ⟨b, u, rfl⟩
  obtain ⟨g1, g2, g3⟩ := lead_app false s hbu
  have hlen : (s.take (leadS false s)).length = leadS false s := by simp; omega
  have hxl : ((s.drop (leadS false s)).take (tokN (s.drop (leadS false s))).2.2).length = (tokN (s.drop (leadS false s))).2.2 := by simp only [List.length_take]; omega
  have hL := g3 ((s.drop (leadS false s)).take (tokN (s.drop (leadS false s))).2.2 ++ r') (by
      rw [hbu] at hm ⊢
      obtain ⟨m', e⟩ : ∃ m', (tokN (b :: u)).2.2 = m' + 1 := ⟨(tokN (b :: u)).2.2 - 1, by omega⟩
      rw [e]; exact g1) (by
      rw [hbu] at hm ⊢
      obtain ⟨m', e⟩ : ∃ m', (tokN (b :: u)).2.2 = m' + 1 := ⟨(tokN (b :: u)).2.2 - 1, by omega⟩
      rw [e]; exact g2)
  generalize hX : (s.drop (leadS false s)).take (tokN (s.drop (leadS false s))).2.2 = X at *
  generalize hD : s.take (leadS false s) = D at *
  generalize leadS false s = L at *
  have e1 : (D ++ (X ++ r')).drop L = X ++ r' := by rw [← hlen, List.drop_left]
  have e2 : (D ++ (X ++ r')).take L = D := by rw [← hlen, List.take_left]
  generalize hTT : tokN (s.drop L) = T at *
  have e3 : (X ++ r').drop T.2.2 = r' := by rw [← hxl, List.drop_left]
  have e4 : (X ++ r').take T.2.2 = X := by rw [← hxl, List.take_left]
  have := Toks.tok (s := D ++ (X ++ r')) (n := n) (l := l) (by rw [hL, e1, hloc]; exact h) (by
      rw [hL, e1]; intro e; rw [List.append_eq_nil_iff] at e
      rw [e.1] at hxl; simp at hxl; omega) (by rw [hL, e1, hloc, e3]; exact hl)
  rw [hL, e1, hloc, e2, e4] at this
  exact this

theorem Toks.ahead {s : Bs} {n : Nat} {l : List Tk} (h : Toks s n l) : ∀ k, k < l.length → Toks (joinS (l.take k)) n (l.take k ++ [⟨0, n + (joinS (l.take k)).length, [], []⟩]) := by
  have hz : ∀ n, Toks [] n [⟨0, n, [], []⟩] := fun n => by
    have := Toks.fin (s := []) (n := n) rfl rfl
    simpa [leadS] using this
  induction h with
  | @fin s n h1 h2 =>
    intro k hk
    have : k = 0 := by simp at hk; omega
    subst this
    exact hz n
  | @tok s n l h1 h2 h3 ih =>
    intro k hk
    cases k with
    | zero => exact hz n
    | succ k =>
      have hk' : k < l.length := by simpa using hk
      have i := ih k hk'
      have hj := h3.join.1
      have hsep : Sep ((s.drop (leadS false s)).drop (tokN (s.drop (leadS false s))).2.2) (joinS (l.take k)) := by
        rw [← hj]
        have e : joinS l = joinS (l.take k) ++ joinS (l.drop k) := by rw [← joinS_app, List.take_append_drop]
        rw [e]
        cases joinS (l.take k) with
        | nil => exact .inl rfl
        | cons b t => exact .inr ⟨b, t, rfl, .inl ⟨t ++ joinS (l.drop k), rfl⟩⟩
      have := Toks.more h1 h2 hsep i
      have e1 : joinS (⟨(tokN (s.drop (leadS false s))).2.1, n + leadS false s, s.take (leadS false s), (s.drop (leadS false s)).take (tokN (s.drop (leadS false s))).2.2⟩ :: l.take k) = s.take (leadS false s) ++ ((s.drop (leadS false s)).take (tokN (s.drop (leadS false s))).2.2 ++ joinS (l.take k)) := by
        simp [joinS]
      have hl := lead_le false s
      obtain ⟨m1, m2, m3, m4⟩ := tokN_len (s.drop (leadS false s))
      rw [List.take_succ_cons, e1, List.cons_append]
      have e2 : n + (s.take (leadS false s) ++ ((s.drop (leadS false s)).take (tokN (s.drop (leadS false s))).2.2 ++ joinS (l.take k))).length = n + leadS false s + (tokN (s.drop (leadS false s))).2.2 + (joinS (l.take k)).length := by
        simp only [List.length_append, List.length_take]; omega
      rw [e2]
      exact this

def kx (t : Tk) : Int × Bs := (t.k, t.x)

theorem Toks.shift {s : Bs} {n : Nat} {l : List Tk} (h : Toks s n l) : ∀ n', ∃ l', Toks s n' l' ∧ l'.map kx = l.map kx := by
  induction h with
  | fin h1 h2 => exact fun n' => ⟨_, .fin h1 h2, rfl⟩
  | tok h1 h2 h3 ih =>
    intro n'
    obtain ⟨l', i1, i2⟩ := ih _
    exact ⟨_, .tok h1 h2 i1, by simp only [List.map_cons, i2]; rfl⟩

theorem Toks.again {s : Bs} {n : Nat} {a : List Tk} (h : Toks s n a) {t : Bs} {p : Nat} {b : List Tk} (hb : Toks t p b) : ∃ c, Toks (s ++ 10 :: t) n c ∧ c.map kx = (a.map kx).dropLast ++ b.map kx := by
  induction h with
  | @fin s n h1 h2 =>
    have hL := lead_end t false s h2
    have hdr : (s ++ 10 :: t).drop (leadS false (s ++ 10 :: t)) = t.drop (leadS false t) := by
      rw [hL]
      have : s ++ 10 :: t = (s ++ [10]) ++ t := by simp
      rw [this, Nat.add_comm, ← List.drop_drop]
      have e : ((s ++ [10]) ++ t).drop (leadS false t + (s.length + 1)) = t.drop (leadS false t) := by
        rw [Nat.add_comm, ← List.drop_drop, show s.length + 1 = (s ++ [10]).length by simp, List.drop_left]
      rw [List.drop_drop, Nat.add_comm]
      rw [Nat.add_comm] at e
      first | exact e | (rw [Nat.add_comm]; exact e)
    cases hb with
    | fin g1 g2 =>
      exact ⟨_, .fin (by rw [hdr]; exact g1) (by rw [hdr]; exact g2), rfl⟩
    | tok g1 g2 g3 =>
      obtain ⟨l', i1, i2⟩ := g3.shift (n + leadS false (s ++ 10 :: t) + (tokN ((s ++ 10 :: t).drop (leadS false (s ++ 10 :: t)))).2.2)
      refine ⟨_, .tok (by rw [hdr]; exact g1) (by rw [hdr]; exact g2) (by rw [hdr] at i1 ⊢; exact i1), ?_⟩
      simp only [List.map_cons, i2, List.map_nil, List.dropLast_singleton, List.nil_append, kx, hdr]
  | @tok s n l h1 h2 h3 ih =>
    obtain ⟨c, i1, i2⟩ := ih
    have hsep : Sep ((s.drop (leadS false s)).drop (tokN (s.drop (leadS false s))).2.2) ((s.drop (leadS false s)).drop (tokN (s.drop (leadS false s))).2.2 ++ 10 :: t) := by
      cases (s.drop (leadS false s)).drop (tokN (s.drop (leadS false s))).2.2 with
      | nil => exact .inr ⟨10, t, rfl, .inr ⟨by decide, by decide⟩⟩
      | cons d u => exact .inr ⟨d, u ++ 10 :: t, rfl, .inl ⟨u, rfl⟩⟩
    have := Toks.more h1 h2 hsep i1
    rw [← List.append_assoc ((s.drop (leadS false s)).take _), List.take_append_drop, ← List.append_assoc, List.take_append_drop] at this
    refine ⟨_, this, ?_⟩
    have hne : l.map kx ≠ [] := fun e => by
      obtain ⟨t0, j, -⟩ := h3.join.2.1
      have : l = [] := List.map_eq_nil_iff.1 e
      rw [this] at j; simp at j
    rw [List.map_cons, List.map_cons, i2, List.dropLast_cons_of_ne_nil hne]
    rfl

theorem strS_last : ∀ {s : Bs} {k : Nat}, strS s = some k → s[k - 1]? = some 34
  | [], k, h => by simp [strS] at h
  | [b], k, h => by
    simp only [strS] at h
    split at h
    · rename_i hb; cases h; subst hb; rfl
    · cases h
  | b :: c :: r, k, h => by
    simp only [strS] at h
    split at h
    · rename_i hb; cases h; subst hb; rfl
    split at h
    · cases e : strS r with
      | none => simp [e] at h
      | some q =>
        have i := strS_last e
        have hq := strS_le e
        simp [e] at h
        subst h
        obtain ⟨q', rfl⟩ : ∃ q', q = q' + 1 := ⟨q - 1, by omega⟩
        simpa using i
    split at h
    · cases h
    · cases e : strS (c :: r) with
      | none => simp [e] at h
      | some q =>
        have i := strS_last e
        have hq := strS_le e
        simp [e] at h
        subst h
        obtain ⟨q', rfl⟩ : ∃ q', q = q' + 1 := ⟨q - 1, by omega⟩
        simpa using i

theorem takeWhile_all (p : UInt8 → Bool) (s : Bs) : ∀ c ∈ s.take (runN p s), p c = true := by
  induction s with
  | nil => simp
  | cons b s ih =>
    cases hb : p b with
    | false => simp [runN, hb]
    | true =>
      have e : runN p (b :: s) = runN p s + 1 := by simp [runN, hb]
      rw [e, List.take_succ_cons]
      intro c hc
      rcases List.mem_cons.1 hc with rfl | hc
      · exact hb
      · exact ih c hc

/-- a token ends with a byte of its own -/
theorem tok_last {s : Bs} (hs : s ≠ []) (h0 : (tokN s).1 = 0) {b : UInt8} (hb : (s.take (tokN s).2.2).getLast? = some b) : b.toNat < 128 := by
  cases s with
  | nil => exact absurd rfl hs
  | cons x r =>
  have hT := tokN_cons x r
  have hmem := List.mem_of_getLast? hb
  by_cases c1 : letterB x = true
  · rw [if_pos c1] at hT
    have e : runN wordB (x :: r) = (tokN (x :: r)).2.2 := by
      rw [hT] at h0 ⊢
      split at h0
      · rename_i h; rw [if_pos h]
      · rename_i h; rw [if_neg h]; split at h0
        · cases h0
        · rename_i h'; rw [if_neg h']
    rw [← e] at hmem
    exact word_ascii (takeWhile_all wordB _ b hmem)
  rw [if_neg c1] at hT
  by_cases c2 : digitB x = true
  · rw [if_pos c2] at hT
    have e : runN wordB (x :: r) = (tokN (x :: r)).2.2 := by
      rw [hT] at h0 ⊢
      split at h0
      · rename_i h; rw [if_pos h]
      · cases h0
    rw [← e] at hmem
    exact word_ascii (takeWhile_all wordB _ b hmem)
  rw [if_neg c2] at hT
  by_cases c3 : x = 34
  · rw [if_pos c3] at hT
    by_cases c4 : (strV (x :: r)).2 = 0
    · rw [if_pos c4] at hT
      have e : (tokN (x :: r)).2.2 = (strV (x :: r)).1.length := by rw [hT]
      rw [e, strV_take _ c4] at hb
      unfold strV at hb c4
      simp only [List.drop_succ_cons, List.drop_zero] at hb c4
      cases hk : strS r with
      | none => rw [hk] at hb; simp at hb
      | some k =>
        rw [hk] at hb
        have hl := strS_last hk
        have hle := strS_le hk
        simp only at hb
        rw [List.getLast?_eq_getElem?, List.length_take, List.getElem?_take] at hb
        have e1 : min (k + 1) (x :: r).length - 1 = k := by simp; omega
        rw [e1, if_pos (by omega)] at hb
        obtain ⟨k', rfl⟩ : ∃ k', k = k' + 1 := ⟨k - 1, by omega⟩
        simp at hb hl
        rw [hl] at hb
        cases hb
        decide
    · rw [if_neg c4] at hT
      rw [hT] at h0; cases h0
  rw [if_neg c3] at hT
  by_cases c4 : signV (x :: r) = []
  · rw [if_pos c4] at hT
    rw [hT] at h0; cases h0
  · rw [if_neg c4] at hT
    have e : (tokN (x :: r)).2.2 = (signV (x :: r)).length := by rw [hT]
    rw [e, signV_take] at hmem
    have hall : ∀ y ∈ signsT, ∀ c ∈ y, c.toNat < 128 := by decide
    unfold signV at hmem
    cases hf : signsT.find? (fun y => y.isPrefixOf (x :: r)) with
    | none => rw [hf] at hmem; simp at hmem
    | some y =>
      rw [hf] at hmem
      exact hall y (List.mem_of_find?_eq_some hf) b hmem

theorem Toks.last {s : Bs} {n : Nat} {l : List Tk} (h : Toks s n l) : ∀ (k : Nat) (b : UInt8), k < l.length → (joinS (l.take k)).getLast? = some b → b.toNat < 128 := by
  induction h with
  | @fin s n h1 h2 =>
    intro k b hk hb
    have : k = 0 := by simp at hk; omega
    subst this
    simp [joinS] at hb
  | @tok s n l h1 h2 h3 ih =>
    intro k b hk hb
    cases k with
    | zero => simp [joinS] at hb
    | succ k =>
      have e1 : joinS (⟨(tokN (s.drop (leadS false s))).2.1, n + leadS false s, s.take (leadS false s), (s.drop (leadS false s)).take (tokN (s.drop (leadS false s))).2.2⟩ :: l.take k) = s.take (leadS false s) ++ ((s.drop (leadS false s)).take (tokN (s.drop (leadS false s))).2.2 ++ joinS (l.take k)) := by
        simp [joinS]
      rw [List.take_succ_cons, e1, List.getLast?_append, List.getLast?_append] at hb
      cases hJ : (joinS (l.take k)).getLast? with
      | some c =>
        rw [hJ] at hb
        simp at hb
        subst hb
        exact ih k c (by simpa using hk) hJ
      | none =>
        rw [hJ] at hb
        have hm := (tokN_len (s.drop (leadS false s))).2.2.1 h1 h2
        cases hx : ((s.drop (leadS false s)).take (tokN (s.drop (leadS false s))).2.2).getLast? with
        | none =>
          have := List.getLast?_eq_none_iff.1 hx
          have hl := congrArg List.length this
          have := (tokN_len (s.drop (leadS false s))).1
          simp only [List.length_take, List.length_nil] at hl
          omega
        | some c =>
          rw [hx] at hb
          simp at hb
          subst hb
          exact tok_last h2 h1 hx

end Go.Zam

namespace Go.Zam
set_option linter.all false
set_option maxRecDepth 100000
set_option maxHeartbeats 1000000

/-- what ends a word -/
def Ends (r : Bs) : Prop := r = [] ∨ ∃ b t, r = b :: t ∧ wordB b = false ∧ b ≠ 61
/-- a text is lexed as these, whatever comes behind that ends a word -/
def Lx (s : Bs) (K : List (Int × Bs)) : Prop := ∀ (rest : Bs) (n : Nat) (l : List Tk), Ends rest → Toks rest (n + s.length) l → ∃ l1, l1.map kx = K ∧ Toks (s ++ rest) n (l1 ++ l)
/-- the same, whatever comes behind -/
def LxS (s : Bs) (K : List (Int × Bs)) : Prop := ∀ (rest : Bs) (n : Nat) (l : List Tk), Toks rest (n + s.length) l → ∃ l1, l1.map kx = K ∧ Toks (s ++ rest) n (l1 ++ l)
theorem LxS.lx {s : Bs} {K : List (Int × Bs)} (h : LxS s K) : Lx s K := fun rest n l _ => h rest n l
theorem LxS.app {s t : Bs} {K M : List (Int × Bs)} (h : LxS s K) (h' : LxS t M) : LxS (s ++ t) (K ++ M) := fun rest n l hl => by
  obtain ⟨l2, e2, t2⟩ := h' rest (n + s.length) l (by simpa [Nat.add_assoc] using hl)
  obtain ⟨l1, e1, t1⟩ := h (t ++ rest) n (l2 ++ l) t2
  exact ⟨l1 ++ l2, by rw [List.map_append, e1, e2], by simpa using t1⟩
theorem LxS.app' {s t : Bs} {K M : List (Int × Bs)} (h : LxS s K) (h' : Lx t M) : Lx (s ++ t) (K ++ M) := fun rest n l he hl => by
  obtain ⟨l2, e2, t2⟩ := h' rest (n + s.length) l he (by simpa [Nat.add_assoc] using hl)
  obtain ⟨l1, e1, t1⟩ := h (t ++ rest) n (l2 ++ l) t2
  exact ⟨l1 ++ l2, by rw [List.map_append, e1, e2], by simpa using t1⟩
theorem Ends.app {b : UInt8} {t r : Bs} (h : wordB b = false) (h' : b ≠ 61) : Ends (b :: t ++ r) := .inr ⟨b, t ++ r, rfl, h, h'⟩
theorem Lx.app {s : Bs} {b : UInt8} {t : Bs} {K M : List (Int × Bs)} (h : Lx s K) (hb : wordB b = false) (hb' : b ≠ 61) (h' : LxS (b :: t) M) : LxS (s ++ b :: t) (K ++ M) := fun rest n l hl => by
  obtain ⟨l2, e2, t2⟩ := h' rest (n + s.length) l (by simpa [Nat.add_assoc] using hl)
  obtain ⟨l1, e1, t1⟩ := h (b :: t ++ rest) n (l2 ++ l) (Ends.app hb hb') t2
  exact ⟨l1 ++ l2, by rw [List.map_append, e1, e2], by simpa using t1⟩
theorem Lx.app' {s : Bs} {b : UInt8} {t : Bs} {K M : List (Int × Bs)} (h : Lx s K) (hb : wordB b = false) (hb' : b ≠ 61) (h' : Lx (b :: t) M) : Lx (s ++ b :: t) (K ++ M) := fun rest n l he hl => by
  obtain ⟨l2, e2, t2⟩ := h' rest (n + s.length) l he (by simpa [Nat.add_assoc] using hl)
  obtain ⟨l1, e1, t1⟩ := h (b :: t ++ rest) n (l2 ++ l) (Ends.app hb hb') t2
  exact ⟨l1 ++ l2, by rw [List.map_append, e1, e2], by simpa using t1⟩

/-- a token, blanks ahead of it -/
theorem toks_one {lead w rest : Bs} {k : Int} {n : Nat} {l : List Tk} (hlead : lead = [] ∨ lead = [32]) {b : UInt8} {u : Bs} (hw : w = b :: u) (hb : blankB b = false) (hh : hashB b = false) (ht : tokN (w ++ rest) = (0, k, w.length)) (hl : Toks rest (n + (lead ++ w).length) l) :
    ∃ t, kx t = (k, w) ∧ Toks (lead ++ w ++ rest) n (t :: l) := by
  have hls : leadS false (lead ++ w ++ rest) = lead.length := by
    subst hw
    rcases hlead with rfl | rfl
    · simp [leadS, hb, hh]
    · have h32 : blankB 32 = true := by decide
      simp [leadS, hb, hh, h32]
  have hd : (lead ++ w ++ rest).drop (leadS false (lead ++ w ++ rest)) = w ++ rest := by rw [hls, List.append_assoc, List.drop_left]
  have hne : w ++ rest ≠ [] := by rw [hw]; simp
  have := Toks.tok (s := lead ++ w ++ rest) (n := n) (l := l) (by rw [hd, ht]) (by rw [hd]; exact hne) (by
    rw [hd, ht, hls]
    simp only
    rw [List.drop_left]
    simpa [Nat.add_assoc] using hl)
  rw [hd, ht, hls] at this
  simp only at this
  refine ⟨_, ?_, this⟩
  simp [kx]

theorem runN_word {w rest : Bs} (hw : ∀ c ∈ w, wordB c = true) (he : Ends rest) : runN wordB (w ++ rest) = w.length := by
  unfold runN
  rw [List.takeWhile_append_of_pos hw]
  rcases he with rfl | ⟨b, t, rfl, hb, -⟩
  · simp
  · simp [hb]

/-- a word -/
theorem lx_word {lead w : Bs} (hlead : lead = [] ∨ lead = [32]) (hne : ∃ b u, w = b :: u ∧ letterB b = true) (hall : ∀ c ∈ w, wordB c = true) (hlen : w.length ≤ 40) (k : Int) (hk : k = if w ∈ keysL then 2 else 1) : Lx (lead ++ w) [(k, w)] := fun rest n l he hl => by
  obtain ⟨b, u, hw, hb⟩ := hne
  obtain ⟨n1, n2, -, -⟩ := letter_ne hb
  have ht : tokN (w ++ rest) = (0, k, w.length) := by
    have hr := runN_word hall he
    rw [hw, List.cons_append] at hr ⊢
    rw [tokN, hr, if_pos hb]
    have hw' : (b :: (u ++ rest)).take (b :: u).length = b :: u := by rw [← List.cons_append, List.take_left]
    rw [hw', ← hw]
    subst hk
    split
    · rfl
    · rw [if_neg (by omega)]
  obtain ⟨t, h1, h2⟩ := toks_one hlead hw n1 n2 ht hl
  exact ⟨[t], by simp [h1], h2⟩
theorem lx_name {lead w : Bs} (hlead : lead = [] ∨ lead = [32]) (h : isNameB w = true) : Lx (lead ++ w) [(1, w)] := by
  cases w with
  | nil => simp [isNameB] at h
  | cons b r =>
  have hN : isNameB (b :: r) = (decide ((b :: r).length ≤ 40) && !decide ((b :: r) ∈ keysL) && !digitB b && (b :: r).all fun c => letterB c || digitB c) := rfl
  rw [hN] at h
  simp only [Bool.and_eq_true, decide_eq_true_eq, Bool.not_eq_true', decide_eq_false_iff_not] at h
  obtain ⟨⟨⟨h1, h2⟩, h3⟩, h4⟩ := h
  have hall : ∀ c ∈ b :: r, wordB c = true := fun c hc => List.all_eq_true.1 h4 c hc
  have hlb : letterB b = true := by
    have := hall b (by simp)
    simpa [wordB, h3] using this
  exact lx_word hlead ⟨b, r, rfl, hlb⟩ hall h1 1 (by rw [if_neg h2])
/-- a sign -/
theorem lx_sign {lead : Bs} (hlead : lead = [] ∨ lead = [32]) {b : UInt8} (h1 : letterB b = false) (h2 : digitB b = false) (h3 : b ≠ 34) (h4 : b ≠ 61) (h5 : b ∈ ([40, 41, 123, 125, 44, 59, 58, 46, 61, 43, 45, 42, 60] : List UInt8)) (h6 : blankB b = false) (h7 : hashB b = false) : LxS (lead ++ [b]) [(5, [b])] := fun rest n l hl => by
  have hs : signV (b :: rest) = [b] := by
    cases rest with
    | nil => rw [signV_1, if_pos h5]
    | cons c r => rw [signV_cc, if_neg (fun e => h4 e.1), if_pos h5]
  have ht : tokN ([b] ++ rest) = (0, 5, [b].length) := by
    show tokN (b :: rest) = _
    rw [tokN, if_neg (by simp [h1]), if_neg (by simp [h2]), if_neg h3, hs, if_neg (by simp)]
  obtain ⟨t, g1, g2⟩ := toks_one hlead (w := [b]) rfl h6 h7 ht hl
  exact ⟨[t], by simp [g1], g2⟩
end Go.Zam

namespace Go.Zam
set_option linter.all false
set_option maxRecDepth 100000
set_option maxHeartbeats 1000000

abbrev KT := List (Int × Bs)
/-- rows of tokens, a comma between -/
def sepT : List KT → KT
  | [] => []
  | [x] => x
  | x :: y :: r => x ++ (5, [44]) :: sepT (y :: r)
mutual
/-- the tokens of a type's text -/
def T.tk : T → KT
  | .mk k z ns y ps => if k = 1 then [(2, [105, 110, 116])] else if k = 2 then [(2, [115, 116, 114])] else if k = 3 then (5, [123]) :: sepT (List.zipWith (fun n t => (1, n) :: (5, [58]) :: t) ns (T.tks ps)) ++ [(5, [125])]
      else if k = 4 ∧ ps ≠ [] then (2, [102, 110]) :: (5, [40]) :: sepT (T.tks ps).dropLast ++ (5, [41]) :: (5, [58]) :: (T.tks ps).getLastD [] else [(2, [100, 121, 110])]
def T.tks : List T → List KT
  | [] => []
  | p :: r => T.tk p :: T.tks r
end
theorem T.tks_map : ∀ l : List T, T.tks l = l.map T.tk
  | [] => rfl
  | p :: r => by rw [T.tks, T.tks_map r]; rfl
theorem T.tk_mk (k : Int) (z : Bool) (ns : List Str') (y : Bool) (ps : List T) : T.tk (.mk k z ns y ps) = if k = 1 then [(2, [105, 110, 116])] else if k = 2 then [(2, [115, 116, 114])] else if k = 3 then (5, [123]) :: sepT (List.zipWith (fun n t => (1, n) :: (5, [58]) :: t) ns (ps.map T.tk)) ++ [(5, [125])]
      else if k = 4 ∧ ps ≠ [] then (2, [102, 110]) :: (5, [40]) :: sepT (ps.map T.tk).dropLast ++ (5, [41]) :: (5, [58]) :: (ps.map T.tk).getLastD [] else [(2, [100, 121, 110])] := by rw [T.tk, T.tks_map]

/-- lexed as these, with a blank ahead too -/
def LxB (s : Bs) (K : KT) : Prop := ∀ lead, (lead = [] ∨ lead = [32]) → Lx (lead ++ s) K

theorem sg {lead : Bs} (hl : lead = [] ∨ lead = [32]) (b : UInt8) (h : b ∈ ([40, 41, 123, 125, 44, 58] : List UInt8)) : LxS (lead ++ [b]) [(5, [b])] := by
  simp only [List.mem_cons, List.not_mem_nil, or_false] at h
  rcases h with rfl | rfl | rfl | rfl | rfl | rfl <;> exact lx_sign hl (by decide) (by decide) (by decide) (by decide) (by decide) (by decide) (by decide)
theorem sg0 (b : UInt8) (h : b ∈ ([40, 41, 123, 125, 44, 58] : List UInt8)) : LxS [b] [(5, [b])] := sg (.inl rfl) b h

theorem join_lx : ∀ (l : List (Bs × KT)), l ≠ [] → (∀ x ∈ l, LxB x.1 x.2) → LxB (Lib.join (l.map Prod.fst) [44, 32]) (sepT (l.map Prod.snd))
  | [], h, _ => absurd rfl h
  | [x], _, h => fun lead hl => by
    have := h x (by simp) lead hl
    simpa [Lib.join_one, sepT] using this
  | x :: y :: r, _, h => fun lead hl => by
    have hx := h x (by simp) lead hl
    have ih := join_lx (y :: r) (by simp) (fun z hz => h z (by simp [hz])) [32] (.inr rfl)
    have h1 := (sg0 44 (by decide)).app' ih
    have h2 := hx.app' (b := 44) (t := [32] ++ Lib.join ((y :: r).map Prod.fst) [44, 32]) (by decide) (by decide) (by simpa using h1)
    have e : Lib.join ((x :: y :: r).map Prod.fst) [44, 32] = x.1 ++ 44 :: ([32] ++ Lib.join ((y :: r).map Prod.fst) [44, 32]) := by
      simp only [List.map_cons, Lib.join_cons]
      simp [Lib.joinTail]
    rw [e]
    simpa [sepT] using h2

theorem word_fix {lead : Bs} (hl : lead = [] ∨ lead = [32]) (w : Bs) (h : w ∈ ([[105, 110, 116], [115, 116, 114], [100, 121, 110], [102, 110]] : List Bs)) : Lx (lead ++ w) [(2, w)] := by
  simp only [List.mem_cons, List.not_mem_nil, or_false] at h
  rcases h with rfl | rfl | rfl | rfl <;> exact lx_word hl ⟨_, _, rfl, by decide⟩ (by decide) (by decide) 2 (by decide)

theorem T.txt_lx (v : T) (hr : v.st.Rt) : LxB v.txt v.tk := by
  induction v using T.ind with
  | h k z ns y ps ih =>
  intro lead hl
  rw [T.st_mk] at hr
  obtain ⟨⟨r1, r1'⟩, r2, r3, r4, r5, -, r7⟩ := Ty.rt_iff.1 hr
  have ih := fun p hp => ih p hp (r7 _ (List.mem_map.2 ⟨p, hp, rfl⟩))
  rw [T.txt_mk, T.tk_mk]
  by_cases k1 : k = 1
  · rw [if_pos k1, if_pos k1]; exact word_fix hl _ (by simp)
  rw [if_neg k1, if_neg k1]
  by_cases k2 : k = 2
  · rw [if_pos k2, if_pos k2]; exact word_fix hl _ (by simp)
  rw [if_neg k2, if_neg k2]
  by_cases k3 : k = 3
  · rw [if_pos k3, if_pos k3]
    have hlen : ns.length = ps.length := by simpa using r3 k3
    have hitems : ∃ l : List (Bs × KT), l.map Prod.fst = labs ns (ps.map T.txt) ∧ l.map Prod.snd = List.zipWith (fun n t => (1, n) :: (5, [58]) :: t) ns (ps.map T.tk) ∧ ∀ x ∈ l, LxB x.1 x.2 := by
      refine ⟨List.zipWith (fun n p => (n ++ [58, 32] ++ T.txt p, ((1 : Int), n) :: (5, [58]) :: T.tk p)) ns ps, ?_, ?_, ?_⟩
      · simp [labs, List.map_zipWith, List.zipWith_map_right]
      · simp [List.map_zipWith, List.zipWith_map_right]
      · intro x hx lead hl
        obtain ⟨i, hi⟩ := List.getElem?_of_mem hx
        rw [List.getElem?_zipWith] at hi
        cases hn : ns[i]? with
        | none => simp [hn] at hi
        | some n =>
          cases hp : ps[i]? with
          | none => simp [hn, hp] at hi
          | some p =>
            simp [hn, hp] at hi
            subst hi
            have hname := r5 n (List.mem_of_getElem? hn)
            have h1 := lx_name hl hname
            have h2 := (sg0 58 (by decide)).app' (ih p (List.mem_of_getElem? hp) [32] (.inr rfl))
            have h3 := h1.app' (b := 58) (t := [32] ++ T.txt p) (by decide) (by decide) (by simpa using h2)
            simpa using h3
    obtain ⟨l, e1, e2, hl'⟩ := hitems
    rw [← e1, ← e2]
    by_cases hnil : l = []
    · subst hnil
      have := (sg hl 123 (by decide)).app (sg0 125 (by decide))
      simpa [Lib.join_nil, sepT] using this.lx
    · have h1 := (join_lx l hnil hl' [] (.inl rfl)).app (b := 125) (t := []) (by decide) (by decide) (sg0 125 (by decide))
      have := (sg hl 123 (by decide)).app h1
      simpa using this.lx
  rw [if_neg k3, if_neg k3]
  by_cases k4 : k = 4
  case neg =>
    rw [if_neg (fun e => k4 e.1), if_neg (fun e => k4 e.1)]
    exact word_fix hl _ (by simp)
  have hpne : ps ≠ [] := by simpa using (r4 k4).2
  rw [if_pos ⟨k4, hpne⟩, if_pos ⟨k4, hpne⟩]
  obtain ⟨l, p, rfl⟩ : ∃ l p, ps = l ++ [p] := ⟨ps.dropLast, ps.getLast hpne, (List.dropLast_concat_getLast hpne).symm⟩
  have e1 : ((l ++ [p]).map T.txt).dropLast = l.map T.txt := by simp
  have e2 : ((l ++ [p]).map T.txt).getLastD [] = p.txt := by simp
  have e3 : ((l ++ [p]).map T.tk).dropLast = l.map T.tk := by simp
  have e4 : ((l ++ [p]).map T.tk).getLastD [] = p.tk := by simp
  rw [e1, e2, e3, e4]
  have hp := ih p (by simp) [32] (.inr rfl)
  have h1 := (sg0 58 (by decide)).app' hp
  have h2 := (sg0 41 (by decide)).app' h1
  have hfn := word_fix hl [102, 110] (by simp)
  by_cases hnil : l = []
  · subst hnil
    have h3 := (sg0 40 (by decide)).app' h2
    have h4 := hfn.app' (b := 40) (t := [41] ++ ([58] ++ ([32] ++ p.txt))) (by decide) (by decide) (by simpa using h3)
    simpa [Lib.join_nil, sepT] using h4
  · have hit := join_lx (l.map fun q => (q.txt, q.tk)) (by simpa using hnil) (fun x hx => by
      obtain ⟨q, hq, rfl⟩ := List.mem_map.1 hx
      exact ih q (by simp [hq])) [] (.inl rfl)
    have h3 := hit.app' (b := 41) (t := [58] ++ ([32] ++ p.txt)) (by decide) (by decide) (by simpa using h2)
    have h4 := (sg0 40 (by decide)).app' h3
    have h5 := hfn.app' (b := 40) (t := _) (by decide) (by decide) h4
    simp only [List.map_map] at h5
    have f1 : (Prod.fst ∘ fun q : T => (q.txt, q.tk)) = T.txt := rfl
    have f2 : (Prod.snd ∘ fun q : T => (q.txt, q.tk)) = T.tk := rfl
    rw [f1, f2] at h5
    simpa using h5
end Go.Zam

namespace Go.Zam
set_option linter.all false
set_option maxRecDepth 100000
set_option maxHeartbeats 1000000

/-- the same tree; places too, if so asked -/
inductive N.Sm (p : Bool) : N → N → Prop
  | mk {k f t f' t' : Int} {w : Bs} {a a' : Int} {z z' : Bool} {ks ks' : List N} (hp : p = true → f = f' ∧ t = t' ∧ a = a') (hl : ks.length = ks'.length) (hk : ∀ (i : Nat) (x y : N), ks[i]? = some x → ks'[i]? = some y → N.Sm p x y) :
      N.Sm p (.mk k f t w a z ks) (.mk k f' t' w a' z' ks')

theorem N.Sm.refl (p : Bool) : ∀ n : N, N.Sm p n n := by
  refine N.ind fun k f t w a z ks ih => ?_
  refine .mk (fun _ => ⟨rfl, rfl, rfl⟩) rfl fun i x y hx hy => ?_
  rw [hx] at hy
  cases hy
  exact ih x (List.mem_of_getElem? hx)

section
variable {P : Program}

end
end Go.Zam

namespace Go.Zam
set_option linter.all false
set_option maxRecDepth 100000
set_option maxHeartbeats 1000000

/-- one step of it -/
def ppB (L : List Tk) (q : G → Nat → PR) (g : G) (i : Nat) : PR := match g with
    | .file ks => if kdT L i = 0 then .ok (N.new 1 0 i [] 0 ks) i
        else if isT L i kUse then (q .use i).then fun m j => q (.file (ks ++ [m])) j else (q .defn i).then fun m j => q (.file (ks ++ [m])) j
    | .use => wantR L i kUse fun _ => wordR L (i + 1) fun m _ => wantR L (i + 2) [46] fun _ => wordR L (i + 3) fun w _ => wantR L (i + 4) [59] fun _ =>
        .ok (N.new 2 i (i + 5) w (i + 3) [N.new 23 (i + 1) (i + 2) m (i + 1) []]) (i + 5)
    | .defn => wantR L i kDef fun _ => wordR L (i + 1) fun w _ => (q .params (i + 2)).then fun p j => (q .typed j).then fun t j => (q .block j).then fun b j => .ok (N.new 3 i j w (i + 1) [p, t, b]) j
    | .params => wantR L i [40] fun _ => (q (.list .param [41]) (i + 1)).then fun m j => .ok (N.new 4 i j [] 0 m.ks) j
    | .param => wordR L i fun w _ => (q .typed (i + 1)).then fun t j => .ok (N.new 5 i j w i [t]) j
    | .typed => if isT L i [58] then q .kind (i + 1) else .ok N.none i
    | .kind => if isT L i kInt then .ok (N.new 29 i (i + 1) [] 0 []) (i + 1) else if isT L i kStr then .ok (N.new 30 i (i + 1) [] 0 []) (i + 1) else if isT L i kDyn then .ok (N.new 31 i (i + 1) [] 0 []) (i + 1)
        else if isT L i [123] then (q (.list .tfield [125]) (i + 1)).then fun m j => .ok (N.new 32 i j [] 0 m.ks) j
        else wantR L i kFn fun _ => wantR L (i + 1) [40] fun _ => (q (.list .kind [41]) (i + 2)).then fun m j => wantR L j [58] fun _ => (q .kind (j + 1)).then fun t j => .ok (N.new 34 i j [] 0 (m.ks ++ [t])) j
    | .tfield => wordR L i fun w _ => wantR L (i + 1) [58] fun _ => (q .kind (i + 2)).then fun t j => .ok (N.new 33 i j w i [t]) j
    | .block => wantR L i [123] fun _ => (q (.stmts []) (i + 1)).then fun m j => .ok (N.new 6 i j [] 0 m.ks) j
    | .stmts ks => if isT L i [125] then .ok (N.bag ks) (i + 1) else (q .stmt i).then fun m j => q (.stmts (ks ++ [m])) j
    | .stmt => if isT L i kLet then wordR L (i + 1) fun w _ => (q .typed (i + 2)).then fun t j => wantR L j [61] fun _ => (q .expr (j + 1)).then fun x j => wantR L j [59] fun _ => .ok (N.new 7 i (j + 1) w (i + 1) [t, x]) (j + 1)
        else if isT L i kIf then (q .expr (i + 1)).then fun c j => (q .block j).then fun b j =>
          if isT L j kElse then (q .block (j + 1)).then fun o j => .ok (N.new 9 i j [] 0 [c, b, o]) j else .ok (N.new 9 i j [] 0 [c, b, N.none]) j
        else if isT L i kWhile then (q .expr (i + 1)).then fun c j => (q .block j).then fun b j => .ok (N.new 10 i j [] 0 [c, b]) j
        else if isT L i kPrint then (q .expr (i + 1)).then fun x j => wantR L j [59] fun _ => .ok (N.new 11 i (j + 1) [] 0 [x]) (j + 1)
        else if isT L i kReturn then (q .expr (i + 1)).then fun x j => wantR L j [59] fun _ => .ok (N.new 12 i (j + 1) [] 0 [x]) (j + 1)
        else if kdT L i = 1 ∧ isT L (i + 1) [61] = true then (q .expr (i + 2)).then fun x j => wantR L j [59] fun _ => .ok (N.new 8 i (j + 1) (txT L i) i [x]) (j + 1)
        else (q .expr i).then fun x j => wantR L j [59] fun _ => .ok (N.new 13 i (j + 1) [] 0 [x]) (j + 1)
    | .expr => (q .sum i).then fun a j => if isT L j [60] then (q .sum (j + 1)).then fun b j => .ok (N.new 14 a.f j [] 0 [a, b]) j
        else if isT L j [61, 61] then (q .sum (j + 1)).then fun b j => .ok (N.new 15 a.f j [] 0 [a, b]) j else .ok a j
    | .sum => (q .term i).then fun a j => q (.sumL a) j
    | .sumL a => if isT L i [43] then (q .term (i + 1)).then fun b j => q (.sumL (N.new 16 a.f j [] 0 [a, b])) j
        else if isT L i [45] then (q .term (i + 1)).then fun b j => q (.sumL (N.new 17 a.f j [] 0 [a, b])) j else .ok a i
    | .term => (q .post i).then fun a j => q (.termL a) j
    | .termL a => if isT L i [42] then (q .post (i + 1)).then fun b j => q (.termL (N.new 18 a.f j [] 0 [a, b])) j else .ok a i
    | .post => (q .atom i).then fun a j => q (.postL a) j
    | .postL a => if isT L i [46] then wordR L (i + 1) fun w j => q (.postL (N.new 19 a.f j w (i + 1) [a])) j
        else if isT L i [40] then (q (.list .expr [41]) (i + 1)).then fun m j => q (.postL (N.new 20 a.f j [] 0 (a :: m.ks))) j else .ok a i
    | .atom => if kdT L i = 3 then .ok (N.new 21 i (i + 1) (txT L i) i []) (i + 1) else if kdT L i = 4 then .ok (N.new 22 i (i + 1) (txT L i) i []) (i + 1) else if kdT L i = 1 then .ok (N.new 23 i (i + 1) (txT L i) i []) (i + 1)
        else if isT L i kInput then .ok (N.new 24 i (i + 1) [] 0 []) (i + 1)
        else if isT L i [40] then (q .expr (i + 1)).then fun x j => wantR L j [41] fun _ => .ok (N.new 25 i (j + 1) [] 0 [x]) (j + 1)
        else if isT L i [123] then (q (.list .entry [125]) (i + 1)).then fun m j => .ok (N.new 26 i j [] 0 m.ks) j
        else wantR L i kFn fun _ => (q .params (i + 1)).then fun p j => (q .typed j).then fun t j => (q .block j).then fun b j => .ok (N.new 28 i j [] 0 [p, t, b]) j
    | .entry => wordR L i fun w _ => wantR L (i + 1) [58] fun _ => (q .expr (i + 2)).then fun x j => .ok (N.new 27 i j w i [x]) j
    | .list one e => if isT L i e then .ok (N.bag []) (i + 1) else q (.listL one e []) i
    | .listL one e ks => (q one i).then fun x j => if isT L j e then .ok (N.bag (ks ++ [x])) (j + 1) else wantR L j [44] fun j => q (.listL one e (ks ++ [x])) j


theorem pp_succ (L : List Tk) (n : Nat) (g : G) (i : Nat) : pp L (n + 1) g i = ppB L (pp L n) g i := by
  cases g <;> rfl

/-! more time does no harm -/

def PLe (r r' : PR) : Prop := r ≠ .out → r' = r
section
variable {L : List Tk}
theorem PLe.refl (r : PR) : PLe r r := fun _ => rfl
theorem PLe.want {k : Nat} {x : Bs} {h h' : Nat → PR} (hh : PLe (h (k + 1)) (h' (k + 1))) : PLe (wantR L k x h) (wantR L k x h') := by
  unfold wantR
  split
  · exact hh
  · exact .refl _
theorem PLe.word {k : Nat} {h h' : Bs → Nat → PR} (hh : PLe (h (txT L k) (k + 1)) (h' (txT L k) (k + 1))) : PLe (wordR L k h) (wordR L k h') := by
  unfold wordR
  split
  · exact hh
  · exact .refl _
theorem PLe.ite {c : Prop} [Decidable c] {a b a' b' : PR} (ha : PLe a a') (hb : PLe b b') : PLe (if c then a else b) (if c then a' else b') := by
  split
  · exact ha
  · exact hb
theorem PLe.thenG {x x' : PR} {h h' : N → Nat → PR} (hx : PLe x x') (hh : ∀ m j, PLe (h m j) (h' m j)) : PLe (x.then h) (x'.then h') := by
  intro hne
  cases x with
  | out => exact absurd rfl hne
  | bad q => rw [hx (by intro h; cases h)]; rfl
  | ok m j => rw [hx (by intro h; cases h)]; exact hh m j hne
theorem ppB_le {q q' : G → Nat → PR} (hq : ∀ g i, PLe (q g i) (q' g i)) (g : G) (i : Nat) : PLe (ppB L q g i) (ppB L q' g i) := by
  cases g
  all_goals simp only [ppB]
  all_goals
    repeat' first
      | exact PLe.refl _
      | exact hq _ _
      | (refine PLe.want ?_)
      | (refine PLe.word ?_)
      | (refine PLe.ite ?_ ?_)
      | (refine PLe.thenG (hq _ _) fun m j => ?_)
theorem pp_mono1 : ∀ (n : Nat) (g : G) (i : Nat), PLe (pp L n g i) (pp L (n + 1) g i)
  | 0, g, i => fun h => absurd rfl h
  | n + 1, g, i => by
    rw [pp_succ, pp_succ L (n + 1)]
    exact ppB_le (pp_mono1 n) g i
theorem pp_mono {n n' : Nat} (h : n ≤ n') {g : G} {i : Nat} (hne : pp L n g i ≠ .out) : pp L n' g i = pp L n g i := by
  induction h with
  | refl => rfl
  | step _ ih => rw [pp_mono1 _ g i (by rw [ih]; exact hne), ih]
end

/-! the same tokens, elsewhere -/

theorem N.Sm.symm {p : Bool} {n m : N} (h : N.Sm p n m) : N.Sm p m n := by
  induction h with
  | mk hp hl hk ih =>
    refine .mk (fun e => ?_) hl.symm fun i x y hx hy => ih i y x hy hx
    obtain ⟨rfl, rfl, rfl⟩ := hp e
    exact ⟨rfl, rfl, rfl⟩

def SmL (ks ks' : List N) : Prop := ks.length = ks'.length ∧ ∀ (i : Nat) (x y : N), ks[i]? = some x → ks'[i]? = some y → N.Sm false x y
theorem SmL.nil : SmL [] [] := ⟨rfl, by simp⟩
theorem SmL.cons {x y : N} {a b : List N} (h : N.Sm false x y) (hl : SmL a b) : SmL (x :: a) (y :: b) := by
  refine ⟨by simp [hl.1], fun i u v hu hv => ?_⟩
  cases i with
  | zero => simp at hu hv; subst hu; subst hv; exact h
  | succ i => exact hl.2 i u v (by simpa using hu) (by simpa using hv)
theorem SmL.app {a b c d : List N} (h : SmL a b) (k : SmL c d) : SmL (a ++ c) (b ++ d) := by
  refine ⟨by simp [h.1, k.1], fun i u v hu hv => ?_⟩
  by_cases hi : i < a.length
  · rw [List.getElem?_append_left hi] at hu
    rw [List.getElem?_append_left (by rw [← h.1]; exact hi)] at hv
    exact h.2 i u v hu hv
  · rw [List.getElem?_append_right (by omega)] at hu
    rw [List.getElem?_append_right (by rw [← h.1]; omega), ← h.1] at hv
    exact k.2 _ u v hu hv
theorem Sm_new {k f t f' t' : Int} {w : Bs} {a a' : Int} {ks ks' : List N} (h : SmL ks ks') : N.Sm false (.new k f t w a ks) (.new k f' t' w a' ks') := .mk (fun e => by cases e) h.1 h.2
theorem SmL.refl (l : List N) : SmL l l := ⟨rfl, fun i x y hx hy => by rw [hx] at hy; cases hy; exact .refl _ _⟩
theorem Sm_depth {p : Bool} {n m : N} (h : N.Sm p n m) : n.depth = m.depth := by
  induction h with
  | @mk k f t f' t' w a a' z z' ks ks' hp hl hk ih =>
    rw [N.depth_mk, N.depth_mk]
    congr 1
    have : ∀ (l l' : List N), l.length = l'.length → (∀ (i : Nat) (x y : N), l[i]? = some x → l'[i]? = some y → x.depth = y.depth) → N.depths l = N.depths l' := by
      intro l
      induction l with
      | nil => intro l' hl _; cases l' with | nil => rfl | cons _ _ => simp at hl
      | cons x l ihl =>
        intro l' hl h
        cases l' with
        | nil => simp at hl
        | cons y l' =>
          rw [N.depths_cons, N.depths_cons, h 0 x y rfl rfl, ihl l' (by simpa using hl) fun i u v hu hv => h (i + 1) u v (by simpa using hu) (by simpa using hv)]
    exact this ks ks' hl fun i x y hx hy => ih i x y hx hy
theorem SmL.depths {l l' : List N} (h : SmL l l') : N.depths l = N.depths l' := by
  have := Sm_depth (Sm_new (k := 0) (f := 0) (t := 0) (f' := 0) (t' := 0) (w := []) (a := 0) (a' := 0) h)
  simp only [N.new, N.depth_mk] at this
  omega

inductive Gs : G → G → Prop
  | refl (g : G) : Gs g g
  | stmts {a b : List N} (h : SmL a b) : Gs (.stmts a) (.stmts b)
  | sumL {a b : N} (h : N.Sm false a b) : Gs (.sumL a) (.sumL b)
  | termL {a b : N} (h : N.Sm false a b) : Gs (.termL a) (.termL b)
  | postL {a b : N} (h : N.Sm false a b) : Gs (.postL a) (.postL b)
  | listL {o : G} {e : Bs} {a b : List N} (h : SmL a b) : Gs (.listL o e a) (.listL o e b)

def G.look : G → Nat
  | .use | .defn | .block | .params | .stmts _ | .list .. | .listL .. => 0
  | _ => 1
def G.st (g : G) : Nat := if g.strict then 1 else 0
def S3 (L L' : List Tk) (i i' : Nat) : Prop := (∀ x, isT L i x = isT L' i' x) ∧ kdT L i = kdT L' i' ∧ txT L i = txT L' i'

def Rb (d b lo c : Nat) (r r' : PR) : Prop := ∀ m j, r = .ok m j → lo ≤ j ∧ (j + c ≤ b → ∃ m', r' = .ok m' (j + d) ∧ N.Sm false m m')

section
variable {L L' : List Tk} {d b lo c : Nat}
theorem Rb.ok {m m' : N} {j j' : Nat} (hl : lo ≤ j) (hj : j' = j + d) (hm : N.Sm false m m') : Rb d b lo c (.ok m j) (.ok m' j') := by
  rintro m0 j0 h
  cases h
  exact ⟨hl, fun _ => ⟨m', by rw [hj], hm⟩⟩
theorem Rb.want (hs : ∀ i, i < b → S3 L L' i (i + d)) {k k' : Nat} {x : Bs} {h h' : Nat → PR} (hk : k' = k + d) (hlo : lo ≤ k + 1) (hh : Rb d b (k + 1) c (h (k + 1)) (h' (k' + 1))) : Rb d b lo c (wantR L k x h) (wantR L' k' x h') := by
  subst hk
  rintro m j he
  unfold wantR at he
  split at he
  · rename_i e
    obtain ⟨h1, h2⟩ := hh m j he
    refine ⟨by omega, fun hb => ?_⟩
    obtain ⟨m', h3, h4⟩ := h2 hb
    refine ⟨m', ?_, h4⟩
    unfold wantR
    rw [if_pos (by rw [← (hs k (by omega)).1]; exact e)]
    exact h3
  · cases he
theorem Rb.word (hs : ∀ i, i < b → S3 L L' i (i + d)) {k k' : Nat} {h h' : Bs → Nat → PR} (hk : k' = k + d) (hlo : lo ≤ k + 1) (hh : ∀ w, Rb d b (k + 1) c (h w (k + 1)) (h' w (k' + 1))) : Rb d b lo c (wordR L k h) (wordR L' k' h') := by
  subst hk
  rintro m j he
  unfold wordR at he
  split at he
  · rename_i e
    obtain ⟨h1, h2⟩ := hh _ m j he
    refine ⟨by omega, fun hb => ?_⟩
    obtain ⟨m', h3, h4⟩ := h2 hb
    refine ⟨m', ?_, h4⟩
    unfold wordR
    have := hs k (by omega)
    rw [if_pos (by rw [← this.2.1]; exact e), ← this.2.2]
    exact h3
  · cases he
theorem Rb.ifT (hs : ∀ i, i < b → S3 L L' i (i + d)) {k k' : Nat} {x : Bs} {a a' e e' : PR} (hk : k' = k + d) (hkc : k < lo + c) (ha : Rb d b lo c a a') (he : Rb d b lo c e e') : Rb d b lo c (if isT L k x then a else e) (if isT L' k' x then a' else e') := by
  subst hk
  rintro m j h
  have key : k < b → (isT L k x = isT L' (k + d) x) := fun hb => (hs k hb).1 x
  split at h
  · rename_i hx
    obtain ⟨h1, h2⟩ := ha m j h
    refine ⟨h1, fun hb => ?_⟩
    rw [← key (by omega), if_pos hx]
    exact h2 hb
  · rename_i hx
    obtain ⟨h1, h2⟩ := he m j h
    refine ⟨h1, fun hb => ?_⟩
    rw [← key (by omega), if_neg hx]
    exact h2 hb
theorem Rb.ifK (hs : ∀ i, i < b → S3 L L' i (i + d)) {k k' : Nat} {x : Int} {a a' e e' : PR} (hk : k' = k + d) (hkc : k < lo + c) (ha : Rb d b lo c a a') (he : Rb d b lo c e e') : Rb d b lo c (if kdT L k = x then a else e) (if kdT L' k' = x then a' else e') := by
  subst hk
  rintro m j h
  have key : k < b → (kdT L k = kdT L' (k + d)) := fun hb => (hs k hb).2.1
  split at h
  · rename_i hx
    obtain ⟨h1, h2⟩ := ha m j h
    refine ⟨h1, fun hb => ?_⟩
    rw [← key (by omega), if_pos hx]
    exact h2 hb
  · rename_i hx
    obtain ⟨h1, h2⟩ := he m j h
    refine ⟨h1, fun hb => ?_⟩
    rw [← key (by omega), if_neg hx]
    exact h2 hb
theorem Rb.ifS (hs : ∀ i, i < b → S3 L L' i (i + d)) {k k' : Nat} {x : Bs} {a a' e e' : PR} (hk : k' = k + d) (hkc : k + 1 < lo + c) (ha : Rb d b lo c a a') (he : Rb d b lo c e e') : Rb d b lo c (if kdT L k = 1 ∧ isT L (k + 1) x = true then a else e) (if kdT L' k' = 1 ∧ isT L' (k' + 1) x = true then a' else e') := by
  subst hk
  rintro m j h
  have key : k + 1 < b → ((kdT L k = 1 ∧ isT L (k + 1) x = true) ↔ (kdT L' (k + d) = 1 ∧ isT L' (k + d + 1) x = true)) := fun hb => by
    rw [(hs k (by omega)).2.1, (hs (k + 1) hb).1 x, show k + 1 + d = k + d + 1 by omega]
  split at h
  · rename_i hx
    obtain ⟨h1, h2⟩ := ha m j h
    refine ⟨h1, fun hb => ?_⟩
    rw [if_pos ((key (by omega)).1 hx)]
    exact h2 hb
  · rename_i hx
    obtain ⟨h1, h2⟩ := he m j h
    refine ⟨h1, fun hb => ?_⟩
    rw [if_neg (fun hc => hx ((key (by omega)).2 hc))]
    exact h2 hb
theorem Rb.thenG {x x' : PR} {h h' : N → Nat → PR} {lo1 lk : Nat} (hx : Rb d b lo1 lk x x') (hlo : ∀ j, lo1 ≤ j → lo ≤ j + (lk - c)) (hh : ∀ m m' j, lo1 ≤ j → N.Sm false m m' → Rb d b (j + (lk - c)) c (h m j) (h' m' (j + d))) : Rb d b lo c (x.then h) (x'.then h') := by
  rintro m2 j2 he
  cases x with
  | out => cases he
  | bad q => cases he
  | ok m j =>
    obtain ⟨h1, h2⟩ := hx m j rfl
    have he' : h m j = .ok m2 j2 := he
    have h3 : j + (lk - c) ≤ j2 := (hh m m j h1 (.refl _ _) m2 j2 he').1
    refine ⟨Nat.le_trans (hlo j h1) h3, fun hb => ?_⟩
    obtain ⟨m', h4, h5⟩ := h2 (by omega)
    rw [h4]
    exact (hh m m' j h1 h5 m2 j2 he').2 hb
theorem Rb.last {x x' : PR} {lo1 lk : Nat} (hx : Rb d b lo1 lk x x') (hl : lo ≤ lo1) (hc : lk ≤ c) : Rb d b lo c x x' := fun m j h => ⟨Nat.le_trans hl (hx m j h).1, fun hb => (hx m j h).2 (by omega)⟩
theorem Rb.bad {q : Nat} {r : PR} : Rb d b lo c (.bad q) r := fun m j h => by cases h
end

end Go.Zam

namespace Go.Zam
set_option linter.all false
set_option maxRecDepth 100000
set_option maxHeartbeats 1000000

/-- these tokens stand there -/
def At (L : List Tk) (i : Nat) (K : KT) : Prop := ∀ (j : Nat) (x : Int × Bs), K[j]? = some x → (L[i + j]?).map kx = some x
theorem At.hd {L : List Tk} {i : Nat} {x : Int × Bs} {K : KT} (h : At L i (x :: K)) : (L[i]?).map kx = some x := by simpa using h 0 x rfl
theorem At.tl {L : List Tk} {i : Nat} {x : Int × Bs} {K : KT} (h : At L i (x :: K)) : At L (i + 1) K := fun j y hy => by
  have := h (j + 1) y (by simpa using hy)
  rwa [show i + (j + 1) = i + 1 + j by omega] at this
theorem At.left {L : List Tk} {i : Nat} {K M : KT} (h : At L i (K ++ M)) : At L i K := fun j y hy => h j y (by rw [List.getElem?_append_left (List.getElem?_eq_some_iff.1 hy).1]; exact hy)
theorem At.right {L : List Tk} {i : Nat} {K M : KT} (h : At L i (K ++ M)) : At L (i + K.length) M := fun j y hy => by
  have := h (K.length + j) y (by rw [List.getElem?_append_right (by omega)]; simpa using hy)
  rwa [← Nat.add_assoc] at this
theorem At.isT {L : List Tk} {i : Nat} {k : Int} {x : Bs} (h : (L[i]?).map kx = some (k, x)) (y : Bs) : Zam.isT L i y = ((decide (k = 2) || decide (k = 5)) && decide (x = y)) := by
  unfold Zam.isT
  cases e : L[i]? with
  | none => rw [e] at h; cases h
  | some t =>
    rw [e] at h
    simp only [Option.map_some, Option.some.injEq, kx, Prod.mk.injEq] at h
    simp only [h.1, h.2]
theorem At.kd {L : List Tk} {i : Nat} {k : Int} {x : Bs} (h : (L[i]?).map kx = some (k, x)) : kdT L i = k ∧ txT L i = x := by
  unfold kdT txT
  cases e : L[i]? with
  | none => rw [e] at h; cases h
  | some t =>
    rw [e] at h
    simp only [Option.map_some, Option.some.injEq, kx, Prod.mk.injEq] at h
    exact h

/-- what is wanted comes out of these tokens, such as it is -/
def Elem (g : G) (K : KT) (R : N → Prop) : Prop := ∀ (L : List Tk) (i : Nat), At L i K → ∃ (f : Nat) (m : N), (∀ n, f ≤ n → pp L n g i = .ok m (i + K.length)) ∧ R m

theorem listL_elem {g : G} {e : Bs} (he : e ≠ [44]) : ∀ (l : List (KT × (N → Prop))), l ≠ [] → (∀ x ∈ l, Elem g x.1 x.2) → ∀ (L : List Tk) (i : Nat) (ks : List N), At L i (sepT (l.map Prod.fst) ++ [(5, e)]) →
    ∃ (f : Nat) (ms : List N), (∀ n, f ≤ n → pp L n (.listL g e ks) i = .ok (N.bag (ks ++ ms)) (i + (sepT (l.map Prod.fst)).length + 1)) ∧ ms.length = l.length ∧ ∀ (j : Nat) (m : N) (x : KT × (N → Prop)), ms[j]? = some m → l[j]? = some x → x.2 m
  | [], h, _, _, _, _, _ => absurd rfl h
  | [x], _, h, L, i, ks, hat => by
    simp only [List.map_cons, List.map_nil, sepT] at hat ⊢
    obtain ⟨f, m, h1, h2⟩ := h x (by simp) L i hat.left
    have hend := hat.right.hd
    refine ⟨f + 1, [m], fun n hn => ?_, rfl, fun j m' x' h3 h4 => ?_⟩
    · obtain ⟨n, rfl⟩ : ∃ k, n = k + 1 := ⟨n - 1, by omega⟩
      rw [pp]
      rw [h1 n (by omega)]
      simp only [PR.then]
      rw [if_pos (by rw [At.isT hend]; simp)]
    · cases j with
      | zero => simp at h3 h4; subst h3; subst h4; exact h2
      | succ j => simp at h3
  | x :: y :: r, _, h, L, i, ks, hat => by
    simp only [List.map_cons, sepT, List.append_assoc, List.cons_append] at hat ⊢
    obtain ⟨f, m, h1, h2⟩ := h x (by simp) L i hat.left
    have hc := hat.right.hd
    have hrest := hat.right.tl
    obtain ⟨f', ms, g1, g2, g3⟩ := listL_elem he (y :: r) (by simp) (fun z hz => h z (by simp [hz])) L (i + x.1.length + 1) (ks ++ [m]) (by simpa using hrest)
    refine ⟨f + f' + 1, m :: ms, fun n hn => ?_, by simp [g2], fun j m' x' h3 h4 => ?_⟩
    · obtain ⟨n, rfl⟩ : ∃ k, n = k + 1 := ⟨n - 1, by omega⟩
      rw [pp]
      rw [h1 n (by omega)]
      simp only [PR.then]
      rw [if_neg (by rw [At.isT hc]; simpa using fun e' => he e'.symm), wantR, if_pos (by rw [At.isT hc]; simp), g1 n (by omega)]
      simp only [List.map_cons, List.append_assoc, List.singleton_append, List.length_append, List.length_cons]
      congr 1
      omega
    · cases j with
      | zero => simp at h3 h4; subst h3; subst h4; exact h2
      | succ j => exact g3 j m' x' (by simpa using h3) (by simpa using h4)

theorem list_elem {g : G} {e : Bs} (he : e ≠ [44]) (l : List (KT × (N → Prop))) (h : ∀ x ∈ l, Elem g x.1 x.2) (hf : ∀ x ∈ l, ∃ k y r, x.1 = (k, y) :: r ∧ y ≠ e) (L : List Tk) (i : Nat) (hat : At L i (sepT (l.map Prod.fst) ++ [(5, e)])) :
    ∃ (f : Nat) (ms : List N), (∀ n, f ≤ n → pp L n (.list g e) i = .ok (N.bag ms) (i + (sepT (l.map Prod.fst)).length + 1)) ∧ ms.length = l.length ∧ ∀ (j : Nat) (m : N) (x : KT × (N → Prop)), ms[j]? = some m → l[j]? = some x → x.2 m := by
  cases l with
  | nil =>
    simp only [List.map_nil, sepT, List.nil_append] at hat ⊢
    refine ⟨1, [], fun n hn => ?_, rfl, fun j m x h => by simp at h⟩
    obtain ⟨n, rfl⟩ : ∃ k, n = k + 1 := ⟨n - 1, by omega⟩
    rw [pp]
    rw [if_pos (by rw [At.isT hat.hd]; simp)]
    rfl
  | cons x r =>
    obtain ⟨f, ms, h1, h2, h3⟩ := listL_elem he (x :: r) (by simp) h L i [] hat
    obtain ⟨k, y, q, hx, hy⟩ := hf x (by simp)
    have hhd : (L[i]?).map kx = some (k, y) := by
      have : ∃ M, sepT ((x :: r).map Prod.fst) ++ [(5, e)] = (k, y) :: M := by
        cases r with
        | nil => exact ⟨_, by simp [sepT, hx]; rfl⟩
        | cons z r => exact ⟨_, by simp [sepT, hx]; rfl⟩
      obtain ⟨M, hM⟩ := this
      rw [hM] at hat
      exact hat.hd
    refine ⟨f + 1, ms, fun n hn => ?_, h2, h3⟩
    obtain ⟨n, rfl⟩ : ∃ k, n = k + 1 := ⟨n - 1, by omega⟩
    rw [pp]
    rw [if_neg (by rw [At.isT hhd]; simp [hy]), h1 n (by omega)]
    simp
end Go.Zam

namespace Go.Zam
set_option linter.all false
set_option maxRecDepth 100000
open Classical

theorem T.dep_bulk (v : T) : v.dep ≤ D.bulkC v.enc := by
  induction v using T.ind with
  | h k z ns y ps ih =>
  rw [T.dep_mk, T.enc_mk]
  have : T.deps ps ≤ D.bulkR (ps.map T.enc) := T.deps_le.2 fun p hp => Nat.le_trans (ih p hp) (bulkR_mem (List.mem_map_of_mem (f := T.enc) hp))
  simp only [D.bulkC, D.bulk]
  omega

end Go.Zam

namespace Go.Zam
set_option linter.all false
set_option maxRecDepth 100000
set_option maxHeartbeats 1000000
open Classical

theorem recT_inc {ns : List Str'} {us : List T} (hi : Ty.Inc ns) (hl : ns.length = us.length) : recT ns us = (.new 3 ns us, 0) := by
  have hz1 : (ns.zip us).map Prod.fst = ns := List.map_fst_zip (by omega)
  have hz2 : (ns.zip us).map Prod.snd = us := List.map_snd_zip (by omega)
  have hs : ssort cP (ns.zip us) = ns.zip us := ssort_sorted cP_cmp (by
    have := hi.pw
    rw [← hz1, List.pairwise_map] at this
    exact this.imp fun {a b} h => by have : cP a b < 0 := cP_lt.2 h; omega)
  have hd : ¬ Dup (ssort cP (ns.zip us)) := by
    rw [dup_iff, Classical.not_not, hz1]
    exact hi.pw.imp fun {a b} h e => by subst e; rw [bl_irrefl] at h; cases h
  rw [recT, if_pos hl, if_neg hd, hs, hz1, hz2]

/-- a tree tells a type -/
def Tells (v : T) (m : N) : Prop := m.ty.2 = 0 ∧ m.ty.1.st = v.st ∧ m.depth ≤ 2 * v.dep
def TellsF (n : Str') (v : T) (m : N) : Prop := m.w = n ∧ m.fty.2 = 0 ∧ m.fty.1.st = v.st ∧ m.depth ≤ 2 * v.dep + 1

theorem tk_hd (v : T) : ∃ k y r, v.tk = (k, y) :: r ∧ y ≠ [41] := by
  obtain ⟨k, z, ns, y, ps⟩ := v
  rw [T.tk_mk]
  split
  · exact ⟨_, _, _, rfl, by decide⟩
  split
  · exact ⟨_, _, _, rfl, by decide⟩
  split
  · exact ⟨_, _, _, rfl, by decide⟩
  split
  · exact ⟨_, _, _, rfl, by decide⟩
  · exact ⟨_, _, _, rfl, by decide⟩

theorem depths_le {ms : List N} {B : Nat} (h : ∀ m ∈ ms, m.depth ≤ B) : N.depths ms ≤ B := by
  induction ms with
  | nil => simp [N.depths]
  | cons m r ih =>
    rw [N.depths]
    have := h m (by simp)
    have := ih fun x hx => h x (by simp [hx])
    omega

theorem tfield_elem {n : Str'} {v : T} (h : Elem .kind v.tk (Tells v)) : Elem .tfield ((1, n) :: (5, [58]) :: v.tk) (TellsF n v) := fun L i hat => by
  obtain ⟨f, m, h1, h2, h3, h4⟩ := h L (i + 2) hat.tl.tl
  have a1 := hat.hd
  have a2 := hat.tl.hd
  refine ⟨f + 1, N.new 33 i (i + 2 + v.tk.length) n i [m], fun q hq => ?_, rfl, ?_, ?_, ?_⟩
  · obtain ⟨q, rfl⟩ : ∃ k, q = k + 1 := ⟨q - 1, by omega⟩
    rw [pp, wordR, if_pos (At.kd a1).1, wantR, if_pos (by rw [At.isT a2]; simp), h1 q (by omega)]
    simp only [PR.then, (At.kd a1).2, List.length_cons]
    congr 1
    omega
  · rw [N.new, N.fty_one rfl]; exact h2
  · rw [N.new, N.fty_one rfl]; exact h3
  · rw [N.new, N.depth_mk]
    simp only [N.depths]
    omega

theorem kind_elem (v : T) (hr : v.st.Rt) : Elem .kind v.tk (Tells v) := by
  induction v using T.ind with
  | h k z ns y ps ih =>
  intro L i hat
  rw [T.st_mk] at hr
  obtain ⟨⟨r1, r1'⟩, r2, r3, r4, r5, r6, r7⟩ := Ty.rt_iff.1 hr
  have ih := fun p hp => ih p hp (r7 _ (List.mem_map.2 ⟨p, hp, rfl⟩))
  have leaf : ∀ (w : Bs) (q : Int) (u : T), (T.mk k z ns y ps).tk = [(2, w)] → k ≤ 2 → (N.new q i (i + 1) [] 0 []).ty = (u, 0) → u.st = .mk k [] [] → (∀ n, pp L (n + 1) .kind i = .ok (N.new q i (i + 1) [] 0 []) (i + 1)) →
      ∃ (f : Nat) (m : N), (∀ n, f ≤ n → pp L n .kind i = .ok m (i + (T.mk k z ns y ps).tk.length)) ∧ Tells (.mk k z ns y ps) m := fun w q u htk hk hu hst hp => by
    refine ⟨1, N.new q i (i + 1) [] 0 [], fun n hn => ?_, ?_, ?_, ?_⟩
    · obtain ⟨n, rfl⟩ : ∃ k, n = k + 1 := ⟨n - 1, by omega⟩
      rw [hp n, htk]; rfl
    · rw [hu]
    · obtain ⟨e1, e2⟩ := r2 hk
      rw [hu, T.st_mk, e1, e2]; exact hst
    · rw [N.new, N.depth_mk, T.dep_mk]
      simp only [N.depths]
      omega
  by_cases k1 : k = 1
  · have htk : (T.mk k z ns y ps).tk = [(2, kInt)] := by rw [T.tk_mk, if_pos k1]; rfl
    rw [htk] at hat
    exact leaf kInt 29 (T.new 1 [] []) htk (by omega) (leaf_ty _ _).1 (by rw [T.st_new, k1]; rfl) fun n => by
      rw [pp, if_pos (by rw [At.isT hat.hd]; simp)]
  by_cases k2 : k = 2
  · have htk : (T.mk k z ns y ps).tk = [(2, kStr)] := by rw [T.tk_mk, if_neg k1, if_pos k2]; rfl
    rw [htk] at hat
    exact leaf kStr 30 (T.new 2 [] []) htk (by omega) (leaf_ty _ _).2.1 (by rw [T.st_new, k2]; rfl) fun n => by
      rw [pp, if_neg (by rw [At.isT hat.hd]; decide), if_pos (by rw [At.isT hat.hd]; simp)]
  by_cases k3 : k = 3
  · subst k3
    have hlen : ns.length = ps.length := by simpa using r3 rfl
    have htk : (T.mk 3 z ns y ps).tk = (5, [123]) :: (sepT (List.zipWith (fun n t => (1, n) :: (5, [58]) :: t) ns (ps.map T.tk)) ++ [(5, [125])]) := by rw [T.tk_mk, if_neg k1, if_neg k2, if_pos rfl]; rfl
    rw [htk] at hat
    have hl1 : (List.zipWith (fun n p => (((1 : Int), n) :: (5, [58]) :: T.tk p, TellsF n p)) ns ps).map Prod.fst = List.zipWith (fun n t => (1, n) :: (5, [58]) :: t) ns (ps.map T.tk) := by
      simp [List.map_zipWith, List.zipWith_map_right]
    have hget : ∀ (j : Nat) (x : KT × (N → Prop)), (List.zipWith (fun n p => (((1 : Int), n) :: (5, [58]) :: T.tk p, TellsF n p)) ns ps)[j]? = some x → ∃ n p, ns[j]? = some n ∧ ps[j]? = some p ∧ x = (((1 : Int), n) :: (5, [58]) :: T.tk p, TellsF n p) := fun j x hx => by
      rw [List.getElem?_zipWith] at hx
      cases hn : ns[j]? with
      | none => simp [hn] at hx
      | some n =>
        cases hp : ps[j]? with
        | none => simp [hn, hp] at hx
        | some p => simp [hn, hp] at hx; exact ⟨n, p, rfl, rfl, hx.symm⟩
    rw [← hl1] at hat
    obtain ⟨f, ms, h1, h2, h3⟩ := list_elem (g := .tfield) (e := [125]) (by decide) _ (fun x hx => by
      obtain ⟨j, hj⟩ := List.getElem?_of_mem hx
      obtain ⟨n, p, -, hp, rfl⟩ := hget j x hj
      exact tfield_elem (ih p (List.mem_of_getElem? hp))) (fun x hx => by
      obtain ⟨j, hj⟩ := List.getElem?_of_mem hx
      obtain ⟨n, p, hn, -, rfl⟩ := hget j x hj
      refine ⟨_, _, _, rfl, fun e => ?_⟩
      have := r5 n (List.mem_of_getElem? hn)
      rw [e] at this
      exact absurd this (by decide)) L (i + 1) hat.tl
    have hml : ms.length = ns.length := by rw [h2]; simp [hlen]
    have hms : ∀ (j : Nat) (m : N), ms[j]? = some m → ∃ n p, ns[j]? = some n ∧ ps[j]? = some p ∧ TellsF n p m := fun j m hm => by
      have hj := (List.getElem?_eq_some_iff.1 hm).1
      have hjl : j < (List.zipWith (fun n p => (((1 : Int), n) :: (5, [58]) :: T.tk p, TellsF n p)) ns ps).length := by omega
      obtain ⟨n, p, g1, g2, g3⟩ := hget j _ (List.getElem?_eq_getElem hjl)
      have := h3 j m _ hm (List.getElem?_eq_getElem hjl)
      rw [g3] at this
      exact ⟨n, p, g1, g2, this⟩
    have hw : ms.map N.w = ns := by
      refine List.ext_getElem? fun j => ?_
      rw [List.getElem?_map]
      cases hm : ms[j]? with
      | none => rw [List.getElem?_eq_none_iff] at hm; rw [List.getElem?_eq_none (by omega)]; rfl
      | some m => obtain ⟨n, p, g1, -, g3⟩ := hms j m hm; rw [g1]; simp [g3.1]
    have hb : badE (ms.map N.fty) = 0 := badE_zero.2 fun q hq => by
      obtain ⟨m, hm, rfl⟩ := List.mem_map.1 hq
      obtain ⟨j, hj⟩ := List.getElem?_of_mem hm
      obtain ⟨n, p, -, -, g3⟩ := hms j m hj
      exact g3.2.1
    have hst : ((ms.map N.fty).map Prod.fst).map T.st = ps.map T.st := by
      refine List.ext_getElem? fun j => ?_
      simp only [List.getElem?_map]
      cases hm : ms[j]? with
      | none => rw [List.getElem?_eq_none_iff] at hm; rw [List.getElem?_eq_none (by omega)]; rfl
      | some m => obtain ⟨n, p, -, g2, g3⟩ := hms j m hm; rw [g2]; simp [g3.2.2.1]
    have hty : ∀ a b, (N.new 32 a b [] 0 ms).ty = (.new 3 ns ((ms.map N.fty).map Prod.fst), 0) := fun a b => by
      rw [N.new, N.ty_mk, if_neg (by decide), if_neg (by decide), if_neg (by decide), if_pos rfl, if_neg (by rw [hb]; exact fun h => h rfl), hw]
      exact recT_inc r6 (by simp [hml])
    obtain ⟨J, hJ⟩ : ∃ J : Nat, J = i + 1 + (sepT ((List.zipWith (fun n p => (((1 : Int), n) :: (5, [58]) :: T.tk p, TellsF n p)) ns ps).map Prod.fst)).length + 1 := ⟨_, rfl⟩
    rw [← hJ] at h1
    refine ⟨f + 1, N.new 32 i J [] 0 ms, fun n hn => ?_, by rw [hty], ?_, ?_⟩
    · obtain ⟨n, rfl⟩ : ∃ k, n = k + 1 := ⟨n - 1, by omega⟩
      rw [pp, if_neg (by rw [At.isT hat.hd]; decide), if_neg (by rw [At.isT hat.hd]; decide), if_neg (by rw [At.isT hat.hd]; decide), if_pos (by rw [At.isT hat.hd]; simp), h1 n (by omega), htk, ← hl1]
      simp only [PR.then, List.length_cons, List.length_append, List.length_nil]
      have e : J = i + ((sepT ((List.zipWith (fun n p => (((1 : Int), n) :: (5, [58]) :: T.tk p, TellsF n p)) ns ps).map Prod.fst)).length + (0 + 1) + 1) := by omega
      rw [← e]
      rfl
    · rw [hty, T.st_new, T.st_mk, hst]
    · rw [N.new, N.depth_mk, T.dep_mk]
      have : N.depths ms ≤ 2 * T.deps ps + 1 := depths_le fun m hm => by
        obtain ⟨j, hj⟩ := List.getElem?_of_mem hm
        obtain ⟨n, p, -, g2, g3⟩ := hms j m hj
        have := T.deps_le.1 (Nat.le_refl _) p (List.mem_of_getElem? g2)
        have := g3.2.2.2
        omega
      omega
  by_cases k4 : k = 4
  case neg =>
    have k0 : k = 0 := by omega
    have htk : (T.mk k z ns y ps).tk = [(2, kDyn)] := by rw [T.tk_mk, if_neg k1, if_neg k2, if_neg k3, if_neg (fun e => k4 e.1)]; rfl
    rw [htk] at hat
    exact leaf kDyn 31 T.nil htk (by omega) (leaf_ty _ _).2.2 (by rw [show T.nil.st = .mk 0 [] [] from T.st_mk .., k0]) fun n => by
      rw [pp, if_neg (by rw [At.isT hat.hd]; decide), if_neg (by rw [At.isT hat.hd]; decide), if_pos (by rw [At.isT hat.hd]; simp)]
  subst k4
  have hpne : ps ≠ [] := by simpa using (r4 rfl).2
  obtain ⟨l, p, rfl⟩ : ∃ l p, ps = l ++ [p] := ⟨ps.dropLast, ps.getLast hpne, (List.dropLast_concat_getLast hpne).symm⟩
  have hns : ns = [] := (r4 rfl).1
  have htk : (T.mk 4 z ns y (l ++ [p])).tk = (2, kFn) :: (5, [40]) :: ((sepT (l.map T.tk) ++ [(5, [41])]) ++ (5, [58]) :: p.tk) := by
    rw [T.tk_mk, if_neg k1, if_neg k2, if_neg k3, if_pos ⟨rfl, hpne⟩]
    simp [kFn]
  rw [htk] at hat
  have hl1 : (l.map fun q : T => (q.tk, Tells q)).map Prod.fst = l.map T.tk := by simp
  rw [← hl1] at hat
  obtain ⟨f, ms, h1, h2, h3⟩ := list_elem (g := .kind) (e := [41]) (by decide) (l.map fun q : T => (q.tk, Tells q)) (fun x hx => by
    obtain ⟨q, hq, rfl⟩ := List.mem_map.1 hx
    exact ih q (by simp [hq])) (fun x hx => by
    obtain ⟨q, hq, rfl⟩ := List.mem_map.1 hx
    exact tk_hd q) L (i + 2) hat.tl.tl.left
  have hrest := hat.tl.tl.right
  have hll : (sepT ((l.map fun q : T => (q.tk, Tells q)).map Prod.fst) ++ [(5, [41])]).length = (sepT ((l.map fun q : T => (q.tk, Tells q)).map Prod.fst)).length + 1 := by simp
  rw [hll, ← Nat.add_assoc] at hrest
  obtain ⟨J, hJ⟩ : ∃ J : Nat, J = i + 2 + (sepT ((l.map fun q : T => (q.tk, Tells q)).map Prod.fst)).length + 1 := ⟨_, rfl⟩
  have hJ' : i + 1 + 1 + (sepT ((l.map fun q : T => (q.tk, Tells q)).map Prod.fst)).length + 1 = J := by omega
  rw [hJ'] at hrest
  rw [← hJ] at h1
  obtain ⟨f', m, g1, g2, g3, g4⟩ := ih p (by simp) L (J + 1) hrest.tl
  have hml : ms.length = l.length := by rw [h2]; simp
  have hms : ∀ (j : Nat) (m : N), ms[j]? = some m → ∃ q, l[j]? = some q ∧ Tells q m := fun j m hm => by
    have hj := (List.getElem?_eq_some_iff.1 hm).1
    have hjl : j < l.length := by omega
    have := h3 j m (l[j].tk, Tells l[j]) hm (by simp [hjl])
    exact ⟨_, List.getElem?_eq_getElem hjl, this⟩
  have hb : badE ((ms ++ [m]).map N.ty) = 0 := badE_zero.2 fun q hq => by
    obtain ⟨m', hm, rfl⟩ := List.mem_map.1 hq
    rcases List.mem_append.1 hm with hm | hm
    · obtain ⟨j, hj⟩ := List.getElem?_of_mem hm
      obtain ⟨q, -, g⟩ := hms j m' hj
      exact g.1
    · simp at hm; subst hm; exact g2
  have hst : (((ms ++ [m]).map N.ty).map Prod.fst).map T.st = (l ++ [p]).map T.st := by
    simp only [List.map_append, List.map_cons, List.map_nil, g3]
    congr 1
    refine List.ext_getElem? fun j => ?_
    simp only [List.getElem?_map]
    cases hm : ms[j]? with
    | none => rw [List.getElem?_eq_none_iff] at hm; rw [List.getElem?_eq_none (by omega)]; rfl
    | some m => obtain ⟨q, e1, e2⟩ := hms j m hm; rw [e1]; simp [e2.2.1]
  have hty : ∀ a b, (N.new 34 a b [] 0 (ms ++ [m])).ty = (.new 4 [] (((ms ++ [m]).map N.ty).map Prod.fst), 0) := fun a b => by
    rw [N.new, N.ty_mk, if_neg (by decide), if_neg (by decide), if_neg (by decide), if_neg (by decide), if_pos rfl, if_neg (by rw [hb]; exact fun h => h rfl), if_neg (by simp)]
  refine ⟨f + f' + 1, N.new 34 i ((J + 1 + p.tk.length : Nat) : Int) [] 0 (ms ++ [m]), fun n hn => ?_, by rw [hty], ?_, ?_⟩
  · obtain ⟨n, rfl⟩ : ∃ k, n = k + 1 := ⟨n - 1, by omega⟩
    rw [pp, if_neg (by rw [At.isT hat.hd]; decide), if_neg (by rw [At.isT hat.hd]; decide), if_neg (by rw [At.isT hat.hd]; decide), if_neg (by rw [At.isT hat.hd]; decide), wantR, if_pos (by rw [At.isT hat.hd]; simp), wantR, if_pos (by rw [At.isT hat.tl.hd]; simp), h1 n (by omega)]
    simp only [PR.then]
    rw [wantR, if_pos (by rw [At.isT hrest.hd]; simp), g1 n (by omega), htk, ← hl1]
    simp only [PR.then, List.length_cons, List.length_append, List.length_nil]
    have e : J + 1 + p.tk.length = i + ((sepT ((l.map fun q : T => (q.tk, Tells q)).map Prod.fst)).length + (0 + 1) + (p.tk.length + 1) + 1 + 1) := by omega
    rw [← e]
    rfl
  · rw [hty, T.st_new, T.st_mk, hst, hns]
  · rw [N.new, N.depth_mk, T.dep_mk]
    have : N.depths (ms ++ [m]) ≤ 2 * T.deps (l ++ [p]) := depths_le fun m' hm => by
      rcases List.mem_append.1 hm with hm | hm
      · obtain ⟨j, hj⟩ := List.getElem?_of_mem hm
        obtain ⟨q, e1, e2⟩ := hms j m' hj
        have := T.deps_le.1 (Nat.le_refl (T.deps (l ++ [p]))) q (by simp [List.mem_of_getElem? e1])
        have := e2.2.2
        omega
      · simp at hm; subst hm
        have := T.deps_le.1 (Nat.le_refl (T.deps (l ++ [p]))) p (by simp)
        omega
    omega
end Go.Zam

namespace Go.Zam
set_option linter.all false
set_option maxRecDepth 100000
set_option maxHeartbeats 1000000
open Classical

theorem T.dep_st (v : T) : ∀ w : T, v.st = w.st → v.dep = w.dep := by
  induction v using T.ind with
  | h k z ns y ps ih =>
  intro w h
  obtain ⟨k', z', ns', y', ps'⟩ := w
  obtain ⟨-, -, h3⟩ := (T.st_eq ..).1 h
  rw [T.dep_mk, T.dep_mk]
  congr 1
  have hl : ps.length = ps'.length := by have := congrArg List.length h3; simpa using this
  have hg : ∀ (i : Nat) (h1 : i < ps.length) (h2 : i < ps'.length), ps[i].dep = ps'[i].dep := fun i h1 h2 => by
    refine ih _ (List.getElem_mem h1) _ ?_
    have := congrArg (fun l => l[i]?) h3
    simpa [h1, h2] using this
  refine Nat.le_antisymm (T.deps_le.2 fun p hp => ?_) (T.deps_le.2 fun p hp => ?_)
  · obtain ⟨i, hi, rfl⟩ := List.mem_iff_getElem.1 hp
    rw [hg i hi (by omega)]
    exact T.deps_le.1 (Nat.le_refl _) _ (List.getElem_mem _)
  · obtain ⟨i, hi, rfl⟩ := List.mem_iff_getElem.1 hp
    rw [← hg i (by omega) hi]
    exact T.deps_le.1 (Nat.le_refl _) _ (List.getElem_mem _)

theorem mem_join {sep : Bs} {c : UInt8} {xs : List Bs} (h : c ∈ Lib.join xs sep) : c ∈ sep ∨ ∃ x ∈ xs, c ∈ x := by
  cases xs with
  | nil => simp [Lib.join_nil] at h
  | cons x r =>
    rw [Lib.join_cons, Lib.joinTail] at h
    rcases List.mem_append.1 h with h | h
    · exact .inr ⟨x, by simp, h⟩
    · obtain ⟨y, hy, hc⟩ := List.mem_flatten.1 h
      obtain ⟨w, hw, rfl⟩ := List.mem_map.1 hy
      rcases List.mem_append.1 hc with h | h
      · exact .inl h
      · exact .inr ⟨w, by simp [hw], h⟩

theorem name_ascii {n : Bs} (h : isNameB n = true) : ∀ c ∈ n, c.toNat < 128 := fun c hc => by
  cases n with
  | nil => simp at hc
  | cons b r =>
    have hN : isNameB (b :: r) = (decide ((b :: r).length ≤ 40) && !decide ((b :: r) ∈ keysL) && !digitB b && (b :: r).all fun c => letterB c || digitB c) := rfl
    rw [hN] at h
    simp only [Bool.and_eq_true] at h
    have := List.all_eq_true.1 h.2 c hc
    exact word_ascii this

theorem T.txt_ascii (v : T) (hr : v.st.Rt) : ∀ c ∈ v.txt, c.toNat < 128 := by
  induction v using T.ind with
  | h k z ns y ps ih =>
  rw [T.st_mk] at hr
  obtain ⟨⟨r1, r1'⟩, r2, r3, r4, r5, -, r7⟩ := Ty.rt_iff.1 hr
  have ih := fun p hp => ih p hp (r7 _ (List.mem_map.2 ⟨p, hp, rfl⟩))
  have hfix : ∀ w ∈ ([[105, 110, 116], [115, 116, 114], [123], [125], [102, 110, 40], [41, 58, 32], [100, 121, 110], [44, 32], [58, 32]] : List Bs), ∀ c ∈ w, c.toNat < 128 := by decide
  rw [T.txt_mk]
  split
  · exact hfix _ (by simp)
  split
  · exact hfix _ (by simp)
  split
  · intro c hc
    rcases List.mem_append.1 hc with hc | hc
    · rcases List.mem_append.1 hc with hc | hc
      · exact hfix _ (by simp) c hc
      · rcases mem_join hc with hc | ⟨x, hx, hc⟩
        · exact hfix _ (by simp) c hc
        · obtain ⟨i, hi⟩ := List.getElem?_of_mem hx
          unfold labs at hi
          rw [List.getElem?_zipWith] at hi
          cases hn : ns[i]? with
          | none => simp [hn] at hi
          | some n =>
            cases hp : ps[i]? with
            | none => simp [hn, hp] at hi
            | some p =>
              simp only [hn, List.getElem?_map, hp, Option.map_some, Option.some.injEq] at hi
              rw [← hi] at hc
              rcases List.mem_append.1 hc with hc | hc
              · rcases List.mem_append.1 hc with hc | hc
                · exact name_ascii (r5 n (List.mem_of_getElem? hn)) c hc
                · exact hfix _ (by simp) c hc
              · exact ih p (List.mem_of_getElem? hp) c hc
    · exact hfix _ (by simp) c hc
  split
  · rename_i h4
    obtain ⟨l, p, rfl⟩ : ∃ l p, ps = l ++ [p] := ⟨ps.dropLast, ps.getLast h4.2, (List.dropLast_concat_getLast h4.2).symm⟩
    have e1 : ((l ++ [p]).map T.txt).dropLast = l.map T.txt := by simp
    have e2 : ((l ++ [p]).map T.txt).getLastD [] = p.txt := by simp
    rw [e1, e2]
    intro c hc
    rcases List.mem_append.1 hc with hc | hc
    · rcases List.mem_append.1 hc with hc | hc
      · rcases List.mem_append.1 hc with hc | hc
        · exact hfix _ (by simp) c hc
        · rcases mem_join hc with hc | ⟨x, hx, hc⟩
          · exact hfix _ (by simp) c hc
          · obtain ⟨q, hq, rfl⟩ := List.mem_map.1 hx
            exact ih q (by simp [hq]) c hc
      · exact hfix _ (by simp) c hc
    · exact ih p (by simp) c hc
  · exact hfix _ (by simp)

/-- the text of a type that may be is parsed as that type -/
theorem text_back (v : T) (hr : v.st.Rt) (hd : v.dep ≤ 12) (hl : v.txt.length ≤ 16384) (ht : v.tk.length + 1 ≤ 4000) : (typO v.txt).2 = 0 ∧ (typO v.txt).1.st = v.st := by
  have hend : Toks ([] : Bs) (0 + ([] ++ v.txt).length) [⟨0, 0 + ([] ++ v.txt).length, [], []⟩] := by
    have := Toks.fin (s := []) (n := 0 + ([] ++ v.txt).length) rfl rfl
    simpa [leadS] using this
  obtain ⟨l1, e1, t1⟩ := T.txt_lx v hr [] (.inl rfl) [] 0 _ (.inl rfl) hend
  simp only [List.nil_append, List.append_nil] at t1
  have hlen1 : l1.length = v.tk.length := by have := congrArg List.length e1; simpa using this
  obtain ⟨o1, o2⟩ := lexS_ok v.txt
  have hok : (lexS v.txt).2.1 = 0 := o1.2 ⟨hl, Utf.ascii (T.txt_ascii v hr), _, t1, by simp; omega⟩
  have hL := (o2 hok).1.uniq t1
  generalize hLL : (lexS v.txt).1 = L at hL
  have hat : At L 0 v.tk := fun j x hj => by
    simp only [Nat.zero_add]
    rw [hL, List.getElem?_append_left (by rw [hlen1]; exact (List.getElem?_eq_some_iff.1 hj).1), ← List.getElem?_map, e1]
    exact hj
  have hk0 : kdT L v.tk.length = 0 := by
    unfold kdT
    rw [hL, List.getElem?_append_right (by omega)]
    simp [hlen1]
  obtain ⟨f, m, h1, h2, h3, h4⟩ := kind_elem v hr L 0 hat
  have hpp : typeF L = .ok m v.tk.length := by
    have hin := typeF_in L
    unfold typeF at hin ⊢
    have a := pp_mono (L := L) (n := 16 * L.length + 8) (n' := max f (16 * L.length + 8)) (by omega) hin
    rw [← a, h1 _ (by omega), Nat.zero_add]
  have htyo : typeO v.txt = (m, 0) := by
    rw [typeO, if_neg (by rw [hok]; exact fun h => h rfl), hLL, typeP, hpp]
    simp only
    rw [if_pos hk0, if_neg (by omega)]
  have hdep : m.ty.1.dep = v.dep := T.dep_st _ _ h3
  have : typO v.txt = m.ty := by
    rw [typO, htyo, if_neg (by simp)]
    simp only [N.typ]
    rw [if_neg (by rw [h2]; exact fun h => h rfl), if_neg (by rw [hdep]; omega)]
  rw [this]
  exact ⟨h2, h3⟩
end Go.Zam

namespace Go.Zam
set_option linter.all false
set_option maxRecDepth 100000
set_option maxHeartbeats 1000000
open Classical

/-- a measure of the tokens up to a place -/
def SL (L : List Tk) (j : Nat) : Nat := ((L.take j).map fun t => 24 + t.x.length).sum
theorem SL_succ {L : List Tk} {j : Nat} (h : j < L.length) : SL L (j + 1) = SL L j + 24 + (txT L j).length := by
  unfold SL
  rw [List.take_succ_eq_append_getElem h, List.map_append, List.sum_append]
  have : txT L j = L[j].x := by unfold txT; rw [List.getElem?_eq_getElem h]
  simp [this]; omega
theorem SL_step {L : List Tk} {j : Nat} {x : Bs} (h : isT L j x = true) : SL L j + 24 ≤ SL L (j + 1) := by rw [SL_succ (isT_lt h)]; omega

/-- one behind the other, a token between -/
inductive Ch (L : List Tk) (Pm : Nat → N → Nat → Prop) : Nat → List N → Nat → Prop
  | last {i : Nat} {m : N} {k : Nat} (h : Pm i m k) (hk : k < L.length) : Ch L Pm i [m] (k + 1)
  | more {i : Nat} {m : N} {k : Nat} {ms : List N} {j : Nat} (h : Pm i m k) (hk : k < L.length) (r : Ch L Pm (k + 1) ms j) : Ch L Pm i (m :: ms) j

theorem then_ok {r : PR} {h : N → Nat → PR} {m : N} {j : Nat} (e : r.then h = .ok m j) : ∃ a k, r = .ok a k ∧ h a k = .ok m j := by
  cases r with
  | out => cases e
  | bad i => cases e
  | ok a k => exact ⟨a, k, rfl, e⟩
theorem want_ok {L : List Tk} {i : Nat} {x : Bs} {h : Nat → PR} {m : N} {j : Nat} (e : wantR L i x h = .ok m j) : isT L i x = true ∧ h (i + 1) = .ok m j := by
  unfold wantR at e
  split at e
  · rename_i ht; exact ⟨ht, e⟩
  · cases e
theorem word_ok {L : List Tk} {i : Nat} {h : Bs → Nat → PR} {m : N} {j : Nat} (e : wordR L i h = .ok m j) : kdT L i = 1 ∧ h (txT L i) (i + 1) = .ok m j := by
  unfold wordR at e
  split at e
  · rename_i ht; exact ⟨ht, e⟩
  · cases e

theorem listL_inv {L : List Tk} {g : G} {e : Bs} {Pm : Nat → N → Nat → Prop} {B : Nat} (hg : ∀ n, n < B → ∀ i m j, pp L n g i = .ok m j → Pm i m j) : ∀ n, n ≤ B → ∀ i ks b j, pp L n (.listL g e ks) i = .ok b j → ∃ ms, b.ks = ks ++ ms ∧ Ch L Pm i ms j
  | 0, _, i, ks, b, j, h => by rw [pp] at h; cases h
  | n + 1, hn, i, ks, b, j, h => by
    rw [pp] at h
    obtain ⟨m, k, h1, h2⟩ := then_ok h
    have hp := hg n (by omega) i m k h1
    split at h2
    · rename_i he
      cases h2
      exact ⟨[m], rfl, .last hp (isT_lt he)⟩
    · obtain ⟨ht, h3⟩ := want_ok h2
      obtain ⟨ms, e1, e2⟩ := listL_inv hg n (by omega) (k + 1) (ks ++ [m]) b j h3
      exact ⟨m :: ms, by rw [e1]; simp, .more hp (isT_lt ht) e2⟩
theorem list_inv {L : List Tk} {g : G} {e : Bs} {Pm : Nat → N → Nat → Prop} {B : Nat} (hg : ∀ n, n < B → ∀ i m j, pp L n g i = .ok m j → Pm i m j) {n : Nat} (hn : n ≤ B) {i : Nat} {b : N} {j : Nat} (h : pp L n (.list g e) i = .ok b j) : (b.ks = [] ∧ j = i + 1 ∧ i < L.length) ∨ Ch L Pm i b.ks j := by
  cases n with
  | zero => rw [pp] at h; cases h
  | succ n =>
    rw [pp] at h
    split at h
    · rename_i he
      cases h
      exact .inl ⟨rfl, rfl, isT_lt he⟩
    · obtain ⟨ms, e1, e2⟩ := listL_inv hg n (by omega) i [] b j h
      rw [e1]
      exact .inr e2

/-- what a tree that tells a type is to its tokens -/
def QKi (L : List Tk) (i : Nat) (u : T) (j : Nat) : Prop := u.st.Rt ∧ u.tk.length + i ≤ j ∧ u.wt + SL L i ≤ SL L j
def PKi (L : List Tk) (i : Nat) (m : N) (j : Nat) : Prop := m.ty.2 = 0 → QKi L i m.ty.1 j
def PFi (L : List Tk) (i : Nat) (m : N) (j : Nat) : Prop := m.fty.2 = 0 → isNameB m.w = true ∧ m.fty.1.st.Rt ∧ m.fty.1.tk.length + 2 + i ≤ j ∧ m.fty.1.wt + m.w.length + 48 + SL L i ≤ SL L j

theorem ch_kind {L : List Tk} {i : Nat} {ms : List N} {j : Nat} (h : Ch L (PKi L) i ms j) (h0 : ∀ m ∈ ms, m.ty.2 = 0) : (∀ m ∈ ms, m.ty.1.st.Rt) ∧ (ms.map fun m => m.ty.1.tk.length + 1).sum + i ≤ j ∧ (ms.map fun m => m.ty.1.wt + 24).sum + SL L i ≤ SL L j := by
  induction h with
  | last h hk =>
    obtain ⟨a, b, c⟩ := h (h0 _ (by simp))
    have := SL_succ hk
    refine ⟨by simpa using a, ?_, ?_⟩ <;> simp <;> omega
  | more h hk r ih =>
    obtain ⟨a, b, c⟩ := h (h0 _ (by simp))
    obtain ⟨a', b', c'⟩ := ih fun m hm => h0 m (by simp [hm])
    have := SL_succ hk
    refine ⟨fun m hm => ?_, ?_, ?_⟩
    · rcases List.mem_cons.1 hm with rfl | hm
      · exact a
      · exact a' m hm
    · simp only [List.map_cons, List.sum_cons]; omega
    · simp only [List.map_cons, List.sum_cons]; omega
theorem ch_field {L : List Tk} {i : Nat} {ms : List N} {j : Nat} (h : Ch L (PFi L) i ms j) (h0 : ∀ m ∈ ms, m.fty.2 = 0) : (∀ m ∈ ms, isNameB m.w = true ∧ m.fty.1.st.Rt) ∧ (ms.map fun m => m.fty.1.tk.length + 3).sum + i ≤ j ∧ (ms.map fun m => m.fty.1.wt + m.w.length + 72).sum + SL L i ≤ SL L j ∧ ms ≠ [] := by
  induction h with
  | last h hk =>
    obtain ⟨a0, a, b, c⟩ := h (h0 _ (by simp))
    have := SL_succ hk
    refine ⟨by simpa using ⟨a0, a⟩, ?_, ?_, by simp⟩ <;> simp <;> omega
  | more h hk r ih =>
    obtain ⟨a0, a, b, c⟩ := h (h0 _ (by simp))
    obtain ⟨a', b', c', -⟩ := ih fun m hm => h0 m (by simp [hm])
    have := SL_succ hk
    refine ⟨fun m hm => ?_, ?_, ?_, by simp⟩
    · rcases List.mem_cons.1 hm with rfl | hm
      · exact ⟨a0, a⟩
      · exact a' m hm
    · simp only [List.map_cons, List.sum_cons]; omega
    · simp only [List.map_cons, List.sum_cons]; omega

theorem sepT_len : ∀ (l : List KT), (sepT l).length + 1 = (l.map fun K => K.length + 1).sum ∨ l = []
  | [] => .inr rfl
  | [x] => by simp [sepT]
  | x :: y :: r => by
    rcases sepT_len (y :: r) with h | h
    · left
      simp only [sepT, List.length_append, List.length_cons, List.map_cons, List.sum_cons] at h ⊢
      omega
    · cases h
end Go.Zam

namespace Go.Zam
set_option linter.all false
set_option maxRecDepth 100000
set_option maxHeartbeats 1000000
open Classical

theorem T.wts_sum : ∀ l : List T, T.wts l = (l.map fun p => p.wt + 4).sum
  | [] => rfl
  | p :: r => by rw [T.wts, T.wts_sum r, List.map_cons, List.sum_cons]

/-- a record of sorted labels -/
theorem rec_tells {ws : List Str'} {us : List T} (hl : ws.length = us.length) (hw : ∀ w ∈ ws, isNameB w = true) (hu : ∀ u ∈ us, u.st.Rt) (h0 : (recT ws us).2 = 0) (hne : ws ≠ []) :
    (recT ws us).1.st.Rt ∧ (recT ws us).1.tk.length ≤ 1 + ((ws.zip us).map fun x => x.2.tk.length + 3).sum ∧ (recT ws us).1.wt ≤ 16 + ((ws.zip us).map fun x => x.2.wt + x.1.length + 8).sum := by
  unfold recT at h0 ⊢
  rw [if_pos hl] at h0 ⊢
  by_cases hd : Dup (ssort cP (ws.zip us))
  case pos => rw [if_pos hd] at h0; exact absurd h0 (by decide)
  rw [if_neg hd]
  clear h0
  have hp := ssort_perm cP_cmp (ws.zip us)
  have hss := (ssort_spec cP_cmp (ws.zip us)).1
  have hnd := strict_of hss hd
  have hs1 := (hp.map fun x => x.2.tk.length + 3).sum_nat
  have hs2 := (hp.map fun x => x.2.wt + x.1.length + 8).sum_nat
  have hlen := hp.length_eq
  rw [List.length_zip] at hlen
  generalize ssort cP (ws.zip us) = S at *
  rw [hs1, hs2]
  have hSne : S ≠ [] := fun e => by
    have := List.length_pos_iff.2 hne
    rw [e, List.length_nil] at hlen
    omega
  have hback : ∀ x ∈ S, x.1 ∈ ws ∧ x.2 ∈ us := fun x hx => List.of_mem_zip (hp.mem_iff.2 hx)
  simp only
  refine ⟨?_, ?_, ?_⟩
  · rw [T.st_new]
    refine Ty.rt_iff.2 ⟨by decide, by simp, by simp, by simp, ?_, ?_, ?_⟩
    · intro x hx
      obtain ⟨y, hy, rfl⟩ := List.mem_map.1 hx
      exact hw _ (hback y hy).1
    · refine Ty.Inc.of_lt ?_
      have hnd' := List.pairwise_map.1 hnd
      rw [List.pairwise_map]
      have := List.Pairwise.and hss hnd'
      refine this.imp fun {a b} ⟨h1, h2⟩ => cP_lt.1 ?_
      have : cP a b ≠ 0 := fun e => h2 (cP_zero.1 e)
      omega
    · intro q hq
      obtain ⟨p, hp', rfl⟩ := List.mem_map.1 hq
      obtain ⟨y, hy, rfl⟩ := List.mem_map.1 hp'
      exact hu _ (hback y hy).2
  · rw [T.new, T.tk_mk, if_neg (by decide), if_neg (by decide), if_pos rfl]
    have e : List.zipWith (fun n t => ((1 : Int), n) :: (5, [58]) :: t) (S.map Prod.fst) ((S.map Prod.snd).map T.tk) = S.map fun x => (1, x.1) :: (5, [58]) :: x.2.tk := by
      rw [List.map_map, List.zipWith_map, List.zipWith_self]
      rfl
    rw [e]
    rcases sepT_len (S.map fun x : Lt => ((1 : Int), x.1) :: (5, [58]) :: x.2.tk) with h | h
    · rw [List.map_map] at h
      have : ((fun K : KT => K.length + 1) ∘ fun x : Lt => ((1 : Int), x.1) :: (5, [58]) :: x.2.tk) = fun x : Lt => x.2.tk.length + 3 := by funext x; simp
      rw [this] at h
      simp only [List.length_cons, List.length_append, List.length_nil]
      omega
    · exact absurd (List.map_eq_nil_iff.1 h) hSne
  · rw [T.new, T.wt_mk, T.wts_sum, List.map_map, List.map_map]
    have : ∀ S : List Lt, (S.map ((fun n : Str' => n.length + 4) ∘ Prod.fst)).sum + (S.map ((fun p : T => p.wt + 4) ∘ Prod.snd)).sum = (S.map fun x => x.2.wt + x.1.length + 8).sum := fun S => by
      induction S with
      | nil => rfl
      | cons x r ih =>
        simp only [List.map_cons, List.sum_cons, Function.comp_apply] at ih ⊢
        omega
    have := this S
    omega
end Go.Zam

namespace Go.Zam
set_option linter.all false
set_option maxRecDepth 100000
set_option maxHeartbeats 1000000
open Classical

theorem tk_one {q : Int} (h : q = 0 ∨ q = 1 ∨ q = 2) : (T.new q [] []).tk.length = 1 ∧ (T.new q [] []).wt = 16 ∧ (T.new q [] []).st.Rt := by
  rcases h with rfl | rfl | rfl
  · exact ⟨rfl, rfl, by rw [T.st_new]; exact Ty.rt0⟩
  · exact ⟨rfl, rfl, by rw [T.st_new]; exact Ty.rt1⟩
  · exact ⟨rfl, rfl, by rw [T.st_new]; exact Ty.rt2⟩

theorem sum_mono {α : Type} {l : List α} {f g : α → Nat} (h : ∀ x ∈ l, f x ≤ g x) : (l.map f).sum ≤ (l.map g).sum := sum_le h

theorem kind_inv {L : List Tk} (hN : ∀ i, kdT L i = 1 → isNameB (txT L i) = true) : ∀ (n : Nat) (i : Nat) (m : N) (j : Nat), pp L n .kind i = .ok m j → PKi L i m j := by
  intro n
  induction n using Nat.strongRecOn with
  | ind n ih =>
  intro i m j h
  cases n with
  | zero => rw [pp] at h; cases h
  | succ n =>
  have leaf : ∀ (q : Int) (u : T) (x : Bs) (v : Int), isT L i x = true → m = N.new q i (i + 1) [] 0 [] → j = i + 1 → (N.new q i (i + 1) [] 0 []).ty = (u, 0) → u = T.new v [] [] → (v = 0 ∨ v = 1 ∨ v = 2) → PKi L i m j := fun q u x v ht hm hj hty hu hv => by
    subst hm; subst hj; subst hu
    intro _
    rw [hty]
    obtain ⟨a, b, c⟩ := tk_one hv
    have := SL_step ht
    exact ⟨c, by rw [a]; omega, by rw [b]; omega⟩
  rw [pp] at h
  split at h
  · rename_i ht; cases h; exact leaf 29 _ _ 1 ht rfl rfl (leaf_ty _ _).1 rfl (by simp)
  split at h
  · rename_i ht; cases h; exact leaf 30 _ _ 2 ht rfl rfl (leaf_ty _ _).2.1 rfl (by simp)
  split at h
  · rename_i ht; cases h; exact leaf 31 _ _ 0 ht rfl rfl (leaf_ty _ _).2.2 rfl (by simp)
  split at h
  · rename_i ht
    obtain ⟨b, k, h1, h2⟩ := then_ok h
    cases h2
    have hf : ∀ n', n' < n → ∀ i m j, pp L n' .tfield i = .ok m j → PFi L i m j := fun n' hn' i m j h => by
      cases n' with
      | zero => rw [pp] at h; cases h
      | succ n' =>
        rw [pp] at h
        obtain ⟨a1, h⟩ := word_ok h
        obtain ⟨a2, h⟩ := want_ok h
        obtain ⟨t, k, h1, h2⟩ := then_ok h
        cases h2
        have hk := ih n' (by omega) (i + 2) t j h1
        intro h0
        have e : (N.new 33 (i : Int) (j : Int) (txT L i) (i : Int) [t]).fty = t.ty := by rw [N.new, N.fty_one rfl]
        rw [e] at h0 ⊢
        obtain ⟨q1, q2, q3⟩ := hk h0
        have hi : i < L.length := kdT_lt (by rw [a1]; decide)
        have s1 := SL_succ hi
        have s2 := SL_step a2
        refine ⟨hN i a1, q1, by omega, ?_⟩
        show t.ty.1.wt + (txT L i).length + 48 + SL L i ≤ SL L j
        have : SL L (i + 1 + 1) = SL L (i + 2) := rfl
        omega
    intro h0
    have hs := SL_step ht
    have hty := N.ty_mk 32 i j [] 0 b.ks.isEmpty b.ks
    rw [if_neg (by decide), if_neg (by decide), if_neg (by decide), if_pos rfl] at hty
    have hty : (N.new 32 (i : Int) (j : Int) [] 0 b.ks).ty = _ := hty
    rw [hty] at h0 ⊢
    by_cases hb : badE (b.ks.map N.fty) = 0
    case neg => rw [if_pos hb] at h0; exact absurd h0 hb
    rw [if_neg (by rw [hb]; exact fun h => h rfl)] at h0 ⊢
    have h00 : ∀ m ∈ b.ks, m.fty.2 = 0 := fun m hm => badE_zero.1 hb _ (List.mem_map_of_mem hm)
    rcases list_inv hf (Nat.le_refl n) h1 with ⟨e1, e2, e3⟩ | hch
    · rw [e1]
      have hr : recT (([] : List N).map N.w) ((([] : List N).map N.fty).map Prod.fst) = (T.new 3 [] [], 0) := recT_inc (fun i x y hx => by simp at hx) rfl
      rw [hr]
      have s3 := SL_succ e3
      refine ⟨?_, ?_, ?_⟩
      · rw [T.st_new]
        exact Ty.rt_iff.2 ⟨by decide, by simp, by simp, by simp, by simp, fun i x y hx => by simp at hx, by simp⟩
      · have : (T.new 3 [] []).tk.length = 2 := rfl
        show (T.new 3 [] []).tk.length + i ≤ j
        omega
      · have : (T.new 3 [] []).wt = 16 := rfl
        show (T.new 3 [] []).wt + SL L i ≤ SL L j
        rw [e2]
        omega
    · obtain ⟨c1, c2, c3, c4⟩ := ch_field hch h00
      generalize b.ks = ms at *
      obtain ⟨t1, t2, t3⟩ := rec_tells (ws := ms.map N.w) (us := (ms.map N.fty).map Prod.fst) (by simp) (fun w hw => by
        obtain ⟨m, hm, rfl⟩ := List.mem_map.1 hw
        exact (c1 m hm).1) (fun u hu => by
        obtain ⟨y, hy, rfl⟩ := List.mem_map.1 hu
        obtain ⟨m, hm, rfl⟩ := List.mem_map.1 hy
        exact (c1 m hm).2) h0 (by simpa using c4)
      have hz : (ms.map N.w).zip ((ms.map N.fty).map Prod.fst) = ms.map fun m => (m.w, m.fty.1) := by
        rw [List.map_map, List.zip_map', ]
        rfl
      rw [hz] at t2 t3
      have g1 : ((ms.map fun m => (m.w, m.fty.1)).map fun x : Lt => x.2.tk.length + 3).sum = (ms.map fun m => m.fty.1.tk.length + 3).sum := by rw [List.map_map]; rfl
      have g2 : ((ms.map fun m => (m.w, m.fty.1)).map fun x : Lt => x.2.wt + x.1.length + 8).sum ≤ (ms.map fun m => m.fty.1.wt + m.w.length + 72).sum := by rw [List.map_map]; exact sum_mono fun m _ => by simp
      have u2 := Nat.le_trans t2 (Nat.add_le_add_left (Nat.le_of_eq g1) 1)
      have u3 := Nat.le_trans t3 (Nat.add_le_add_left g2 16)
      exact ⟨t1, by omega, by omega⟩
  · obtain ⟨a1, h⟩ := want_ok h
    obtain ⟨a2, h⟩ := want_ok h
    obtain ⟨b, k, h1, h⟩ := then_ok h
    obtain ⟨a3, h⟩ := want_ok h
    obtain ⟨t, j', h2, h3⟩ := then_ok h
    cases h3
    have hk := ih n (by omega) (k + 1) t j h2
    intro h0
    have s1 := SL_step a1
    have s2 := SL_step a2
    have s3 := SL_step a3
    have hty := N.ty_mk 34 i j [] 0 (b.ks ++ [t]).isEmpty (b.ks ++ [t])
    rw [if_neg (by decide), if_neg (by decide), if_neg (by decide), if_neg (by decide), if_pos rfl] at hty
    have hty : (N.new 34 (i : Int) (j : Int) [] 0 (b.ks ++ [t])).ty = _ := hty
    rw [hty] at h0 ⊢
    by_cases hb : badE ((b.ks ++ [t]).map N.ty) = 0
    case neg => rw [if_pos hb] at h0; exact absurd h0 hb
    rw [if_neg (by rw [hb]; exact fun h => h rfl), if_neg (by simp)]
    have h00 : ∀ m ∈ b.ks ++ [t], m.ty.2 = 0 := fun m hm => badE_zero.1 hb _ (List.mem_map_of_mem hm)
    obtain ⟨q1, q2, q3⟩ := hk (h00 t (by simp))
    have hlist : (∀ m ∈ b.ks, m.ty.1.st.Rt) ∧ ((b.ks = [] ∧ k = i + 3 ∧ i + 2 < L.length) ∨ (b.ks ≠ [] ∧ (b.ks.map fun m => m.ty.1.tk.length + 1).sum + (i + 2) ≤ k ∧ (b.ks.map fun m => m.ty.1.wt + 24).sum + SL L (i + 2) ≤ SL L k)) := by
      rcases list_inv (g := .kind) (Pm := PKi L) (fun n' hn' i m j h => ih n' (by omega) i m j h) (Nat.le_refl n) h1 with ⟨e1, e2, e3⟩ | hch
      · rw [e1]; exact ⟨by simp, .inl ⟨rfl, by omega, e3⟩⟩
      · have hne : b.ks ≠ [] := by intro e; rw [e] at hch; cases hch
        obtain ⟨c1, c2, c3⟩ := ch_kind hch fun m hm => h00 m (by simp [hm])
        exact ⟨c1, .inr ⟨hne, c2, c3⟩⟩
    obtain ⟨l1, l2⟩ := hlist
    generalize b.ks = ms at *
    have e1 : ((ms ++ [t]).map N.ty).map Prod.fst = (ms.map fun m => m.ty.1) ++ [t.ty.1] := by simp
    rw [e1]
    have htk : (T.new 4 [] ((ms.map fun m => m.ty.1) ++ [t.ty.1])).tk.length = 4 + (sepT ((ms.map fun m => m.ty.1).map T.tk)).length + t.ty.1.tk.length := by
      rw [T.new, T.tk_mk, if_neg (by decide), if_neg (by decide), if_neg (by decide), if_pos ⟨rfl, by simp⟩]
      simp
      omega
    have hwt : (T.new 4 [] ((ms.map fun m => m.ty.1) ++ [t.ty.1])).wt = 16 + (ms.map fun m => m.ty.1.wt + 4).sum + (t.ty.1.wt + 4) := by
      rw [T.new, T.wt_mk, T.wts_sum]
      simp [Function.comp_def]
      omega
    refine ⟨?_, ?_, ?_⟩
    · rw [T.st_new]
      refine Ty.rt_iff.2 ⟨by decide, by simp, by simp, by simp, by simp, fun i x y hx => by simp at hx, fun q hq => ?_⟩
      obtain ⟨u, hu, rfl⟩ := List.mem_map.1 hq
      rcases List.mem_append.1 hu with hu | hu
      · obtain ⟨m, hm, rfl⟩ := List.mem_map.1 hu
        exact l1 m hm
      · simp at hu; subst hu; exact q1
    · show (T.new 4 [] ((ms.map fun m => m.ty.1) ++ [t.ty.1])).tk.length + i ≤ j
      rw [htk]
      rcases l2 with ⟨rfl, e2, -⟩ | ⟨hne, c2, -⟩
      · simp [sepT]; omega
      · rcases sepT_len ((ms.map fun m => m.ty.1).map T.tk) with g | g
        · rw [List.map_map, List.map_map] at g
          have : (ms.map ((fun K : KT => K.length + 1) ∘ (T.tk ∘ fun m => m.ty.1))).sum = (ms.map fun m => m.ty.1.tk.length + 1).sum := rfl
          rw [this] at g
          rw [List.map_map]
          omega
        · simp at g; exact absurd g hne
    · show (T.new 4 [] ((ms.map fun m => m.ty.1) ++ [t.ty.1])).wt + SL L i ≤ SL L j
      rw [hwt]
      have e2 : SL L (i + 1 + 1) = SL L (i + 2) := rfl
      rcases l2 with ⟨rfl, rfl, e3⟩ | ⟨hne, -, c3⟩
      · have := SL_succ e3
        have : SL L (i + 2 + 1) = SL L (i + 3) := rfl
        simp
        omega
      · have : (ms.map fun m => m.ty.1.wt + 4).sum ≤ (ms.map fun m => m.ty.1.wt + 24).sum := sum_mono fun m _ => by omega
        omega
end Go.Zam

namespace Go.Zam
set_option linter.all false
set_option maxRecDepth 100000

end Go.Zam

namespace Go.Zam
set_option linter.all false
set_option maxRecDepth 100000
set_option maxHeartbeats 1000000

/-- what comes behind a place -/
def AdvE (L : List Tk) (i : Nat) (s : Bool) : PR → Prop
  | .ok _ j => i ≤ j ∧ (s = true → i < j) ∧ (i < j → j < L.length)
  | _ => True

section
variable {L : List Tk}

theorem AdvE.ok {i j : Nat} {s : Bool} {m : N} (h1 : i ≤ j) (h2 : s = true → i < j) (h3 : i < j → j < L.length) : AdvE L i s (.ok m j) := ⟨h1, h2, h3⟩
theorem AdvE.bad {i j : Nat} {s : Bool} : AdvE L i s (.bad j) := trivial
theorem AdvE.want (hE : EndsL L) {i k : Nat} {s : Bool} {x : Bs} {h : Nat → PR} (hh : k + 1 < L.length → AdvE L i s (h (k + 1))) : AdvE L i s (wantR L k x h) := by
  unfold wantR
  split
  · rename_i e; exact hh (isT_ltE hE e)
  · trivial
theorem AdvE.word (hE : EndsL L) {i k : Nat} {s : Bool} {h : Bs → Nat → PR} (hh : k + 1 < L.length → AdvE L i s (h (txT L k) (k + 1))) : AdvE L i s (wordR L k h) := by
  unfold wordR
  split
  · rename_i e; exact hh (kdT_ltE hE (by omega))
  · trivial
theorem AdvE.ifT (hE : EndsL L) {i k : Nat} {s : Bool} {x : Bs} {a b : PR} (ha : k + 1 < L.length → AdvE L i s a) (hb : AdvE L i s b) : AdvE L i s (if isT L k x then a else b) := by
  split
  · rename_i e; exact ha (isT_ltE hE e)
  · exact hb
theorem AdvE.ifK (hE : EndsL L) {i k : Nat} {s : Bool} {x : Int} {a b : PR} (hx : x ≠ 0) (ha : k + 1 < L.length → AdvE L i s a) (hb : AdvE L i s b) : AdvE L i s (if kdT L k = x then a else b) := by
  split
  · rename_i e; exact ha (kdT_ltE hE (by omega))
  · exact hb
theorem AdvE.if0 {i k : Nat} {s : Bool} {a b : PR} (ha : AdvE L i s a) (hb : AdvE L i s b) : AdvE L i s (if kdT L k = 0 then a else b) := by
  split
  · exact ha
  · exact hb
theorem AdvE.ifS (hE : EndsL L) {i k : Nat} {s : Bool} {x : Bs} {a b : PR} (ha : k + 2 < L.length → AdvE L i s a) (hb : AdvE L i s b) : AdvE L i s (if kdT L k = 1 ∧ isT L (k + 1) x = true then a else b) := by
  split
  · rename_i e; exact ha (by have := isT_ltE hE e.2; omega)
  · exact hb
theorem AdvE.last {n : Nat} (ih : ∀ g i, AdvE L i g.strict (pp L n g i)) {g : G} {k i : Nat} {s : Bool} (h1 : i ≤ k) (h2 : i < k → k < L.length) (h3 : s = true → g.strict = true ∨ i < k) : AdvE L i s (pp L n g k) := by
  have := ih g k
  generalize pp L n g k = r at this
  cases r with
  | out => trivial
  | bad j => trivial
  | ok m j =>
    obtain ⟨a1, a2, a3⟩ := this
    refine ⟨by omega, fun h => ?_, fun h => by omega⟩
    rcases h3 h with h | h
    · have := a2 h; omega
    · omega
theorem AdvE.thenG {n : Nat} (ih : ∀ g i, AdvE L i g.strict (pp L n g i)) {g : G} {k i : Nat} {s : Bool} {h : N → Nat → PR} (hh : ∀ m j, k ≤ j → (g.strict = true → k < j) → (k < j → j < L.length) → AdvE L i s (h m j)) : AdvE L i s ((pp L n g k).then h) := by
  have := ih g k
  generalize pp L n g k = r at this
  cases r with
  | out => trivial
  | bad j => trivial
  | ok m j => exact hh m j this.1 this.2.1 this.2.2

theorem pp_advE (hE : EndsL L) : ∀ (n : Nat) (g : G) (i : Nat), AdvE L i g.strict (pp L n g i)
  | 0, g, i => trivial
  | n + 1, g, i => by
    have ih := pp_advE hE n
    cases g
    all_goals simp only [pp, G.strict]
    all_goals
      repeat' first
        | exact AdvE.bad
        | (refine AdvE.want hE fun _ => ?_)
        | (refine AdvE.word hE fun _ => ?_)
        | (refine AdvE.ifT hE (fun _ => ?_) ?_)
        | (refine AdvE.ifK hE (by decide) (fun _ => ?_) ?_)
        | (refine AdvE.ifS hE (fun _ => ?_) ?_)
        | (refine AdvE.if0 ?_ ?_)
        | (refine AdvE.thenG ih fun m j h1 h2 h3 => ?_; simp only [G.strict, Bool.false_eq_true, false_implies, true_implies] at h2)
        | (refine AdvE.ok ?_ ?_ ?_ <;> (try simp only [Bool.false_eq_true, false_implies, true_implies]) <;> omega)
        | (refine AdvE.last ih ?_ ?_ ?_ <;> (try simp only [G.strict, Bool.false_eq_true, false_implies, true_implies, false_or, true_or]) <;> omega)

end

/-! the reader -/

structure RF where
  (kind file is word want ended use_ def_ lambda params typed block stmt expr sum term post atom : FuncId)
  (tn tt tr : TypeId)

/-- a node as a value -/
def ag (k f t : Int) (w : Bs) (a : Int) (x : A) : A := .agg [.d (.int .i64 k), .d (.int .i64 f), .d (.int .i64 t), .d (.str w), .d (.int .i64 a), x]

section
variable {P : Program} {R : RF} {z : Bool} {L : List Tk} {H : Hp} {i : Nat}

end
end Go.Zam

namespace Go.Zam
set_option linter.all false
set_option maxRecDepth 100000
set_option maxHeartbeats 4000000
open Classical

/-- what is asked of a function that tells a type's text -/
def TextT (P : Program) (f : FuncId) (v : T) : Prop := ∀ (H : Hp), ACall P f [v.a] H (fun r H' => r = .d (.str v.txt) ∧ H' = H)

/-- what is asked of strings.Join -/
def JoinS (P : Program) (f : FuncId) : Prop := ∀ (z : Bool) (xs : List Bs) (sep : Bs), xs.length ≤ 140737488355328 → (Lib.join xs sep).length ≤ 140737488355328 → ∀ H, ACall P f [.d (.sl z 1 (xs.map encStr)), .d (.str sep)] H (fun r H' => r = .d (.str (Lib.join xs sep)) ∧ H' = H)

theorem labs_len (ns ts : List Bs) : (labs ns ts).length = min ns.length ts.length := by simp [labs]
theorem labs_get {ns ts : List Bs} {i : Nat} (h : i < ns.length) (h' : i < ts.length) : (labs ns ts)[i]? = some (ns[i] ++ [58, 32] ++ ts[i]) := by
  simp [labs, List.getElem?_zipWith, h, h']

section
variable {P : Program} {t tS : TypeId}

theorem HasT.tyText {f fj : FuncId} (h : HasT P [3, 6] f (irTyText f fj t tS)) (hJ : JoinS P fj) (v : T) : v.Fit 1048576 → v.wt ≤ 1099511627776 → TextT P f v := by
  induction v using T.ind with
  | h k z ns y ps ih =>
  intro hv hw H
  have hwp : ∀ p ∈ ps, p.wt ≤ 1099511627776 := fun p hp => Nat.le_trans (T.wt_part hp) hw
  have hwl : ∀ n ∈ ns, n.length ≤ 1048576 := by cases hv with | mk _ _ _ _ _ b2 b3 b4 b5 => exact b4
  have htl := T.txt_len (.mk k z ns y ps)
  obtain ⟨Q, hQ⟩ : ∃ Q : A → Hp → Prop, Q = fun r H' => r = .d (.str (T.txt (.mk k z ns y ps))) ∧ H' = H := ⟨_, rfl⟩
  rw [← hQ]
  have hfin : Q (.d (.str (T.txt (.mk k z ns y ps)))) H := by subst hQ; exact ⟨rfl, rfl⟩
  clear hQ
  have hpl : ∀ p ∈ ps, p.txt.length ≤ 1099511627776 := fun p hp => Nat.le_trans (T.txt_len p) (hwp p hp)
  have h0 := h
  obtain ⟨fn, hf, hcf⟩ := h
  refine acall_fin hf hcf (by simp [irTyText]) fun hcl _ => ?_
  cases hv with | mk _ _ _ _ _ b2 b3 b4 b5 =>
  rw [T.txt_mk] at htl hfin
  rw [T.a_mk]
  by_cases k1 : k = 1
  · rw [if_pos k1] at hfin
    simp [irTyText, k1]
    simp [RetK, cut_app hcl]
    exact hfin
  by_cases k2 : k = 2
  · rw [if_neg k1, if_pos k2] at hfin
    simp [irTyText, k2]
    simp [RetK, cut_app hcl]
    exact hfin
  rw [if_neg k1, if_neg k2] at htl hfin
  by_cases k3 : k = 3
  · subst k3
    rw [if_pos rfl] at htl hfin
    have hlab : (labs ns (ps.map T.txt)).length ≤ 1048576 := by rw [labs_len]; omega
    have hjl : (Lib.join (labs ns (ps.map T.txt)) [44, 32]).length + 2 ≤ 1099511627776 := by
      simp only [List.length_append, List.length_cons, List.length_nil] at htl; omega
    simp [irTyText]
    refine RangeK_of (H.length + 2) ns.length (fun i fr H' => fr 1 = .ptr H.length 0 ∧ fr 19 = .d (.sl z 1 (ns.map encStr)) ∧ fr 3 = .osl true 1 (((labs ns (ps.map T.txt)).take i).map encStr) (H.length + 1) ∧
      H' = H ++ [.box t [.d (.int .i64 3), .d (.sl z 1 (ns.map encStr)), .d (.sl y 3 (ps.map T.enc))], .tok ((labs ns (ps.map T.txt)).take i).length 1 tS]) (by omega) (by decide) (by simp) (by simp) ?_ ?_ ?_
    · simp [cut_appk hcl, A.lo]
    · rintro i fr H' hi f21 f20 ⟨f1, f19, f3, rfl⟩
      have ra := rowAt_map encStr hi
      simp only [encStr] at ra
      by_cases hip : i < ps.length
      case neg =>
        have hin : ¬ (i : Int) < (ps.length : Int) := by omega
        have e : (labs ns (ps.map T.txt)).take (i + 1) = (labs ns (ps.map T.txt)).take i := by
          rw [List.take_of_length_le (by rw [labs_len]; simp; omega), List.take_of_length_le (by rw [labs_len]; simp; omega)]
        simp [f21, f19, ra, f1, hin, hip]
        refine NextK_of (H.length + 2) (Nat.le_refl _) (by simp [f21, f20]) ?_
        rw [e]
        simp [f1, f3, f19, cut_appk hcl, A.lo]
      have hin : (i : Int) < (ps.length : Int) := by omega
      have rb := rowAt_map T.enc hip
      have hg := labs_get (ns := ns) (ts := ps.map T.txt) hi (by simpa using hip)
      simp only [List.getElem_map] at hg
      have hil : i < (labs ns (ps.map T.txt)).length := by rw [labs_len]; simp; omega
      have tk : (labs ns (ps.map T.txt)).take (i + 1) = (labs ns (ps.map T.txt)).take i ++ [ns[i] ++ [58, 32] ++ ps[i].txt] := by
        rw [List.take_succ_eq_append_getElem hil]
        congr 2
        exact Option.some.inj ((List.getElem?_eq_getElem hil).symm.trans hg)
      have hx := ih ps[i] (List.getElem_mem hip) (b5 _ (List.getElem_mem hip)) (hwp _ (List.getElem_mem hip))
      have hl1 := hwl _ (List.getElem_mem hi)
      have hl2 := hpl _ (List.getElem_mem hip)
      have hc1 : (((labs ns (ps.map T.txt)).take i).length + 1) * 16 ≤ 140737488355328 := by
        rw [List.length_take]; omega
      generalize (labs ns (ps.map T.txt)).take i = L at *
      generalize ns[i] = x at *
      generalize ps[i] = p at *
      unfold TextT at hx
      generalize p.txt = px at *
      obtain ⟨k4, z4, n4, y4, p4⟩ := p
      simp only [T.a_mk] at hx
      rw [T.enc_mk] at rb
      have a1 : strOp .add x [58, 32] = some (.str (x ++ [58, 32])) := strOp_add' (by simp; omega)
      have a2 : strOp .add (x ++ [58, 32]) px = some (.str (x ++ [58, 32] ++ px)) := strOp_add' (by simp; omega)
      simp [f21, f19, ra, f1, hin, hip, rb, f3, a1, -strOp]
      refine CallK_of' (hx _) ?_
      simp [a1, a2, -strOp, f3]
      simp [appA, hc1]
      refine NextK_of (H.length + 2) (Nat.le_refl _) (by simp [f21, f20]) ?_
      rw [tk]
      simp [f1, f19, cut_appk hcl, A.lo, encStr]
    · rintro fr H' f21 f20 ⟨f1, f19, f3, rfl⟩
      have tk : (labs ns (ps.map T.txt)).take ns.length = labs ns (ps.map T.txt) := List.take_of_length_le (by rw [labs_len]; omega)
      rw [tk] at f3 ⊢
      have hx := hJ true (labs ns (ps.map T.txt)) [44, 32] (by omega) (by omega)
      generalize Lib.join (labs ns (ps.map T.txt)) [44, 32] = J at *
      generalize labs ns (ps.map T.txt) = L at *
      have a1 : strOp .add [123] J = some (.str ([123] ++ J)) := strOp_add' (by simp; omega)
      have a2 : strOp .add ([123] ++ J) [125] = some (.str ([123] ++ J ++ [125])) := strOp_add' (by simp; omega)
      simp [f3]
      refine CallK_of' (ACall.osl1 (hx _)) ?_
      simp only [List.cons_append, List.nil_append] at a1 a2
      simp [a1, a2, -strOp]
      simp [RetK, cut_app hcl]
      simpa using hfin
  rw [if_neg k3] at htl hfin
  by_cases k4 : k = 4
  case neg =>
    rw [if_neg (fun e => k4 e.1)] at hfin
    simp [irTyText, k1, k2, k3, k4]
    simp [RetK, cut_app hcl]
    exact hfin
  subst k4
  simp [irTyText]
  refine RangeK_of (H.length + 2) ps.length (fun i fr H' => fr 1 = .ptr H.length 0 ∧ fr 51 = .d (.sl y 3 (ps.map T.enc)) ∧ fr 6 = .osl true 1 (((ps.map T.txt).take i).map encStr) (H.length + 1) ∧
    H' = H ++ [.box t [.d (.int .i64 4), .d (.sl z 1 (ns.map encStr)), .d (.sl y 3 (ps.map T.enc))], .tok ((ps.map T.txt).take i).length 1 tS]) (by omega) (by decide) (by simp) (by simp) ?_ ?_ ?_
  · simp [cut_appk hcl, A.lo]
  · rintro i fr H' hi f53 f52 ⟨f1, f51, f6, rfl⟩
    have rb := rowAt_map T.enc hi
    have tk := take_map_succ T.txt hi
    have hx := ih ps[i] (List.getElem_mem hi) (b5 _ (List.getElem_mem hi)) (hwp _ (List.getElem_mem hi))
    have hc1 : (((ps.map T.txt).take i).length + 1) * 16 ≤ 140737488355328 := by
      rw [List.length_take]; simp; omega
    generalize (ps.map T.txt).take i = L at *
    generalize ps[i] = p at *
    unfold TextT at hx
    generalize p.txt = px at *
    obtain ⟨k4, z4, n4, y4, p4⟩ := p
    simp only [T.a_mk] at hx
    rw [T.enc_mk] at rb
    simp [f53, f51, rb, f6]
    refine CallK_of' (hx _) ?_
    simp [f6, appA, hc1]
    refine NextK_of (H.length + 2) (Nat.le_refl _) (by simp [f53, f52]) ?_
    rw [tk]
    simp [f1, f51, cut_appk hcl, A.lo, encStr]
  · rintro fr H' f53 f52 ⟨f1, f51, f6, rfl⟩
    rw [List.take_of_length_le (by simp)] at f6 ⊢
    by_cases hp : ps = []
    · subst hp
      rw [if_neg (fun e => e.2 rfl)] at hfin
      simp [f6]
      simp [RetK, cut_app hcl]
      exact hfin
    rw [if_pos (show (4 : Int) = 4 ∧ ps ≠ [] from ⟨rfl, hp⟩)] at htl hfin
    obtain ⟨l, p, rfl⟩ : ∃ l p, ps = l ++ [p] := ⟨ps.dropLast, ps.getLast hp, (List.dropLast_concat_getLast hp).symm⟩
    have e1 : ((l ++ [p]).map T.txt).dropLast = l.map T.txt := by simp
    have e2 : ((l ++ [p]).map T.txt).getLastD [] = p.txt := by simp
    rw [e1, e2] at htl hfin
    have hb3 : l.length + 1 ≤ 1048576 := by simpa using b3
    have hx := hJ false (l.map T.txt) [44, 32] (by simp; omega) (by simp only [List.length_append, List.length_cons, List.length_nil] at htl; omega)
    have hpx := hpl p (by simp)
    have hjl : (Lib.join (l.map T.txt) [44, 32]).length ≤ 1099511627776 := by simp only [List.length_append, List.length_cons, List.length_nil] at htl; omega
    have hw1 : IntKind.i64.wrap (l.length : Int) = (l.length : Int) := wrap_i64 (by omega) (by omega)
    have hn0 : ¬ (l.length : Int) + 1 = 0 := by omega
    simp only [List.map_append, List.map_cons, List.map_nil] at f6 ⊢
    have s1 : subL (l.map (encStr ∘ T.txt) ++ [encStr p.txt]) 0 (l.length : Int) = some (l.map (encStr ∘ T.txt)) := by
      rw [subL_ok (by simp; omega)]
      simp
    have s2 : (l.map (encStr ∘ T.txt) ++ [encStr p.txt]).isEmpty = false := by simp
    have s3 : Zam.rowAt (l.map (encStr ∘ T.txt) ++ [encStr p.txt]) (l.length : Int) = some (encStr p.txt) := by
      have h1 : l.length < (l ++ [p]).length := by simp
      have := rowAt_map (encStr ∘ T.txt) h1
      simpa using this
    have hmm : (l.map T.txt).map encStr = l.map (encStr ∘ T.txt) := List.map_map
    rw [hmm] at hx
    generalize Lib.join (l.map T.txt) [44, 32] = J at *
    generalize p.txt = px at *
    have a1 : strOp .add [102, 110, 40] J = some (.str ([102, 110, 40] ++ J)) := strOp_add' (by simp; omega)
    have a2 : strOp .add ([102, 110, 40] ++ J) [41, 58, 32] = some (.str ([102, 110, 40] ++ J ++ [41, 58, 32])) := strOp_add' (by simp; omega)
    have a3 : strOp .add ([102, 110, 40] ++ J ++ [41, 58, 32]) px = some (.str ([102, 110, 40] ++ J ++ [41, 58, 32] ++ px)) := strOp_add' (by simp; omega)
    simp only [encStr] at s1 s2 s3
    simp [f6, hw1, hn0, encStr, s1, s2, s3]
    refine CallD_of (hx _) ?_
    simp only [List.cons_append, List.nil_append, List.append_assoc] at a1 a2 a3
    simp [f6, a1, a2, a3, -strOp, encStr, s1, s2, s3]
    simp [RetK, cut_app hcl]
    simpa using hfin
end
end Go.Zam

namespace Go.Zam
set_option linter.all false
set_option maxRecDepth 100000
set_option maxHeartbeats 4000000
open Classical

theorem sum_take_le : ∀ {l : List Nat} {i : Nat}, (l.take i).sum ≤ l.sum
  | [], i => by simp
  | x :: l, 0 => by simp
  | x :: l, i + 1 => by
    have := @sum_take_le l i
    simp only [List.take_succ_cons, List.sum_cons]; omega
section
variable {P : Program} {t : Nat}

end
end Go.Zam

namespace Go.Zam
set_option linter.all false
set_option maxRecDepth 100000
set_option maxHeartbeats 1000000
open Classical

theorem join_sep {c : Nat} : ∀ (l : List (Bs × KT)), l ≠ [] → (∀ x ∈ l, x.2.length + c ≤ x.1.length) → (sepT (l.map Prod.snd)).length + c ≤ (Lib.join (l.map Prod.fst) [44, 32]).length
  | [], h, _ => absurd rfl h
  | [x], _, h => by simpa [Lib.join_one, sepT] using h x (by simp)
  | x :: y :: r, _, h => by
    have ih := join_sep (c := c) (y :: r) (by simp) fun z hz => h z (by simp [hz])
    have hx := h x (by simp)
    have e : Lib.join ((x :: y :: r).map Prod.fst) [44, 32] = x.1 ++ 44 :: 32 :: Lib.join ((y :: r).map Prod.fst) [44, 32] := by
      simp only [List.map_cons, Lib.join_cons]
      simp [Lib.joinTail]
    rw [e]
    simp only [List.map_cons, sepT, List.length_append, List.length_cons] at ih ⊢
    omega

theorem tk_len (v : T) (hr : v.st.Rt) : v.tk.length ≤ v.txt.length ∧ (v.tk.length + 1 ≤ v.txt.length ∨ v.tk.length = 2) := by
  induction v using T.ind with
  | h k z ns y ps ih =>
  rw [T.st_mk] at hr
  obtain ⟨⟨r1, r1'⟩, r2, r3, r4, r5, -, r7⟩ := Ty.rt_iff.1 hr
  have ih := fun p hp => (ih p hp (r7 _ (List.mem_map.2 ⟨p, hp, rfl⟩))).1
  rw [T.txt_mk, T.tk_mk]
  by_cases k1 : k = 1
  · rw [if_pos k1, if_pos k1]; simp
  rw [if_neg k1, if_neg k1]
  by_cases k2 : k = 2
  · rw [if_pos k2, if_pos k2]; simp
  rw [if_neg k2, if_neg k2]
  by_cases k3 : k = 3
  · rw [if_pos k3, if_pos k3]
    have hlen : ns.length = ps.length := by simpa using r3 k3
    obtain ⟨l, e1, e2, hl⟩ : ∃ l : List (Bs × KT), l.map Prod.fst = labs ns (ps.map T.txt) ∧ l.map Prod.snd = List.zipWith (fun n t => (1, n) :: (5, [58]) :: t) ns (ps.map T.tk) ∧ ∀ x ∈ l, x.2.length + 1 ≤ x.1.length := by
      refine ⟨List.zipWith (fun n p => (n ++ [58, 32] ++ T.txt p, ((1 : Int), n) :: (5, [58]) :: T.tk p)) ns ps, ?_, ?_, ?_⟩
      · simp [labs, List.map_zipWith, List.zipWith_map_right]
      · simp [List.map_zipWith, List.zipWith_map_right]
      · intro x hx
        obtain ⟨i, hi⟩ := List.getElem?_of_mem hx
        rw [List.getElem?_zipWith] at hi
        cases hn : ns[i]? with
        | none => simp [hn] at hi
        | some n =>
          cases hp : ps[i]? with
          | none => simp [hn, hp] at hi
          | some p =>
            simp [hn, hp] at hi
            subst hi
            have hname := r5 n (List.mem_of_getElem? hn)
            have hne : n ≠ [] := fun e => by rw [e] at hname; exact absurd hname (by decide)
            have := List.length_pos_iff.2 hne
            have := ih p (List.mem_of_getElem? hp)
            simp
            omega
    rw [← e1, ← e2]
    by_cases hnil : l = []
    · subst hnil
      simp [Lib.join_nil, sepT]
    · have := join_sep l hnil hl
      simp only [List.length_append, List.length_cons, List.length_nil]
      omega
  rw [if_neg k3, if_neg k3]
  by_cases k4 : k = 4
  case neg =>
    rw [if_neg (fun e => k4 e.1), if_neg (fun e => k4 e.1)]; simp
  have hpne : ps ≠ [] := by simpa using (r4 k4).2
  rw [if_pos ⟨k4, hpne⟩, if_pos ⟨k4, hpne⟩]
  obtain ⟨l, p, rfl⟩ : ∃ l p, ps = l ++ [p] := ⟨ps.dropLast, ps.getLast hpne, (List.dropLast_concat_getLast hpne).symm⟩
  have e1 : ((l ++ [p]).map T.txt).dropLast = l.map T.txt := by simp
  have e2 : ((l ++ [p]).map T.txt).getLastD [] = p.txt := by simp
  have e3 : ((l ++ [p]).map T.tk).dropLast = l.map T.tk := by simp
  have e4 : ((l ++ [p]).map T.tk).getLastD [] = p.tk := by simp
  rw [e1, e2, e3, e4]
  have hp := ih p (by simp)
  have hj : (sepT (l.map T.tk)).length ≤ (Lib.join (l.map T.txt) [44, 32]).length := by
    by_cases hnil : l = []
    · subst hnil; simp [sepT]
    · have := join_sep (c := 0) (l.map fun q => (q.txt, q.tk)) (by simpa using hnil) (fun x hx => by
        obtain ⟨q, hq, rfl⟩ := List.mem_map.1 hx
        exact ih q (by simp [hq]))
      simp only [List.map_map] at this
      exact this
  simp only [List.length_append, List.length_cons, List.length_nil]
  omega

/-- names among the tokens of a text -/
theorem Toks.names {s : Bs} {n : Nat} {l : List Tk} (h : Toks s n l) : ∀ t ∈ l, t.k = 1 → isNameB t.x = true := by
  induction h with
  | fin h h0 => intro t ht hk; simp at ht; subst ht; cases hk
  | @tok s n l h h0 hr ih =>
    intro t ht hk
    rcases List.mem_cons.1 ht with rfl | ht
    · simp only at hk ⊢
      generalize s.drop (leadS false s) = w at *
      cases w with
      | nil => exact absurd rfl h0
      | cons b r =>
        rw [tokN_cons] at h hk ⊢
        by_cases hb : letterB b = true
        · rw [if_pos hb] at h hk ⊢
          by_cases hkey : (b :: r).take (runN wordB (b :: r)) ∈ keysL
          · rw [if_pos hkey] at hk; cases hk
          rw [if_neg hkey] at h hk ⊢
          by_cases h40 : 40 < runN wordB (b :: r)
          · rw [if_pos h40] at h; cases h
          rw [if_neg h40]
          simp only
          have hall := takeWhile_all wordB (b :: r)
          have hlen : ((b :: r).take (runN wordB (b :: r))).length ≤ 40 := by rw [List.length_take]; omega
          have hpos : 1 ≤ runN wordB (b :: r) := runN_pos (by simp [wordB, hb])
          obtain ⟨q, hq⟩ : ∃ q, runN wordB (b :: r) = q + 1 := ⟨runN wordB (b :: r) - 1, by omega⟩
          rw [hq, List.take_succ_cons] at hkey hlen hall ⊢
          have hN : isNameB (b :: r.take q) = (decide ((b :: r.take q).length ≤ 40) && !decide ((b :: r.take q) ∈ keysL) && !digitB b && (b :: r.take q).all fun c => letterB c || digitB c) := rfl
          rw [hN]
          obtain ⟨-, -, n3, -⟩ := letter_ne hb
          simp only [Bool.and_eq_true, decide_eq_true_eq, Bool.not_eq_true', decide_eq_false_iff_not]
          exact ⟨⟨⟨hlen, hkey⟩, n3⟩, List.all_eq_true.2 fun c hc => hall c hc⟩
        · rw [if_neg hb] at hk
          split at hk
          · split at hk <;> cases hk
          · split at hk
            · split at hk <;> cases hk
            · split at hk <;> cases hk
    · exact ih t ht hk

theorem EL {s : Bs} {n : Nat} {L : List Tk} (h : Toks s n L) : EndsL L := fun i hi => by
  obtain ⟨t, h1, h2⟩ := h.join.2.1
  rw [List.getLast?_eq_getElem?] at h1
  have : i = L.length - 1 := by omega
  subst this
  unfold kdT
  rw [h1]; exact h2
/-- what a parsed type is -/
theorem typO_inv {s : Bs} (h : (typO s).2 = 0) : (typO s).1.st.Rt ∧ (typO s).1.dep ≤ 12 ∧ (typO s).1.tk.length + 1 ≤ 4000 ∧ (typO s).1.wt ≤ 1048576 := by
  unfold typO at h ⊢
  by_cases ht : (typeO s).2 ≠ 0
  · rw [if_pos ht] at h; exact absurd h ht
  rw [if_neg ht] at h ⊢
  have ht : (typeO s).2 = 0 := Classical.not_not.1 ht
  unfold N.typ at h ⊢
  by_cases h1 : (typeO s).1.ty.2 ≠ 0
  · rw [if_pos h1] at h; exact absurd h h1
  rw [if_neg h1] at h ⊢
  have h1 : (typeO s).1.ty.2 = 0 := Classical.not_not.1 h1
  by_cases h2 : 12 < (typeO s).1.ty.1.dep
  · rw [if_pos h2] at h; cases h
  rw [if_neg h2]
  unfold typeO at ht h1 ⊢
  by_cases hl : (lexS s).2.1 ≠ 0
  · rw [if_pos hl] at ht; exact absurd ht hl
  rw [if_neg hl] at ht h1
  rw [if_neg hl]
  have hl : (lexS s).2.1 = 0 := Classical.not_not.1 hl
  obtain ⟨o1, o2⟩ := lexS_ok s
  obtain ⟨b1, b2, -⟩ := o1.1 hl
  obtain ⟨hT, hc⟩ := o2 hl
  have hdep : (typeP (lexS s).1).1.ty.1.dep ≤ 12 := by
    have : typeO s = typeP (lexS s).1 := by rw [typeO, if_neg (by rw [hl]; exact fun h => h rfl)]
    rw [this] at h2; omega
  generalize (lexS s).1 = L at *
  unfold typeP at ht h1 hdep ⊢
  cases hF : typeF L with
  | out => rw [hF] at ht; cases ht
  | bad q => rw [hF] at ht; cases ht
  | ok m k =>
    rw [hF] at ht h1 hdep
    simp only at ht h1 hdep ⊢
    by_cases hk : kdT L k = 0
    case neg => rw [if_neg hk] at ht; cases ht
    rw [if_pos hk] at ht h1 hdep ⊢
    by_cases hd : 60 < m.depth
    · rw [if_pos hd] at ht; cases ht
    rw [if_neg hd] at h1 hdep ⊢
    have hN : ∀ i, kdT L i = 1 → isNameB (txT L i) = true := fun i hi => by
      unfold kdT at hi
      unfold txT
      cases e : L[i]? with
      | none => rw [e] at hi; cases hi
      | some t => rw [e] at hi; exact hT.names t (List.mem_of_getElem? e) hi
    obtain ⟨q1, q2, q3⟩ := kind_inv hN _ 0 m k hF h1
    have hadv := pp_advE (L := L) (EL hT) (16 * L.length + 8) .kind 0
    rw [show pp L (16 * L.length + 8) .kind 0 = .ok m k from hF] at hadv
    have hk := hadv.2.2 (hadv.2.1 rfl)
    have hsum : SL L k ≤ 24 * L.length + s.length := by
      have hj := hT.join.1
      have h1 : ∀ l : List Tk, (l.map fun t => 24 + t.x.length).sum ≤ 24 * l.length + (joinS l).length := fun l => by
        induction l with
        | nil => simp
        | cons t r ih =>
          simp only [List.map_cons, List.sum_cons, List.length_cons, joinS, List.flatMap_cons, List.length_append] at ih ⊢
          omega
      have h2 := h1 L
      rw [hj] at h2
      have h3 := @sum_take_le (L.map fun t => 24 + t.x.length) k
      unfold SL
      rw [List.map_take]
      omega
    have hs0 : SL L 0 = 0 := by simp [SL]
    refine ⟨q1, hdep, ?_, ?_⟩
    · show m.ty.1.tk.length + 1 ≤ 4000
      omega
    · show m.ty.1.wt ≤ 1048576
      omega
end Go.Zam

namespace Go.Zam
set_option linter.all false
set_option maxRecDepth 100000
set_option maxHeartbeats 4000000
open Classical

section
variable {P : Program} {t : Nat}

theorem Has.tyRight {f fi : FuncId} (h : Has P f (irTyRight fi f t)) (hn : ∀ s H, ACall P fi [.d (.str s)] H (fun r H' => r = .d (.bool (isNameB s)) ∧ H' = H)) (v : T) : v.Fit 1048576 → RightT P f v := by
  induction v using T.ind with
  | h k z ns y ps ih =>
  rintro (⟨_, _, _, _, _, b2, b3, b4, b5⟩) H
  have h0 := h
  obtain ⟨fn, hf, hcf⟩ := h
  refine acall_fin hf hcf (by simp [irTyRight]) fun hcl _ => ?_
  rw [T.st_mk]
  rw [T.a_mk]
  generalize hB : H ++ [Ob.box t [A.d (D.int IntKind.i64 k), A.d (D.sl z 1 (List.map encStr ns)), A.d (D.sl y 3 (List.map T.enc ps))]] = B
  have hB0 : B[H.length]? = some (Ob.box t [A.d (D.int IntKind.i64 k), A.d (D.sl z 1 (List.map encStr ns)), A.d (D.sl y 3 (List.map T.enc ps))]) := by rw [← hB]; simp
  have hBl : B.length = H.length + 1 := by rw [← hB]; simp
  have hBc : Hp.cut (H.length + 1) B = B := by rw [← hB, cut_appk hcl]; simp
  have hBz : Hp.cut H.length B = H := by rw [← hB, cut_app hcl]
  have hBcl : ∀ X, Hp.cut (H.length + 1) (B ++ X) = B := fun X => by rw [← hB, List.append_assoc, cut_appk hcl]; simp
  have hBcz : ∀ X, Hp.cut H.length (B ++ X) = H := fun X => by rw [← hB, List.append_assoc, cut_app hcl]
  have hrt := @Ty.rt_iff k ns (ps.map T.st)
  have hret : ∀ fr H', (fr 2 = .d (.bool (decide (Ty.mk k ns (ps.map T.st)).Rt)) ∧ H' = B) → Zam.Fin [Res.t 2] H.length (fun r H' => r = .d (.bool (decide (Ty.mk k ns (ps.map T.st)).Rt)) ∧ H' = H) .ret fr H' := by
    rintro fr H' ⟨f2, rfl⟩
    simp [RetK, hBz, hBl, f2]
  have hmain : (k = 3 → ns.length = ps.length) → (k = 4 → ns = [] ∧ ps ≠ []) → (k = 3 ∨ k = 4) → ((Ty.mk k ns (ps.map T.st)).Rt ↔ UpTo ns ns.length ∧ ∀ p ∈ ps, p.st.Rt) := fun c3 c4 c5 => by
    rw [hrt]
    constructor
    · rintro ⟨-, -, -, -, a, b, c⟩
      exact ⟨⟨fun j x _ hx => a x (List.mem_of_getElem? hx), fun j x y _ hx hy => b j x y hx hy⟩, fun p hp => c _ (List.mem_map_of_mem hp)⟩
    · rintro ⟨a, b⟩
      refine ⟨by omega, fun h => by omega, fun h => by simpa using c3 h, fun h => by simpa using c4 h, a.all.1, a.all.2, fun p hp => ?_⟩
      obtain ⟨q, hq, rfl⟩ := List.mem_map.1 hp
      exact b q hq
  generalize hRt : (Ty.mk k ns (ps.map T.st)).Rt = RT at *
  simp only [irTyRight]
  refine Seq_out (fun fr H' => fr 1 = .ptr H.length 0 ∧ H' = B) (fun _ _ => False) (by simp [hB]) (fun _ _ h => h.elim) ?_
  rintro fr H' ⟨f1, rfl⟩
  refine Seq_out (fun fr H2 => fr 1 = .ptr H.length 0 ∧ (RT ↔ ∀ p ∈ ps, p.st.Rt) ∧ H2 = H') (fun fr H2 => fr 2 = .d (.bool (decide RT)) ∧ H2 = H') ?_ hret ?_
  · by_cases c2 : k = 0 ∨ k = 1 ∨ k = 2
    · have hd : RT ↔ ns = [] ∧ ps = [] := by
        rw [hrt]
        constructor
        · rintro ⟨-, a, -⟩
          have := a (by omega)
          simpa using this
        · rintro ⟨rfl, rfl⟩
          exact ⟨by omega, by simp, by simp, fun h => by omega, by simp, fun i x y hx => by simp at hx, by simp⟩
      rcases c2 with rfl | rfl | rfl
      all_goals
        by_cases e1 : ns = []
        · subst e1
          simp [f1, hB0, hd]
        · simp [f1, hB0, hd, e1]
    have k0 : ¬ k = 0 := fun e => c2 (.inl e)
    have k1 : ¬ k = 1 := fun e => c2 (.inr (.inl e))
    have k2 : ¬ k = 2 := fun e => c2 (.inr (.inr e))
    by_cases k3 : k = 3
    · by_cases hl : ns.length = ps.length
      case neg =>
        have hd : ¬ RT := fun h => hl (by have := (hrt.1 h).2.2.1 k3; simpa using this)
        have hl' : ¬ (ns.length : Int) = ps.length := by omega
        simp [f1, hB0, k0, k1, k2, k3, hl, hl', hd]
      have hm := hmain (fun _ => hl) (fun e => by omega) (.inl k3)
      simp [f1, hB0, k0, k1, k2, k3, hl]
      refine RangeK_of (H.length + 1) ps.length (fun i fr H5 => fr 1 = .ptr H.length 0 ∧ fr 33 = .d (.sl z 1 (ns.map encStr)) ∧ UpTo ns i ∧ H5 = H') (by omega) (by decide) (by simp [hBl]) (by simp) ?_ ?_ ?_
      · simp [hBc, f1, UpTo.zero]
      · rintro i fr H5 hi f35 f34 ⟨f1, f33, hU, rfl⟩
        have hlt : i < ns.length := by omega
        have hr := rowAt_map encStr hlt
        have hg : ns[i]? = some ns[i] := List.getElem?_eq_getElem hlt
        generalize ns[i] = x at hr hg
        simp only [encStr] at hr
        simp [f35, f33, f1, hr]
        refine CallK_of' (hn _ _) ?_
        by_cases hnx : isNameB x = true
        case neg =>
          have hnx' : isNameB x = false := by simpa using hnx
          have hd : ¬ RT := fun h => hnx ((hm.1 h).1.1 i x hlt hg)
          simp [hnx', hd]
        simp [hnx, f35]
        refine GdK_split (by simp) (fun h => ?_) (fun h => ?_)
        · have hpos : 0 < i := by simpa using h
          have hwm : IntKind.i64.wrap ((i : Int) - 1) = ((i - 1 : Nat) : Int) := by rw [wrap_i64 (by omega) (by omega)]; omega
          have hj : i - 1 < ns.length := by omega
          have rj := rowAt_map encStr hj
          have gj : ns[i - 1]? = some ns[i - 1] := List.getElem?_eq_getElem hj
          generalize ns[i - 1] = w at rj gj
          simp only [encStr] at rj
          simp [f35, f1, hB0, encStr, hr, hwm, rj]
          refine BrK_split (fun h => ?_) (fun h => ?_)
          · have hd : ¬ RT := fun hR => by
              have hwx := (hm.1 hR).1.2 (i - 1) w x (by omega) gj (by rw [show i - 1 + 1 = i by omega]; exact hg)
              simp at h
              rw [hwx] at h; cases h
            simp [hd]
          · have hwx : Op.bytesLess w x = true := by simpa using h
            simp
            refine NextK_of (H.length + 1) (Nat.le_refl _) (by simp [hBl, f35, f34]) ?_
            simp [f1, f33, hBc]
            exact hU.succ hg hnx fun x' _ hx' => by rw [gj] at hx'; cases hx'; exact hwx
        · have hz : i = 0 := by simpa using h
          simp
          refine NextK_of (H.length + 1) (Nat.le_refl _) (by simp [hBl, f35, f34]) ?_
          simp [f1, f33, hBc]
          exact hU.succ hg hnx fun x' h0 _ => by omega
      · rintro fr H5 f35 f34 ⟨f1, f33, hU, rfl⟩
        rw [← hl] at hU
        have hm' : RT ↔ ∀ p ∈ ps, p.st.Rt := by rw [hm]; exact ⟨fun h => h.2, fun h => ⟨hU, h⟩⟩
        simp [f1]
        exact hm'
    by_cases k4 : k = 4
    · by_cases hnn : ns = []
      case neg =>
        have hd : ¬ RT := fun h => hnn ((hrt.1 h).2.2.2.1 k4).1
        simp [f1, hB0, k0, k1, k2, k3, k4, hnn, hd]
      by_cases hpp : ps = []
      case pos =>
        have hd : ¬ RT := fun h => ((hrt.1 h).2.2.2.1 k4).2 (by simp [hpp])
        subst hnn; subst hpp
        simp [f1, hB0, k0, k1, k2, k3, k4, hd]
      have hm := hmain (fun e => absurd e k3) (fun _ => ⟨hnn, hpp⟩) (.inr k4)
      have hm' : RT ↔ ∀ p ∈ ps, p.st.Rt := by
        rw [hm]
        subst hnn
        exact ⟨fun h => h.2, fun h => ⟨UpTo.zero _, h⟩⟩
      simp [f1, hB0, k0, k1, k2, k3, k4, hnn, hpp]
      exact hm'
    · have hd : ¬ RT := fun h => by have := (hrt.1 h).1; omega
      simp [f1, hB0, k0, k1, k2, k3, k4, hd]
  rintro fr H2 ⟨f1, hm, rfl⟩
  simp [f1, hB0]
  refine RangeK_of (H.length + 1) ps.length (fun i fr H6 => fr 71 = .d (.sl y 3 (ps.map T.enc)) ∧ (∀ p ∈ ps.take i, p.st.Rt) ∧ H6 = H2) (by omega) (by decide) (by simp [hBl]) (by simp) ?_ ?_ ?_
  · simp [hBc]
  · rintro i fr H6 hi f73 f72 ⟨f71, hJ, rfl⟩
    have hr := rowAt_map T.enc hi
    have hx := ih ps[i] (List.getElem_mem hi) (b5 _ (List.getElem_mem hi))
    have hmem := List.getElem_mem hi
    have tk : ps.take (i + 1) = ps.take i ++ [ps[i]] := List.take_succ_eq_append_getElem hi
    generalize ps[i] = p at hr hx hmem tk
    have hnR : ¬ p.st.Rt → ¬ RT := fun hn hR => hn (hm.1 hR p hmem)
    have hyR : p.st.Rt → ∀ q ∈ ps.take (i + 1), q.st.Rt := fun hp q hq => by
      rw [tk] at hq
      rcases List.mem_append.1 hq with hq | hq
      · exact hJ q hq
      · simp at hq; subst hq; exact hp
    generalize hRp : p.st.Rt = RP at hnR hyR
    unfold RightT at hx
    rw [hRp] at hx
    cases p with | mk k1 z1 ns1 y1 ps1 =>
    simp only [T.a_mk, T.enc_mk] at hr hx
    simp [f73, f71, hr, hBl]
    refine CallK_of' (hx _) ?_
    by_cases hRP : RP
    · simp [hRP]
      refine NextK_of (H.length + 1) (Nat.le_refl _) (by simp [hBl, f73, f72]) ?_
      simp [f71, hBcl]
      exact hyR hRP
    · simp [hRP]
      simp [RetK, hBcz, hBl, hnR hRP]
      omega
  · rintro fr H6 f73 f72 ⟨f71, hJ, rfl⟩
    rw [List.take_of_length_le (Nat.le_refl _)] at hJ
    have hd : RT := hm.2 hJ
    simp
    simp [RetK, hBz, hBl, hd]
end
end Go.Zam
