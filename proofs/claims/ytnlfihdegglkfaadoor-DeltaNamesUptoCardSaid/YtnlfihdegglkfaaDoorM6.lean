/-
  Texts of one proof, one behind the other: An abstract machine over the model, hundred and fifty-second part: the document's tokens of a text are the program's, over any program that has them. The lengths are bounded. An abstract machine over the model, sixtieth part: plain facts on how much two lists have in common. No program in sight. No condition. An abstract machine over the model, sixty-first part: what differs between two lists, run by run. No program in sight. No condition. An abstract machine over the model, sixty-second part: edits out of what differs between two lists of texts. No program in sight. No condition. An abstract machine over the model, hundred and fifty-third part: the form of the functions of the layer of deltas, over any program that has them. (Printed by gen.py.) An abstract machine over the model, hundred and fifty-fourth part: units of tokens, over any program that has them. The lengths are bounded. An abstract machine over the model, hundred and fifty-fifth part: how much two lists of units have in common at their beginnings and ends, where one ends, over any program that has the functions. The lengths are bounded. An abstract machine over the model, hundred and fifty-sixth part: the table of how much the ends of two lists have in common, over any program that has it. The lengths are bounded. An abstract machine over the model, hundred and fifty-seventh part: what differs between two lists of units, over any program that has the functions. The lengths are bounded. An abstract machine over the model, hundred and fifty-eighth part: edits out of what differs, over any program that has the functions. The lengths are bounded. An abstract machine over the model, hundred and fifty-ninth part: edits between two lists of tokens, and how much they keep, over any program that has the functions. The lengths are bounded. An abstract machine over the model, hundred and sixtieth part: how much two lists of tokens keep, over any program that has the functions. The lengths are bounded. An abstract machine over the model, hundred and sixty-first part: edits between two lists of texts make of the one the other one; how much is kept. No program in sight. No condition. An abstract machine over the model, hundred and sixty-second part: a word that is another one everywhere takes an edit of each of its places: the plain law. No program in sight. No condition. An abstract machine over the model, hundred and sixty-third part: a word among a text's tokens: its neighbours, its places. No program in sight. No condition. strconv.ParseUint(s, 10, 63), over any program that has it: turned from the kit's worked proofs at 32 and 64 bits. No condition but on lengths. The functions of the layers of runes and tokens at this program. (Printed by mktok.py.) strings.Builder's copyCheck and String on the abstract machine, at this program. No condition. The layers of runes and tokens at this program: the library's functions, one by one, and what token.Lex answers. (Printed by mktok.py.) The lengths are bounded.
-/
import Derived.Test.YtnlfihdegglkfaaDoorM5
import Derived.Test.YtnlfihdegglkfaaDoorM3
import Derived.BigCall
import Derived.BigGuard
import Derived.Laws.Closers25
import Derived.Laws.Closers25b
import Derived.Laws.Strings3
import Derived.Lib.AtoiErrMem
import Derived.Lib.ConvBytes
import Derived.Lib.Hide
import Derived.Lib.ParseIntBMem
import Derived.Lib.Strings
import Derived.Lib.Walk
import Derived.Shelf.Pu.Lays
import Derived.Shelf.Pu.Lower
import Derived.Shelf.Pu.ParseUint10
import Derived.Shelf.Pu.ParseUint10At
import Derived.Shelf.Pu.ParseUint10b16
import Derived.Shelf.Pu.ParseUint10b32
import Derived.Shelf.Pu.ParseUint10b64
import Derived.Shelf.Pu.ParseUint10b8
import Derived.Shelf.Pu.ParseUintEmpty
import Derived.Shelf.Pu.ToError
import Derived.Shelf.Pu.ToErrorRange
import Derived.WalkKit
import Derived.Test.YtnlfihdegglkfaaDoorM4
import Derived.Test.YtnlfihdegglkfaaDoorProg
import Derived.KernelRfl
namespace Go.Zam
set_option linter.all false
set_option maxRecDepth 100000
set_option maxHeartbeats 1000000

section
variable {P : Program}

theorem HasT.lex4 {f fb fl fo tt} (h : HasT P [6] f (irR4Lex fb fl fo tt)) (hb : ∀ (s : Bs) H, s.length ≤ 1048576 → ACall P fb [.d (.str s)] H (fun r H' => r = .d (.int .i64 (badS s)) ∧ H' = H))
    (hl : ∀ (s : Bs) (n : Nat), n ≤ s.length → s.length ≤ 1048576 → ∀ H, ACall P fl [.d (.str s), .d (.int .i64 (n : Int))] H (fun r H' => r = .d (.int .i64 ((n + leadS false (s.drop n) : Nat) : Int)) ∧ H' = H))
    (ho : ∀ (s : Bs) (n : Nat), n < s.length → s.length ≤ 1048576 → ∀ H, ACall P fo [.d (.str s), .d (.int .i64 (n : Int))] H (One4Q (s.drop n) n H))
    (s : Bs) (hs : s.length ≤ 1048576) (H : Hp) :
    ACall P f [.d (.str s)] H (fun r H' => r = .tup [.d (.sl true 4 ((lexS s).1.map encTk)), .d (.int .i64 (lexS s).2.1), .d (.int .i64 (lexS s).2.2)] ∧ H' = H) := by
  obtain ⟨fnn, hf, hcf⟩ := h
  refine acall_fin hf hcf (by simp [irR4Lex]) fun hcl _ => ?_
  by_cases h1 : 16384 < s.length
  case pos =>
    have h1' : (16384 : Int) < s.length := by omega
    simp [irR4Lex, h1']
    simp [RetK, cut_self hcl, lexS, h1]
  have h1' : ¬ (16384 : Int) < s.length := by omega
  have hbs := hb s H hs
  have hL : lexS s = if 0 ≤ badS s then ([], 20, badS s) else lexF (s.length + 1) s 0 0 := by rw [lexS, if_neg h1]
  generalize lexS s = LS at hL
  generalize badS s = bs at hL hbs
  simp [irR4Lex, h1']
  refine CallK_of' hbs ?_
  simp
  refine BrK_split (fun h2 => ?_) (fun h2 => ?_)
  · have h2 : 0 ≤ bs := by simpa using h2
    rw [if_pos h2] at hL
    subst hL
    simp
    simp [RetK, cut_self hcl]
  have h2 : ¬ 0 ≤ bs := by simpa using h2
  rw [if_neg h2] at hL
  simp
  refine LoopM_of (H.length + 1) (fun d fr H' => ∃ (p : Nat) (acc : List Tk), p ≤ s.length ∧ s.length - p < d ∧ LS = combL acc (lexF d (s.drop p) p acc.length) ∧ acc.length ≤ 4000 ∧ fr 0 = .d (.str s) ∧ fr 6 = .osl true 4 (acc.map encTk) H.length ∧ fr 7 = .d (.int .i64 (p : Int)) ∧ H' = H ++ [.tok acc.length 4 tt]) (s.length + 1) (by simp) ⟨0, [], by omega, by omega, ?_, by simp, ?_⟩ ?_
  · simp only [List.drop_zero, List.length_nil]
    rw [hL]
    exact (combL_nil _ _ _ _).symm
  · simp [cut_appk hcl]
  rintro d fr H' ⟨p, acc, hp, hd, hLS, hacc, f0, f6, f7, rfl⟩
  obtain ⟨d', rfl⟩ : ∃ d', d = d' + 1 := ⟨d - 1, by omega⟩
  have g1 := hl s p hp hs (H ++ [.tok acc.length 4 tt])
  simp [f0, f7]
  have hll := lead_le false (s.drop p)
  simp only [List.length_drop] at hll
  rw [lexF] at hLS
  simp only [drop_add'] at hLS
  have htl := tokN_len (s.drop (p + leadS false (s.drop p)))
  simp only [List.length_drop] at htl
  have hsb := sub_ok (s := s) (n := p) (w := leadS false (s.drop p)) (by omega)
  have g2 := fun H => fun h => ho s (p + leadS false (s.drop p)) h hs H
  unfold One4Q at g2
  generalize hn : leadS false (s.drop p) = n at hLS hll g1 g2 htl hsb
  have hnil : p + n = s.length → tokN (s.drop (p + n)) = (0, 0, 0) := fun e => by rw [List.drop_eq_nil_of_le (by omega)]; rfl
  generalize hTT : tokN (s.drop (p + n)) = T at hLS g2 htl hnil
  obtain ⟨e, k, m⟩ := T
  simp only at hLS htl g2
  obtain ⟨t1, t2, t3, t4⟩ := htl
  refine CallK_of' g1 ?_
  simp [f0, f7, hsb]
  rcases Nat.lt_or_ge (p + n) s.length with hlt | hge
  · have hlt' : (p : Int) + n < s.length := by omega
    have hne : s.drop (p + n) ≠ [] := fun q => by have := List.drop_eq_nil_iff.1 q; omega
    simp [f0, hlt']
    have g3 := fun H => g2 H hlt
    simp only [Int.natCast_add] at g3
    refine CallK_of (g3 _) ?_
    rintro _ _ ⟨k', m', rfl, rfl, hx⟩
    by_cases he : e = 0
    case neg =>
      rw [if_pos he] at hLS
      have : LS = ([], e, ((p + n : Nat) : Int)) := by rw [hLS]; simp [combL, he]
      simp [he]
      simp [RetK, cut_app hcl, this]
    obtain ⟨rfl, hm'⟩ := hx he
    subst hm'
    rw [if_neg (by simp [he])] at hLS
    subst he
    have hsm := sub_ok (s := s) (n := p + n) (w := m) (by omega)
    simp only [Int.natCast_add] at hsm
    simp [f0]
    by_cases h4 : 4000 ≤ acc.length
    case pos =>
      have h4' : (4000 : Int) ≤ acc.length := by omega
      rw [if_pos h4] at hLS
      have : LS = ([], 5, ((p + n : Nat) : Int)) := by rw [hLS]; simp [combL]
      simp [f6, f7, h4']
      simp [RetK, cut_app hcl, this]
    have h4' : ¬ (4000 : Int) ≤ acc.length := by omega
    rw [if_neg h4] at hLS
    obtain ⟨t, ht⟩ : ∃ t : Tk, t = ⟨k', p + n, (s.drop p).take n, (s.drop (p + n)).take m⟩ := ⟨_, rfl⟩
    have hbt : acc.map encTk ++ [[.int .i64 k', .int .i64 ((p : Int) + n), .str ((s.drop p).take n), .str ((s.drop (p + n)).take m)]] = (acc ++ [t]).map encTk := by
      simp [encTk, ht]
    rw [← ht] at hLS
    have hap : (acc.map encTk).length = acc.length := by simp
    simp [f0, f6, f7, h4', hsm, appA]
    rw [if_pos (by omega)]
    simp
    by_cases hk : k' = 0
    · rw [if_pos hk] at hLS
      have hLS' : LS = (acc ++ [t], 0, 0) := by rw [hLS]; simp [combL]
      subst hk
      simp [hbt]
      simp [RetK, cut_app hcl, hLS']
    · rw [if_neg hk, ← combL_snoc] at hLS
      simp [hk, hbt]
      have hm1 := t3 rfl hne
      refine NextM_of (H.length + 1) d' (Nat.le_refl _) (by simp) (by omega) ⟨p + n + m, acc ++ [t], by omega, by omega, ?_, by simp; omega, ?_⟩
      · simpa using hLS
      · simp [f0, cut_appk hcl]
  · have hlt' : ¬ (p : Int) + n < s.length := by omega
    have hpn : p + n = s.length := by omega
    obtain ⟨rfl, h2⟩ := Prod.mk.inj (hnil hpn)
    obtain ⟨rfl, rfl⟩ := Prod.mk.inj h2
    rw [if_neg (by simp)] at hLS
    have hsm := sub_ok (s := s) (n := p + n) (w := 0) (by omega)
    simp only [Int.natCast_add, Int.natCast_zero, Int.add_zero] at hsm
    simp [f0, hlt']
    by_cases h4 : 4000 ≤ acc.length
    case pos =>
      have h4' : (4000 : Int) ≤ acc.length := by omega
      rw [if_pos h4] at hLS
      have : LS = ([], 5, ((p + n : Nat) : Int)) := by rw [hLS]; simp [combL]
      simp [f6, f7, h4']
      simp [RetK, cut_app hcl, this]
    have h4' : ¬ (4000 : Int) ≤ acc.length := by omega
    rw [if_neg h4] at hLS
    obtain ⟨t, ht⟩ : ∃ t : Tk, t = ⟨0, p + n, (s.drop p).take n, (s.drop (p + n)).take 0⟩ := ⟨_, rfl⟩
    have hbt : acc.map encTk ++ [[.int .i64 0, .int .i64 ((p : Int) + n), .str ((s.drop p).take n), .str ((s.drop (p + n)).take 0)]] = (acc ++ [t]).map encTk := by
      simp [encTk, ht]
    rw [← ht] at hLS
    have hap : (acc.map encTk).length = acc.length := by simp
    simp [f0, f6, f7, h4', hsm, appA]
    rw [if_pos (by omega)]
    simp
    rw [if_pos rfl] at hLS
    have hLS' : LS = (acc ++ [t], 0, 0) := by rw [hLS]; simp [combL]
    simp [RetK, cut_app hcl, hLS', ht, encTk]

end
end Go.Zam

namespace Go.Zam
set_option linter.all false
set_option maxRecDepth 100000

/-- how many members two lists can keep -/
def lcs : List Bs → List Bs → Nat
  | [], _ => 0
  | _ :: _, [] => 0
  | a :: A, b :: B => if a = b then lcs A B + 1 else max (lcs A (b :: B)) (lcs (a :: A) B)
termination_by A B => A.length + B.length

def IsLcs (A B : List Bs) (n : Nat) : Prop := (∃ C : List Bs, C.Sublist A ∧ C.Sublist B ∧ C.length = n) ∧ ∀ C : List Bs, C.Sublist A → C.Sublist B → C.length ≤ n

theorem IsLcs.uniq {A B : List Bs} {n m : Nat} (h : IsLcs A B n) (h' : IsLcs A B m) : n = m := by
  obtain ⟨⟨C, c1, c2, c3⟩, h2⟩ := h
  obtain ⟨⟨D, d1, d2, d3⟩, g2⟩ := h'
  have := g2 C c1 c2
  have := h2 D d1 d2
  omega
theorem IsLcs.symm {A B : List Bs} {n : Nat} (h : IsLcs A B n) : IsLcs B A n := by
  obtain ⟨⟨C, c1, c2, c3⟩, h2⟩ := h
  exact ⟨⟨C, c2, c1, c3⟩, fun D d1 d2 => h2 D d2 d1⟩
theorem isLcs_cons {a : Bs} {A B : List Bs} {n : Nat} (h : IsLcs A B n) : IsLcs (a :: A) (a :: B) (n + 1) := by
  obtain ⟨⟨C, c1, c2, c3⟩, h2⟩ := h
  refine ⟨⟨a :: C, c1.cons_cons a, c2.cons_cons a, by simp [c3]⟩, fun D d1 d2 => ?_⟩
  cases D with
  | nil => simp
  | cons d D =>
    have e1 : D.Sublist A := by
      cases d1 with
      | cons _ h => exact (List.sublist_cons_self d D).trans h
      | cons_cons _ h => exact h
    have e2 : D.Sublist B := by
      cases d2 with
      | cons _ h => exact (List.sublist_cons_self d D).trans h
      | cons_cons _ h => exact h
    have := h2 D e1 e2
    simp; omega

theorem isLcs_ne {a b : Bs} {A B : List Bs} {n m : Nat} (hab : a ≠ b) (h1 : IsLcs A (b :: B) n) (h2 : IsLcs (a :: A) B m) : IsLcs (a :: A) (b :: B) (max n m) := by
  obtain ⟨⟨C, c1, c2, c3⟩, g1⟩ := h1
  obtain ⟨⟨D, d1, d2, d3⟩, g2⟩ := h2
  refine ⟨?_, fun E e1 e2 => ?_⟩
  · rcases Nat.le_total n m with h | h
    · exact ⟨D, d1, d2.cons b, by rw [d3]; omega⟩
    · exact ⟨C, c1.cons a, c2, by rw [c3]; omega⟩
  · cases e1 with
    | cons _ h => have := g1 E h e2; omega
    | cons_cons _ h =>
      cases e2 with
      | cons _ h' => have := g2 _ (h.cons_cons a) h'; omega
      | cons_cons _ h' => exact absurd rfl hab

theorem lcs_is : ∀ (A B : List Bs), IsLcs A B (lcs A B)
  | [], B => by
    rw [lcs]
    exact ⟨⟨[], List.nil_sublist _, List.nil_sublist _, rfl⟩, fun C c _ => by rw [List.sublist_nil.1 c]; simp⟩
  | a :: A, [] => by
    rw [lcs]
    exact ⟨⟨[], List.nil_sublist _, List.nil_sublist _, rfl⟩, fun C _ c => by rw [List.sublist_nil.1 c]; simp⟩
  | a :: A, b :: B => by
    rw [lcs]
    by_cases h : a = b
    · subst h
      rw [if_pos rfl]
      exact isLcs_cons (lcs_is A B)
    · rw [if_neg h]
      exact isLcs_ne h (lcs_is A (b :: B)) (lcs_is (a :: A) B)
termination_by A B => A.length + B.length

theorem lcs_symm (A B : List Bs) : lcs A B = lcs B A := (lcs_is A B).uniq (lcs_is B A).symm
theorem lcs_cons (a : Bs) (A B : List Bs) : lcs (a :: A) (a :: B) = lcs A B + 1 := by rw [lcs, if_pos rfl]
theorem lcs_le (A B : List Bs) : lcs A B ≤ A.length ∧ lcs A B ≤ B.length := by
  obtain ⟨⟨C, c1, c2, c3⟩, -⟩ := lcs_is A B
  exact ⟨by rw [← c3]; exact c1.length_le, by rw [← c3]; exact c2.length_le⟩
end Go.Zam

namespace Go.Zam
set_option linter.all false
set_option maxRecDepth 100000

/-- how many of each list a run takes -/
def skipN : List Bs → List Bs → Nat × Nat
  | [], [] => (0, 0)
  | _ :: A, [] => ((skipN A []).1 + 1, (skipN A []).2)
  | [], _ :: B => ((skipN [] B).1, (skipN [] B).2 + 1)
  | a :: A, b :: B => if a = b then (0, 0) else if lcs (a :: A) B ≤ lcs A (b :: B) then ((skipN A (b :: B)).1 + 1, (skipN A (b :: B)).2) else ((skipN (a :: A) B).1, (skipN (a :: A) B).2 + 1)
termination_by A B => A.length + B.length

/-- both are at their ends, or go on alike -/
def Meet : List Bs → List Bs → Prop
  | [], [] => True
  | a :: _, b :: _ => a = b
  | _, _ => False

theorem lcs_nil (A : List Bs) : lcs A [] = 0 := by cases A <;> rw [lcs]
theorem nil_lcs (A : List Bs) : lcs [] A = 0 := by rw [lcs]

theorem skipN_spec : ∀ (A B : List Bs), (skipN A B).1 ≤ A.length ∧ (skipN A B).2 ≤ B.length ∧ lcs (A.drop (skipN A B).1) (B.drop (skipN A B).2) = lcs A B ∧ Meet (A.drop (skipN A B).1) (B.drop (skipN A B).2) ∧ (¬ Meet A B → 1 ≤ (skipN A B).1 + (skipN A B).2)
  | [], [] => by rw [skipN]; exact ⟨Nat.le_refl _, Nat.le_refl _, rfl, trivial, fun h => absurd trivial h⟩
  | a :: A, [] => by
    obtain ⟨h1, h2, h3, h4, -⟩ := skipN_spec A []
    rw [skipN]
    refine ⟨by simp; omega, h2, ?_, ?_, fun _ => by simp; omega⟩
    · rw [List.drop_succ_cons, h3, lcs_nil, lcs_nil]
    · rw [List.drop_succ_cons]; exact h4
  | [], b :: B => by
    obtain ⟨h1, h2, h3, h4, -⟩ := skipN_spec [] B
    rw [skipN]
    refine ⟨h1, by simp; omega, ?_, ?_, fun _ => by simp; omega⟩
    · rw [List.drop_succ_cons, h3, nil_lcs, nil_lcs]
    · rw [List.drop_succ_cons]; exact h4
  | a :: A, b :: B => by
    rw [skipN]
    by_cases h : a = b
    · rw [if_pos h]
      exact ⟨by simp, by simp, rfl, h, fun hn => absurd h hn⟩
    rw [if_neg h]
    have hl : lcs (a :: A) (b :: B) = max (lcs A (b :: B)) (lcs (a :: A) B) := by rw [lcs, if_neg h]
    by_cases hc : lcs (a :: A) B ≤ lcs A (b :: B)
    · rw [if_pos hc]
      obtain ⟨h1, h2, h3, h4, -⟩ := skipN_spec A (b :: B)
      refine ⟨by simp; omega, h2, ?_, ?_, fun _ => by simp; omega⟩
      · rw [List.drop_succ_cons, h3, hl]; omega
      · rw [List.drop_succ_cons]; exact h4
    · rw [if_neg hc]
      obtain ⟨h1, h2, h3, h4, -⟩ := skipN_spec (a :: A) B
      refine ⟨h1, by simp at h2 ⊢; omega, ?_, ?_, fun _ => by simp; omega⟩
      · rw [List.drop_succ_cons, h3, hl]; omega
      · rw [List.drop_succ_cons]; exact h4
termination_by A B => A.length + B.length

/-- units a up to b are taken out, c up to d are put in -/
structure Rn where
  a : Nat
  b : Nat
  c : Nat
  d : Nat

def headEq : List Bs → List Bs → Bool
  | a :: _, b :: _ => decide (a = b)
  | _, _ => false

def runsF : Nat → List Bs → List Bs → Nat → Nat → List Rn
  | 0, _, _, _, _ => []
  | f + 1, A, B, i, j => if A = [] ∧ B = [] then [] else if headEq A B = true then runsF f A.tail B.tail (i + 1) (j + 1) else
    ⟨i, i + (skipN A B).1, j, j + (skipN A B).2⟩ :: runsF f (A.drop (skipN A B).1) (B.drop (skipN A B).2) (i + (skipN A B).1) (j + (skipN A B).2)

def runsL (A B : List Bs) : List Rn := runsF (A.length + B.length + 1) A B 0 0

/-- runs that lead from one place to the ends -/
inductive Way (o : Prop) (A B : List Bs) : Nat → Nat → List Rn → Prop
  | fin {i j : Nat} (h1 : A.drop i = []) (h2 : B.drop j = []) : Way o A B i j []
  | keep {i j : Nat} {u : Bs} {A' B' : List Bs} {rs : List Rn} (h1 : A.drop i = u :: A') (h2 : B.drop j = u :: B') (h : Way o A B (i + 1) (j + 1) rs) : Way o A B i j rs
  | run {i j x y : Nat} {rs : List Rn} (h0 : ¬ Meet (A.drop i) (B.drop j)) (h1 : i + x ≤ A.length) (h2 : j + y ≤ B.length) (h3 : 1 ≤ x + y) (h4 : Meet (A.drop (i + x)) (B.drop (j + y))) (h5 : o → lcs (A.drop (i + x)) (B.drop (j + y)) = lcs (A.drop i) (B.drop j)) (h : Way o A B (i + x) (j + y) rs) : Way o A B i j (⟨i, i + x, j, j + y⟩ :: rs)

theorem runsF_way {o : Prop} (A B : List Bs) : ∀ (f i j : Nat), i ≤ A.length → j ≤ B.length → (A.drop i).length + (B.drop j).length < f → Way o A B i j (runsF f (A.drop i) (B.drop j) i j)
  | 0, i, j, _, _, h => by omega
  | f + 1, i, j, hi, hj, h => by
    have hsp := skipN_spec (A.drop i) (B.drop j)
    have run : ¬ Meet (A.drop i) (B.drop j) → Way o A B i j (⟨i, i + (skipN (A.drop i) (B.drop j)).1, j, j + (skipN (A.drop i) (B.drop j)).2⟩ :: runsF f ((A.drop i).drop (skipN (A.drop i) (B.drop j)).1) ((B.drop j).drop (skipN (A.drop i) (B.drop j)).2) (i + (skipN (A.drop i) (B.drop j)).1) (j + (skipN (A.drop i) (B.drop j)).2)) := fun hm => by
      obtain ⟨s1, s2, s3, s4, s5⟩ := hsp
      have s5 := s5 hm
      simp only [List.drop_drop, List.length_drop] at s1 s2 s3 s4 h ⊢
      exact .run hm (by omega) (by omega) s5 s4 (fun _ => s3) (runsF_way A B f _ _ (by omega) (by omega) (by simp only [List.length_drop]; omega))
    rw [runsF]
    by_cases hE : A.drop i = [] ∧ B.drop j = []
    · rw [if_pos hE]; exact .fin hE.1 hE.2
    rw [if_neg hE]
    by_cases hh : headEq (A.drop i) (B.drop j) = true
    · rw [if_pos hh]
      cases hA : A.drop i with
      | nil => rw [hA] at hh; simp [headEq] at hh
      | cons a A' =>
        cases hB : B.drop j with
        | nil => rw [hA, hB] at hh; simp [headEq] at hh
        | cons b B' =>
          rw [hA, hB] at hh
          have he : a = b := by simpa [headEq] using hh
          subst he
          have ha : A.drop (i + 1) = A' := by rw [← List.drop_drop, hA]; rfl
          have hb : B.drop (j + 1) = B' := by rw [← List.drop_drop, hB]; rfl
          have li : i < A.length := by
            rcases Nat.lt_or_ge i A.length with q | q
            · exact q
            · rw [List.drop_eq_nil_of_le q] at hA; cases hA
          have lj : j < B.length := by
            rcases Nat.lt_or_ge j B.length with q | q
            · exact q
            · rw [List.drop_eq_nil_of_le q] at hB; cases hB
          have := runsF_way (o := o) A B f (i + 1) (j + 1) (by omega) (by omega) (by simp only [List.length_drop] at h ⊢; omega)
          rw [ha, hb] at this
          exact .keep hA hB this
    · rw [if_neg hh]
      refine run fun hm => ?_
      cases hA : A.drop i with
      | nil =>
        cases hB : B.drop j with
        | nil => exact hE ⟨hA, hB⟩
        | cons b B' => rw [hA, hB] at hm; exact hm
      | cons a A' =>
        cases hB : B.drop j with
        | nil => rw [hA, hB] at hm; exact hm
        | cons b B' => rw [hA, hB] at hm hh; exact hh (by have e : a = b := hm; simp [headEq, e])

theorem runsL_way {o : Prop} (A B : List Bs) : Way o A B 0 0 (runsL A B) := by
  have := runsF_way (o := o) A B (A.length + B.length + 1) 0 0 (Nat.zero_le _) (Nat.zero_le _) (by simp)
  simpa [runsL] using this

end Go.Zam

namespace Go.Zam
set_option linter.all false
set_option maxRecDepth 100000

/-- where a unit begins -/
def posU (A : List Bs) (i : Nat) : Nat := (A.take i).flatten.length

theorem posU_succ {A : List Bs} {i : Nat} {u : Bs} {A' : List Bs} (h : A.drop i = u :: A') : posU A (i + 1) = posU A i + u.length := by
  have hi : i < A.length := by
    rcases Nat.lt_or_ge i A.length with q | q
    · exact q
    · rw [List.drop_eq_nil_of_le q] at h; cases h
  have hu : A[i] = u := by
    have := List.drop_eq_getElem_cons hi
    rw [h] at this
    exact (List.cons.inj this).1.symm
  unfold posU
  rw [List.take_succ_eq_append_getElem hi, List.flatten_append, List.length_append, hu]
  simp
theorem posU_all (A : List Bs) {i : Nat} (h : A.drop i = []) : posU A i = A.flatten.length := by
  unfold posU
  rw [List.take_of_length_le (List.drop_eq_nil_iff.1 h)]
/-- a run as an edit -/
def edR (base : Nat) (A B : List Bs) (r : Rn) : Ed := ⟨((base + posU A r.a : Nat) : Int), ((base + posU A r.b : Nat) : Int), ((B.drop r.c).take (r.d - r.c)).flatten⟩

end Go.Zam

namespace Go.Zam
set_option linter.all false
set_option maxRecDepth 100000

def irDUnits (t1 t2 : Nat) : IFn :=
 { nt := 38, res := [.t 2], body := (
  .seq (.ops [
    ⟨(some 2), none, .mv (.c (.sl true 2 []))⟩] false)
  (.seq (.ops [
    ⟨(some 3), none, .nilT 2 t1⟩] false)
  (.seq (.ops [
    ⟨(some 4), none, .mv (.c (.int .i64 0))⟩] false)
  (.seq (.seq (.ops [
     ⟨(some 9), none, .mv (.t 0)⟩,
     ⟨(some 10), none, .lenL (.t 9)⟩,
     ⟨(some 11), none, .mv (.c (.int .i64 0))⟩] false)
   (.blk 0 (.loop (.seq (.ops [
       ⟨(some 12), none, .bin .lss (.t 11) (.t 10)⟩] false)
     (.seq (.cond (.t 12) (.skip)
      (.exit 0))
     (.seq (.blk 1 (.seq (.ops [
         ⟨(some 13), none, .iaddr 4 (.t 9) (.t 11)⟩,
         ⟨(some 14), none, .load 4 true (.t 13)⟩,
         ⟨(some 6), none, .alloc t2 [(.int .i64 0), (.int .i64 0), (.str []), (.str [])]⟩,
         ⟨none, none, .store 4 (.t 6) (.t 14)⟩] false)
       (.seq (.ops [
         ⟨(some 15), none, .faddr 2 (.t 6)⟩,
         ⟨(some 16), none, .load 1 false (.t 15)⟩,
         ⟨(some 17), none, .faddr 3 (.t 6)⟩,
         ⟨(some 18), none, .load 1 false (.t 17)⟩,
         ⟨(some 19), none, .build [(.str []), (.str [])] [(0, 1, (.t 16)), (1, 1, (.t 18))]⟩,
         ⟨(some 20), none, .mv (.c (.int .i64 0))⟩] false)
       (.blk 2 (.loop (.seq (.ops [
           ⟨(some 21), none, .bin .lss (.t 20) (.c (.int .i64 2))⟩] false)
         (.seq (.cond (.t 21) (.skip)
          (.exit 2))
         (.seq (.blk 3 (.seq (.ops [
             ⟨(some 22), none, .aidx 2 (.t 19) (.t 20)⟩,
             ⟨(some 8), none, .mv (.t 22)⟩] false)
           (.seq (.seq (.ops [
              ⟨(some 23), none, .mv (.t 8)⟩,
              ⟨(some 24), none, .bin .neq (.t 23) (.c (.str []))⟩] false)
            (.cond (.t 24) (.ops [
              ⟨(some 25), none, .mv (.t 3)⟩,
              ⟨(some 26), none, .mv (.t 8)⟩,
              ⟨(some 27), none, .mv (.t 4)⟩,
              ⟨(some 28), none, .build [(.str []), (.int .i64 0)] [(0, 1, (.t 26)), (1, 1, (.t 27))]⟩,
              ⟨(some 29), none, .bslice 2 [(.t 28)]⟩,
              ⟨(some 30), none, .app 2 24 t1 (.t 25) (.t 29)⟩,
              ⟨(some 3), none, .mv (.t 30)⟩] false)
            (.skip)))
           (.ops [
            ⟨(some 31), none, .mv (.t 4)⟩,
            ⟨(some 32), none, .mv (.t 8)⟩,
            ⟨(some 33), none, .lenS (.t 32)⟩,
            ⟨(some 34), none, .bin .add (.t 31) (.t 33)⟩,
            ⟨(some 4), none, .mv (.t 34)⟩] false))))
         (.ops [
          ⟨(some 35), none, .bin .add (.t 20) (.c (.int .i64 1))⟩,
          ⟨(some 20), none, .mv (.t 35)⟩] false)))))))))
     (.ops [
      ⟨(some 36), none, .bin .add (.t 11) (.c (.int .i64 1))⟩,
      ⟨(some 11), none, .mv (.t 36)⟩] false)))))))
  (.seq (.ops [
    ⟨(some 37), none, .mv (.t 3)⟩,
    ⟨(some 2), none, .mv (.t 37)⟩] false)
  (.ret)))))) }

def irDAlike : IFn :=
 { nt := 32, res := [.t 4], body := (
  .seq (.ops [
    ⟨(some 4), none, .mv (.c (.int .i64 0))⟩] false)
  (.seq (.ops [
    ⟨(some 5), none, .mv (.c (.int .i64 0))⟩] false)
  (.seq (.blk 0 (.loop (.seq (.seq (.ops [
        ⟨(some 6), none, .mv (.t 5)⟩,
        ⟨(some 7), none, .mv (.t 0)⟩,
        ⟨(some 8), none, .lenL (.t 7)⟩,
        ⟨(some 9), none, .bin .lss (.t 6) (.t 8)⟩,
        ⟨(some 10), none, .mv (.t 9)⟩,
        ⟨(some 11), (some (10, true)), .mv (.t 5)⟩,
        ⟨(some 12), (some (10, true)), .mv (.t 1)⟩,
        ⟨(some 13), (some (10, true)), .lenL (.t 12)⟩,
        ⟨(some 14), (some (10, true)), .bin .lss (.t 11) (.t 13)⟩,
        ⟨(some 15), none, .pick (.t 10) (.t 14) (.c (.bool false))⟩,
        ⟨(some 16), none, .mv (.t 15)⟩,
        ⟨(some 17), (some (16, true)), .mv (.t 0)⟩,
        ⟨(some 18), (some (16, true)), .mv (.t 5)⟩,
        ⟨(some 19), (some (16, true)), .iaddr 2 (.t 17) (.t 18)⟩,
        ⟨(some 20), (some (16, true)), .faddr 0 (.t 19)⟩,
        ⟨(some 21), (some (16, true)), .load 1 false (.t 20)⟩,
        ⟨(some 22), (some (16, true)), .mv (.t 1)⟩,
        ⟨(some 23), (some (16, true)), .mv (.t 5)⟩,
        ⟨(some 24), (some (16, true)), .iaddr 2 (.t 22) (.t 23)⟩,
        ⟨(some 25), (some (16, true)), .faddr 0 (.t 24)⟩,
        ⟨(some 26), (some (16, true)), .load 1 false (.t 25)⟩,
        ⟨(some 27), (some (16, true)), .bin .eql (.t 21) (.t 26)⟩,
        ⟨(some 28), none, .pick (.t 16) (.t 27) (.c (.bool false))⟩] true)
      (.cond (.t 28) (.skip)
      (.exit 0)))
     (.blk 1 (.ops [
       ⟨(some 29), none, .mv (.t 5)⟩,
       ⟨(some 30), none, .bin .add (.t 29) (.c (.int .i64 1))⟩,
       ⟨(some 5), none, .mv (.t 30)⟩] false)))))
  (.seq (.ops [
    ⟨(some 31), none, .mv (.t 5)⟩,
    ⟨(some 4), none, .mv (.t 31)⟩] false)
  (.ret))))) }

def irDTail : IFn :=
 { nt := 40, res := [.t 4], body := (
  .seq (.ops [
    ⟨(some 4), none, .mv (.c (.int .i64 0))⟩] false)
  (.seq (.ops [
    ⟨(some 5), none, .mv (.c (.int .i64 0))⟩] false)
  (.seq (.blk 0 (.loop (.seq (.seq (.ops [
        ⟨(some 6), none, .mv (.t 5)⟩,
        ⟨(some 7), none, .mv (.t 0)⟩,
        ⟨(some 8), none, .lenL (.t 7)⟩,
        ⟨(some 9), none, .bin .lss (.t 6) (.t 8)⟩,
        ⟨(some 10), none, .mv (.t 9)⟩,
        ⟨(some 11), (some (10, true)), .mv (.t 5)⟩,
        ⟨(some 12), (some (10, true)), .mv (.t 1)⟩,
        ⟨(some 13), (some (10, true)), .lenL (.t 12)⟩,
        ⟨(some 14), (some (10, true)), .bin .lss (.t 11) (.t 13)⟩,
        ⟨(some 15), none, .pick (.t 10) (.t 14) (.c (.bool false))⟩,
        ⟨(some 16), none, .mv (.t 15)⟩,
        ⟨(some 17), (some (16, true)), .mv (.t 0)⟩,
        ⟨(some 18), (some (16, true)), .mv (.t 0)⟩,
        ⟨(some 19), (some (16, true)), .lenL (.t 18)⟩,
        ⟨(some 20), (some (16, true)), .bin .sub (.t 19) (.c (.int .i64 1))⟩,
        ⟨(some 21), (some (16, true)), .mv (.t 5)⟩,
        ⟨(some 22), (some (16, true)), .bin .sub (.t 20) (.t 21)⟩,
        ⟨(some 23), (some (16, true)), .iaddr 2 (.t 17) (.t 22)⟩,
        ⟨(some 24), (some (16, true)), .faddr 0 (.t 23)⟩,
        ⟨(some 25), (some (16, true)), .load 1 false (.t 24)⟩,
        ⟨(some 26), (some (16, true)), .mv (.t 1)⟩,
        ⟨(some 27), (some (16, true)), .mv (.t 1)⟩,
        ⟨(some 28), (some (16, true)), .lenL (.t 27)⟩,
        ⟨(some 29), (some (16, true)), .bin .sub (.t 28) (.c (.int .i64 1))⟩,
        ⟨(some 30), (some (16, true)), .mv (.t 5)⟩,
        ⟨(some 31), (some (16, true)), .bin .sub (.t 29) (.t 30)⟩,
        ⟨(some 32), (some (16, true)), .iaddr 2 (.t 26) (.t 31)⟩,
        ⟨(some 33), (some (16, true)), .faddr 0 (.t 32)⟩,
        ⟨(some 34), (some (16, true)), .load 1 false (.t 33)⟩,
        ⟨(some 35), (some (16, true)), .bin .eql (.t 25) (.t 34)⟩,
        ⟨(some 36), none, .pick (.t 16) (.t 35) (.c (.bool false))⟩] true)
      (.cond (.t 36) (.skip)
      (.exit 0)))
     (.blk 1 (.ops [
       ⟨(some 37), none, .mv (.t 5)⟩,
       ⟨(some 38), none, .bin .add (.t 37) (.c (.int .i64 1))⟩,
       ⟨(some 5), none, .mv (.t 38)⟩] false)))))
  (.seq (.ops [
    ⟨(some 39), none, .mv (.t 5)⟩,
    ⟨(some 4), none, .mv (.t 39)⟩] false)
  (.ret))))) }

def irDEnd (t1 : Nat) : IFn :=
 { nt := 19, res := [.t 2], body := (
  .seq (.ops [
    ⟨(some 2), none, .mv (.c (.int .i64 0))⟩] false)
  (.seq (.seq (.ops [
     ⟨(some 4), none, .mv (.t 0)⟩,
     ⟨(some 5), none, .lenL (.t 4)⟩,
     ⟨(some 6), none, .bin .eql (.t 5) (.c (.int .i64 0))⟩] false)
   (.cond (.t 6) (.seq (.ops [
      ⟨(some 2), none, .mv (.c (.int .i64 0))⟩] false)
    (.ret))
   (.skip)))
  (.seq (.ops [
    ⟨(some 7), none, .mv (.t 0)⟩,
    ⟨(some 8), none, .mv (.t 0)⟩,
    ⟨(some 9), none, .lenL (.t 8)⟩,
    ⟨(some 10), none, .bin .sub (.t 9) (.c (.int .i64 1))⟩,
    ⟨(some 11), none, .iaddr 2 (.t 7) (.t 10)⟩,
    ⟨(some 12), none, .load 2 true (.t 11)⟩,
    ⟨(some 3), none, .alloc t1 [(.str []), (.int .i64 0)]⟩,
    ⟨none, none, .store 2 (.t 3) (.t 12)⟩] false)
  (.seq (.ops [
    ⟨(some 13), none, .faddr 1 (.t 3)⟩,
    ⟨(some 14), none, .load 1 false (.t 13)⟩,
    ⟨(some 15), none, .faddr 0 (.t 3)⟩,
    ⟨(some 16), none, .load 1 false (.t 15)⟩,
    ⟨(some 17), none, .lenS (.t 16)⟩,
    ⟨(some 18), none, .bin .add (.t 14) (.t 17)⟩,
    ⟨(some 2), none, .mv (.t 18)⟩] false)
  (.ret))))) }

def irDEdits (c1 c2 t1 t2 t3 t4 : Nat) : IFn :=
 { nt := 41, res := [.t 8], body := (
  .seq (.ops [
    ⟨(some 5), none, .box t1 1 (.t 1)⟩,
    ⟨(some 7), none, .box t2 1 (.t 3)⟩,
    ⟨(some 8), none, .mv (.c (.sl true 3 []))⟩] false)
  (.seq (.ops [
    ⟨(some 9), none, .nilT 3 t3⟩] false)
  (.seq (.ops [
    ⟨(some 13), none, .mkfn (.func c1) [] [(.t 5), (.t 7)]⟩,
    ⟨(some 10), none, .mv (.t 13)⟩] false)
  (.seq (.seq (.ops [
     ⟨(some 14), none, .mv (.t 0)⟩,
     ⟨(some 15), none, .lenL (.t 14)⟩,
     ⟨(some 16), none, .mv (.c (.int .i64 0))⟩] false)
   (.blk 0 (.loop (.seq (.ops [
       ⟨(some 17), none, .bin .lss (.t 16) (.t 15)⟩] false)
     (.seq (.cond (.t 17) (.skip)
      (.exit 0))
     (.seq (.blk 1 (.seq (.ops [
         ⟨(some 18), none, .iaddr 4 (.t 14) (.t 16)⟩,
         ⟨(some 19), none, .load 4 true (.t 18)⟩,
         ⟨(some 12), none, .alloc t4 [(.int .i64 0), (.int .i64 0), (.int .i64 0), (.int .i64 0)]⟩,
         ⟨none, none, .store 4 (.t 12) (.t 19)⟩] false)
       (.ops [
        ⟨(some 20), none, .mv (.t 9)⟩,
        ⟨(some 21), none, .mv (.t 10)⟩,
        ⟨(some 22), none, .faddr 0 (.t 12)⟩,
        ⟨(some 23), none, .load 1 false (.t 22)⟩,
        ⟨(some 24), none, .callv (.t 21) [(.t 23)]⟩,
        ⟨(some 25), none, .mv (.t 10)⟩,
        ⟨(some 26), none, .faddr 1 (.t 12)⟩,
        ⟨(some 27), none, .load 1 false (.t 26)⟩,
        ⟨(some 28), none, .callv (.t 25) [(.t 27)]⟩,
        ⟨(some 29), none, .mv (.t 2)⟩,
        ⟨(some 30), none, .faddr 2 (.t 12)⟩,
        ⟨(some 31), none, .load 1 false (.t 30)⟩,
        ⟨(some 32), none, .faddr 3 (.t 12)⟩,
        ⟨(some 33), none, .load 1 false (.t 32)⟩,
        ⟨(some 34), none, .slice 2 (.t 29) (some (.t 31)) (some (.t 33)) none⟩,
        ⟨(some 35), none, .call c2 [(.t 34)]⟩,
        ⟨(some 36), none, .build [(.int .i64 0), (.int .i64 0), (.str [])] [(0, 1, (.t 24)), (1, 1, (.t 28)), (2, 1, (.t 35))]⟩,
        ⟨(some 37), none, .bslice 3 [(.t 36)]⟩,
        ⟨(some 38), none, .app 3 32 t3 (.t 20) (.t 37)⟩,
        ⟨(some 9), none, .mv (.t 38)⟩] true)))
     (.ops [
      ⟨(some 39), none, .bin .add (.t 16) (.c (.int .i64 1))⟩,
      ⟨(some 16), none, .mv (.t 39)⟩] false)))))))
  (.seq (.ops [
    ⟨(some 40), none, .mv (.t 9)⟩,
    ⟨(some 8), none, .mv (.t 40)⟩] false)
  (.ret)))))) }

def irDRuns (c1 t1 : Nat) : IFn :=
 { nt := 128, res := [.t 4], body := (
  .seq (.ops [
    ⟨(some 4), none, .mv (.c (.sl true 4 []))⟩] false)
  (.seq (.ops [
    ⟨(some 10), none, .mv (.t 0)⟩,
    ⟨(some 11), none, .mv (.t 1)⟩,
    ⟨(some 12), none, .call c1 [(.t 10), (.t 11)]⟩,
    ⟨(some 5), none, .mv (.t 12)⟩] false)
  (.seq (.ops [
    ⟨(some 6), none, .nilT 4 t1⟩] false)
  (.seq (.ops [
    ⟨(some 7), none, .mv (.c (.int .i64 0))⟩,
    ⟨(some 8), none, .mv (.c (.int .i64 0))⟩] false)
  (.seq (.blk 0 (.loop (.seq (.seq (.ops [
        ⟨(some 13), none, .mv (.t 7)⟩,
        ⟨(some 14), none, .mv (.t 0)⟩,
        ⟨(some 15), none, .lenL (.t 14)⟩,
        ⟨(some 16), none, .bin .lss (.t 13) (.t 15)⟩,
        ⟨(some 17), none, .mv (.t 16)⟩,
        ⟨(some 18), (some (17, false)), .mv (.t 8)⟩,
        ⟨(some 19), (some (17, false)), .mv (.t 1)⟩,
        ⟨(some 20), (some (17, false)), .lenL (.t 19)⟩,
        ⟨(some 21), (some (17, false)), .bin .lss (.t 18) (.t 20)⟩,
        ⟨(some 22), none, .pick (.t 17) (.c (.bool true)) (.t 21)⟩] false)
      (.cond (.t 22) (.skip)
      (.exit 0)))
     (.blk 1 (.seq (.seq (.ops [
         ⟨(some 23), none, .mv (.t 7)⟩,
         ⟨(some 24), none, .mv (.t 0)⟩,
         ⟨(some 25), none, .lenL (.t 24)⟩,
         ⟨(some 26), none, .bin .lss (.t 23) (.t 25)⟩,
         ⟨(some 27), none, .mv (.t 26)⟩,
         ⟨(some 28), (some (27, true)), .mv (.t 8)⟩,
         ⟨(some 29), (some (27, true)), .mv (.t 1)⟩,
         ⟨(some 30), (some (27, true)), .lenL (.t 29)⟩,
         ⟨(some 31), (some (27, true)), .bin .lss (.t 28) (.t 30)⟩,
         ⟨(some 32), none, .pick (.t 27) (.t 31) (.c (.bool false))⟩,
         ⟨(some 33), none, .mv (.t 32)⟩,
         ⟨(some 34), (some (33, true)), .mv (.t 0)⟩,
         ⟨(some 35), (some (33, true)), .mv (.t 7)⟩,
         ⟨(some 36), (some (33, true)), .iaddr 2 (.t 34) (.t 35)⟩,
         ⟨(some 37), (some (33, true)), .faddr 0 (.t 36)⟩,
         ⟨(some 38), (some (33, true)), .load 1 false (.t 37)⟩,
         ⟨(some 39), (some (33, true)), .mv (.t 1)⟩,
         ⟨(some 40), (some (33, true)), .mv (.t 8)⟩,
         ⟨(some 41), (some (33, true)), .iaddr 2 (.t 39) (.t 40)⟩,
         ⟨(some 42), (some (33, true)), .faddr 0 (.t 41)⟩,
         ⟨(some 43), (some (33, true)), .load 1 false (.t 42)⟩,
         ⟨(some 44), (some (33, true)), .bin .eql (.t 38) (.t 43)⟩,
         ⟨(some 45), none, .pick (.t 33) (.t 44) (.c (.bool false))⟩] true)
       (.cond (.t 45) (.seq (.ops [
          ⟨(some 46), none, .mv (.t 7)⟩,
          ⟨(some 47), none, .bin .add (.t 46) (.c (.int .i64 1))⟩,
          ⟨(some 48), none, .mv (.t 8)⟩,
          ⟨(some 49), none, .bin .add (.t 48) (.c (.int .i64 1))⟩,
          ⟨(some 7), none, .mv (.t 47)⟩,
          ⟨(some 8), none, .mv (.t 49)⟩] false)
        (.exit 1))
       (.skip)))
      (.seq (.ops [
        ⟨(some 50), none, .mv (.t 7)⟩,
        ⟨(some 51), none, .mv (.t 8)⟩,
        ⟨(some 52), none, .build [(.int .i64 0), (.int .i64 0), (.int .i64 0), (.int .i64 0)] [(0, 1, (.t 50)), (2, 1, (.t 51))]⟩,
        ⟨(some 9), none, .alloc t1 [(.int .i64 0), (.int .i64 0), (.int .i64 0), (.int .i64 0)]⟩,
        ⟨none, none, .store 4 (.t 9) (.t 52)⟩] false)
      (.seq (.blk 2 (.loop (.seq (.seq (.ops [
            ⟨(some 53), none, .mv (.t 7)⟩,
            ⟨(some 54), none, .mv (.t 0)⟩,
            ⟨(some 55), none, .lenL (.t 54)⟩,
            ⟨(some 56), none, .bin .lss (.t 53) (.t 55)⟩,
            ⟨(some 57), none, .mv (.t 56)⟩,
            ⟨(some 58), (some (57, false)), .mv (.t 8)⟩,
            ⟨(some 59), (some (57, false)), .mv (.t 1)⟩,
            ⟨(some 60), (some (57, false)), .lenL (.t 59)⟩,
            ⟨(some 61), (some (57, false)), .bin .lss (.t 58) (.t 60)⟩,
            ⟨(some 62), none, .pick (.t 57) (.c (.bool true)) (.t 61)⟩] false)
          (.cond (.t 62) (.skip)
          (.exit 2)))
         (.blk 3 (.seq (.seq (.ops [
             ⟨(some 63), none, .mv (.t 7)⟩,
             ⟨(some 64), none, .mv (.t 0)⟩,
             ⟨(some 65), none, .lenL (.t 64)⟩,
             ⟨(some 66), none, .bin .lss (.t 63) (.t 65)⟩,
             ⟨(some 67), none, .mv (.t 66)⟩,
             ⟨(some 68), (some (67, true)), .mv (.t 8)⟩,
             ⟨(some 69), (some (67, true)), .mv (.t 1)⟩,
             ⟨(some 70), (some (67, true)), .lenL (.t 69)⟩,
             ⟨(some 71), (some (67, true)), .bin .lss (.t 68) (.t 70)⟩,
             ⟨(some 72), none, .pick (.t 67) (.t 71) (.c (.bool false))⟩,
             ⟨(some 73), none, .mv (.t 72)⟩,
             ⟨(some 74), (some (73, true)), .mv (.t 0)⟩,
             ⟨(some 75), (some (73, true)), .mv (.t 7)⟩,
             ⟨(some 76), (some (73, true)), .iaddr 2 (.t 74) (.t 75)⟩,
             ⟨(some 77), (some (73, true)), .faddr 0 (.t 76)⟩,
             ⟨(some 78), (some (73, true)), .load 1 false (.t 77)⟩,
             ⟨(some 79), (some (73, true)), .mv (.t 1)⟩,
             ⟨(some 80), (some (73, true)), .mv (.t 8)⟩,
             ⟨(some 81), (some (73, true)), .iaddr 2 (.t 79) (.t 80)⟩,
             ⟨(some 82), (some (73, true)), .faddr 0 (.t 81)⟩,
             ⟨(some 83), (some (73, true)), .load 1 false (.t 82)⟩,
             ⟨(some 84), (some (73, true)), .bin .eql (.t 78) (.t 83)⟩,
             ⟨(some 85), none, .pick (.t 73) (.t 84) (.c (.bool false))⟩] true)
           (.cond (.t 85) (.exit 2)
           (.skip)))
          (.seq (.ops [
            ⟨(some 86), none, .mv (.t 8)⟩,
            ⟨(some 87), none, .mv (.t 1)⟩,
            ⟨(some 88), none, .lenL (.t 87)⟩,
            ⟨(some 89), none, .bin .eql (.t 86) (.t 88)⟩,
            ⟨(some 90), none, .mv (.t 89)⟩,
            ⟨(some 91), (some (90, false)), .mv (.t 7)⟩,
            ⟨(some 92), (some (90, false)), .mv (.t 0)⟩,
            ⟨(some 93), (some (90, false)), .lenL (.t 92)⟩,
            ⟨(some 94), (some (90, false)), .bin .lss (.t 91) (.t 93)⟩,
            ⟨(some 95), (some (90, false)), .mv (.t 94)⟩,
            ⟨(some 96), (some (95, true)), .mv (.t 5)⟩,
            ⟨(some 97), (some (95, true)), .mv (.t 7)⟩,
            ⟨(some 98), (some (95, true)), .bin .add (.t 97) (.c (.int .i64 1))⟩,
            ⟨(some 99), (some (95, true)), .iaddr 1 (.t 96) (.t 98)⟩,
            ⟨(some 100), (some (95, true)), .load 1 false (.t 99)⟩,
            ⟨(some 101), (some (95, true)), .mv (.t 8)⟩,
            ⟨(some 102), (some (95, true)), .iaddr 1 (.t 100) (.t 101)⟩,
            ⟨(some 103), (some (95, true)), .load 1 false (.t 102)⟩,
            ⟨(some 104), (some (95, true)), .mv (.t 5)⟩,
            ⟨(some 105), (some (95, true)), .mv (.t 7)⟩,
            ⟨(some 106), (some (95, true)), .iaddr 1 (.t 104) (.t 105)⟩,
            ⟨(some 107), (some (95, true)), .load 1 false (.t 106)⟩,
            ⟨(some 108), (some (95, true)), .mv (.t 8)⟩,
            ⟨(some 109), (some (95, true)), .bin .add (.t 108) (.c (.int .i64 1))⟩,
            ⟨(some 110), (some (95, true)), .iaddr 1 (.t 107) (.t 109)⟩,
            ⟨(some 111), (some (95, true)), .load 1 false (.t 110)⟩,
            ⟨(some 112), (some (95, true)), .bin .geq (.t 103) (.t 111)⟩,
            ⟨(some 113), (some (90, false)), .pick (.t 95) (.t 112) (.c (.bool false))⟩,
            ⟨(some 114), none, .pick (.t 90) (.c (.bool true)) (.t 113)⟩] true)
          (.cond (.t 114) (.ops [
            ⟨(some 115), none, .mv (.t 7)⟩,
            ⟨(some 116), none, .bin .add (.t 115) (.c (.int .i64 1))⟩,
            ⟨(some 7), none, .mv (.t 116)⟩] false)
          (.ops [
            ⟨(some 117), none, .mv (.t 8)⟩,
            ⟨(some 118), none, .bin .add (.t 117) (.c (.int .i64 1))⟩,
            ⟨(some 8), none, .mv (.t 118)⟩] false))))))))
      (.seq (.ops [
        ⟨(some 119), none, .mv (.t 7)⟩,
        ⟨(some 120), none, .mv (.t 8)⟩,
        ⟨(some 121), none, .faddr 1 (.t 9)⟩,
        ⟨none, none, .store 1 (.t 121) (.t 119)⟩,
        ⟨(some 122), none, .faddr 3 (.t 9)⟩,
        ⟨none, none, .store 1 (.t 122) (.t 120)⟩] false)
      (.ops [
       ⟨(some 123), none, .mv (.t 6)⟩,
       ⟨(some 124), none, .load 4 true (.t 9)⟩,
       ⟨(some 125), none, .bslice 4 [(.t 124)]⟩,
       ⟨(some 126), none, .app 4 32 t1 (.t 123) (.t 125)⟩,
       ⟨(some 6), none, .mv (.t 126)⟩] false)))))))))
  (.seq (.ops [
    ⟨(some 127), none, .mv (.t 6)⟩,
    ⟨(some 4), none, .mv (.t 127)⟩] false)
  (.ret))))))) }

def irDTable : IFn :=
 { nt := 91, res := [.t 4], body := (
  .seq (.ops [
    ⟨(some 4), none, .mv (.c (.sl true 1 []))⟩] false)
  (.seq (.ops [
    ⟨(some 9), none, .mv (.t 0)⟩,
    ⟨(some 10), none, .lenL (.t 9)⟩,
    ⟨(some 11), none, .bin .add (.t 10) (.c (.int .i64 1))⟩,
    ⟨(some 12), none, .mkSl 1 24 [(.sl true 1 [])] (.t 11) (.t 11)⟩,
    ⟨(some 5), none, .mv (.t 12)⟩] false)
  (.seq (.seq (.ops [
     ⟨(some 13), none, .mv (.t 5)⟩,
     ⟨(some 14), none, .lenL (.t 13)⟩,
     ⟨(some 15), none, .mv (.c (.int .i64 0))⟩] false)
   (.blk 0 (.loop (.seq (.ops [
       ⟨(some 16), none, .bin .lss (.t 15) (.t 14)⟩] false)
     (.seq (.cond (.t 16) (.skip)
      (.exit 0))
     (.seq (.blk 1 (.seq (.ops [
         ⟨(some 17), none, .mv (.t 15)⟩,
         ⟨(some 6), none, .mv (.t 17)⟩] false)
       (.ops [
        ⟨(some 18), none, .mv (.t 5)⟩,
        ⟨(some 19), none, .mv (.t 6)⟩,
        ⟨(some 20), none, .mv (.t 1)⟩,
        ⟨(some 21), none, .lenL (.t 20)⟩,
        ⟨(some 22), none, .bin .add (.t 21) (.c (.int .i64 1))⟩,
        ⟨(some 23), none, .mkSl 1 4 [(.int .i32 0)] (.t 22) (.t 22)⟩,
        ⟨(some 24), none, .iaddr 1 (.t 18) (.t 19)⟩,
        ⟨none, none, .store 1 (.t 24) (.t 23)⟩] false)))
     (.ops [
      ⟨(some 25), none, .bin .add (.t 15) (.c (.int .i64 1))⟩,
      ⟨(some 15), none, .mv (.t 25)⟩] false)))))))
  (.seq (.seq (.ops [
     ⟨(some 26), none, .mv (.t 0)⟩,
     ⟨(some 27), none, .lenL (.t 26)⟩,
     ⟨(some 28), none, .bin .sub (.t 27) (.c (.int .i64 1))⟩,
     ⟨(some 7), none, .mv (.t 28)⟩] false)
   (.blk 2 (.loop (.seq (.seq (.ops [
        ⟨(some 29), none, .mv (.t 7)⟩,
        ⟨(some 30), none, .bin .geq (.t 29) (.c (.int .i64 0))⟩] false)
      (.cond (.t 30) (.skip)
      (.exit 2)))
     (.seq (.blk 3 (.seq (.ops [
         ⟨(some 33), none, .mv (.t 1)⟩,
         ⟨(some 34), none, .lenL (.t 33)⟩,
         ⟨(some 35), none, .bin .sub (.t 34) (.c (.int .i64 1))⟩,
         ⟨(some 8), none, .mv (.t 35)⟩] false)
       (.blk 4 (.loop (.seq (.seq (.ops [
            ⟨(some 36), none, .mv (.t 8)⟩,
            ⟨(some 37), none, .bin .geq (.t 36) (.c (.int .i64 0))⟩] false)
          (.cond (.t 37) (.skip)
          (.exit 4)))
         (.seq (.blk 5 (.seq (.seq (.ops [
              ⟨(some 40), none, .mv (.t 0)⟩,
              ⟨(some 41), none, .mv (.t 7)⟩,
              ⟨(some 42), none, .iaddr 2 (.t 40) (.t 41)⟩,
              ⟨(some 43), none, .faddr 0 (.t 42)⟩,
              ⟨(some 44), none, .load 1 false (.t 43)⟩,
              ⟨(some 45), none, .mv (.t 1)⟩,
              ⟨(some 46), none, .mv (.t 8)⟩,
              ⟨(some 47), none, .iaddr 2 (.t 45) (.t 46)⟩,
              ⟨(some 48), none, .faddr 0 (.t 47)⟩,
              ⟨(some 49), none, .load 1 false (.t 48)⟩,
              ⟨(some 50), none, .bin .eql (.t 44) (.t 49)⟩] true)
            (.cond (.t 50) (.seq (.ops [
               ⟨(some 51), none, .mv (.t 5)⟩,
               ⟨(some 52), none, .mv (.t 7)⟩,
               ⟨(some 53), none, .iaddr 1 (.t 51) (.t 52)⟩,
               ⟨(some 54), none, .load 1 false (.t 53)⟩,
               ⟨(some 55), none, .mv (.t 8)⟩,
               ⟨(some 56), none, .mv (.t 5)⟩,
               ⟨(some 57), none, .mv (.t 7)⟩,
               ⟨(some 58), none, .bin .add (.t 57) (.c (.int .i64 1))⟩,
               ⟨(some 59), none, .iaddr 1 (.t 56) (.t 58)⟩,
               ⟨(some 60), none, .load 1 false (.t 59)⟩,
               ⟨(some 61), none, .mv (.t 8)⟩,
               ⟨(some 62), none, .bin .add (.t 61) (.c (.int .i64 1))⟩,
               ⟨(some 63), none, .iaddr 1 (.t 60) (.t 62)⟩,
               ⟨(some 64), none, .load 1 false (.t 63)⟩,
               ⟨(some 65), none, .bin .add (.t 64) (.c (.int .i32 1))⟩,
               ⟨(some 66), none, .iaddr 1 (.t 54) (.t 55)⟩,
               ⟨none, none, .store 1 (.t 66) (.t 65)⟩] true)
             (.exit 5))
            (.skip)))
           (.ops [
            ⟨(some 67), none, .mv (.t 5)⟩,
            ⟨(some 68), none, .mv (.t 7)⟩,
            ⟨(some 69), none, .iaddr 1 (.t 67) (.t 68)⟩,
            ⟨(some 70), none, .load 1 false (.t 69)⟩,
            ⟨(some 71), none, .mv (.t 8)⟩,
            ⟨(some 72), none, .mv (.t 5)⟩,
            ⟨(some 73), none, .mv (.t 7)⟩,
            ⟨(some 74), none, .bin .add (.t 73) (.c (.int .i64 1))⟩,
            ⟨(some 75), none, .iaddr 1 (.t 72) (.t 74)⟩,
            ⟨(some 76), none, .load 1 false (.t 75)⟩,
            ⟨(some 77), none, .mv (.t 8)⟩,
            ⟨(some 78), none, .iaddr 1 (.t 76) (.t 77)⟩,
            ⟨(some 79), none, .load 1 false (.t 78)⟩,
            ⟨(some 80), none, .mv (.t 5)⟩,
            ⟨(some 81), none, .mv (.t 7)⟩,
            ⟨(some 82), none, .iaddr 1 (.t 80) (.t 81)⟩,
            ⟨(some 83), none, .load 1 false (.t 82)⟩,
            ⟨(some 84), none, .mv (.t 8)⟩,
            ⟨(some 85), none, .bin .add (.t 84) (.c (.int .i64 1))⟩,
            ⟨(some 86), none, .iaddr 1 (.t 83) (.t 85)⟩,
            ⟨(some 87), none, .load 1 false (.t 86)⟩,
            ⟨(some 88), none, .mm true (.t 79) (.t 87)⟩,
            ⟨(some 89), none, .iaddr 1 (.t 70) (.t 71)⟩,
            ⟨none, none, .store 1 (.t 89) (.t 88)⟩] true)))
         (.ops [
          ⟨(some 38), none, .mv (.t 8)⟩,
          ⟨(some 39), none, .bin .sub (.t 38) (.c (.int .i64 1))⟩,
          ⟨(some 8), none, .mv (.t 39)⟩] false)))))))
     (.ops [
      ⟨(some 31), none, .mv (.t 7)⟩,
      ⟨(some 32), none, .bin .sub (.t 31) (.c (.int .i64 1))⟩,
      ⟨(some 7), none, .mv (.t 32)⟩] false))))))
  (.seq (.ops [
    ⟨(some 90), none, .mv (.t 5)⟩,
    ⟨(some 4), none, .mv (.t 90)⟩] false)
  (.ret)))))) }

def irDPlace : IFn :=
 { nt := 15, res := [.t 4], body := (
  .seq (.ops [
    ⟨(some 4), none, .mv (.c (.int .i64 0))⟩] false)
  (.seq (.seq (.ops [
     ⟨(some 5), none, .mv (.t 0)⟩,
     ⟨(some 6), none, .load 1 false (.t 1)⟩,
     ⟨(some 7), none, .lenL (.t 6)⟩,
     ⟨(some 8), none, .bin .lss (.t 5) (.t 7)⟩] false)
   (.cond (.t 8) (.seq (.ops [
      ⟨(some 9), none, .load 1 false (.t 1)⟩,
      ⟨(some 10), none, .mv (.t 0)⟩,
      ⟨(some 11), none, .iaddr 2 (.t 9) (.t 10)⟩,
      ⟨(some 12), none, .faddr 1 (.t 11)⟩,
      ⟨(some 13), none, .load 1 false (.t 12)⟩,
      ⟨(some 4), none, .mv (.t 13)⟩] false)
    (.ret))
   (.skip)))
  (.seq (.ops [
    ⟨(some 14), none, .load 1 false (.t 2)⟩,
    ⟨(some 4), none, .mv (.t 14)⟩] false)
  (.ret)))) }

def irDText (c1 c2 t1 t2 t3 : Nat) : IFn :=
 { nt := 17, res := [.t 2], body := (
  .seq (.ops [
    ⟨(some 2), none, .mv (.c (.str []))⟩] false)
  (.seq (.ops [
    ⟨(some 3), none, .allocT t1 [.nilp, (.sl true 1 [])] 1 1 t2⟩] false)
  (.seq (.seq (.ops [
     ⟨(some 6), none, .mv (.t 0)⟩,
     ⟨(some 7), none, .lenL (.t 6)⟩,
     ⟨(some 8), none, .mv (.c (.int .i64 0))⟩] false)
   (.blk 0 (.loop (.seq (.ops [
       ⟨(some 9), none, .bin .lss (.t 8) (.t 7)⟩] false)
     (.seq (.cond (.t 9) (.skip)
      (.exit 0))
     (.seq (.blk 1 (.seq (.ops [
         ⟨(some 10), none, .iaddr 2 (.t 6) (.t 8)⟩,
         ⟨(some 11), none, .load 2 true (.t 10)⟩,
         ⟨(some 5), none, .alloc t3 [(.str []), (.int .i64 0)]⟩,
         ⟨none, none, .store 2 (.t 5) (.t 11)⟩] false)
       (.ops [
        ⟨(some 12), none, .faddr 0 (.t 5)⟩,
        ⟨(some 13), none, .load 1 false (.t 12)⟩,
        ⟨(some 14), none, .call c1 [(.t 3), (.t 13)]⟩] false)))
     (.ops [
      ⟨(some 15), none, .bin .add (.t 8) (.c (.int .i64 1))⟩,
      ⟨(some 8), none, .mv (.t 15)⟩] false)))))))
  (.seq (.ops [
    ⟨(some 16), none, .call c2 [(.t 3)]⟩,
    ⟨(some 2), none, .mv (.t 16)⟩] false)
  (.ret))))) }

def irDBetween (c1 c2 c3 c4 c5 c6 : Nat) : IFn :=
 { nt := 90, res := [.t 4], body := (
  .seq (.ops [
    ⟨(some 4), none, .mv (.c (.sl true 3 []))⟩] false)
  (.seq (.ops [
    ⟨(some 11), none, .mv (.t 0)⟩,
    ⟨(some 12), none, .call c1 [(.t 11)]⟩,
    ⟨(some 13), none, .mv (.t 1)⟩,
    ⟨(some 14), none, .call c1 [(.t 13)]⟩,
    ⟨(some 5), none, .mv (.t 12)⟩,
    ⟨(some 6), none, .mv (.t 14)⟩] false)
  (.seq (.ops [
    ⟨(some 15), none, .mv (.t 5)⟩,
    ⟨(some 16), none, .mv (.t 6)⟩,
    ⟨(some 17), none, .call c2 [(.t 15), (.t 16)]⟩,
    ⟨(some 7), none, .mv (.t 17)⟩] false)
  (.seq (.ops [
    ⟨(some 18), none, .mv (.t 5)⟩,
    ⟨(some 19), none, .mv (.t 7)⟩,
    ⟨(some 20), none, .slice 2 (.t 18) (some (.t 19)) none none⟩,
    ⟨(some 21), none, .mv (.t 6)⟩,
    ⟨(some 22), none, .mv (.t 7)⟩,
    ⟨(some 23), none, .slice 2 (.t 21) (some (.t 22)) none none⟩,
    ⟨(some 5), none, .mv (.t 20)⟩,
    ⟨(some 6), none, .mv (.t 23)⟩] true)
  (.seq (.ops [
    ⟨(some 24), none, .mv (.t 5)⟩,
    ⟨(some 25), none, .mv (.t 6)⟩,
    ⟨(some 26), none, .call c3 [(.t 24), (.t 25)]⟩,
    ⟨(some 8), none, .mv (.t 26)⟩] false)
  (.seq (.ops [
    ⟨(some 27), none, .mv (.t 5)⟩,
    ⟨(some 28), none, .call c4 [(.t 27)]⟩,
    ⟨(some 9), none, .mv (.t 28)⟩] false)
  (.seq (.seq (.ops [
     ⟨(some 29), none, .mv (.t 5)⟩,
     ⟨(some 30), none, .lenL (.t 29)⟩,
     ⟨(some 31), none, .bin .eql (.t 30) (.c (.int .i64 0))⟩] false)
   (.cond (.t 31) (.ops [
     ⟨(some 32), none, .mv (.t 0)⟩,
     ⟨(some 33), none, .call c1 [(.t 32)]⟩,
     ⟨(some 34), none, .call c4 [(.t 33)]⟩,
     ⟨(some 9), none, .mv (.t 34)⟩] false)
   (.skip)))
  (.seq (.seq (.ops [
     ⟨(some 35), none, .mv (.t 8)⟩,
     ⟨(some 36), none, .bin .gtr (.t 35) (.c (.int .i64 0))⟩] false)
   (.cond (.t 36) (.ops [
     ⟨(some 37), none, .mv (.t 5)⟩,
     ⟨(some 38), none, .mv (.t 5)⟩,
     ⟨(some 39), none, .lenL (.t 38)⟩,
     ⟨(some 40), none, .mv (.t 8)⟩,
     ⟨(some 41), none, .bin .sub (.t 39) (.t 40)⟩,
     ⟨(some 42), none, .iaddr 2 (.t 37) (.t 41)⟩,
     ⟨(some 43), none, .faddr 1 (.t 42)⟩,
     ⟨(some 44), none, .load 1 false (.t 43)⟩,
     ⟨(some 9), none, .mv (.t 44)⟩] false)
   (.skip)))
  (.seq (.ops [
    ⟨(some 45), none, .mv (.t 5)⟩,
    ⟨(some 46), none, .mv (.t 5)⟩,
    ⟨(some 47), none, .lenL (.t 46)⟩,
    ⟨(some 48), none, .mv (.t 8)⟩,
    ⟨(some 49), none, .bin .sub (.t 47) (.t 48)⟩,
    ⟨(some 50), none, .slice 2 (.t 45) none (some (.t 49)) none⟩,
    ⟨(some 51), none, .mv (.t 6)⟩,
    ⟨(some 52), none, .mv (.t 6)⟩,
    ⟨(some 53), none, .lenL (.t 52)⟩,
    ⟨(some 54), none, .mv (.t 8)⟩,
    ⟨(some 55), none, .bin .sub (.t 53) (.t 54)⟩,
    ⟨(some 56), none, .slice 2 (.t 51) none (some (.t 55)) none⟩,
    ⟨(some 5), none, .mv (.t 50)⟩,
    ⟨(some 6), none, .mv (.t 56)⟩] true)
  (.seq (.seq (.ops [
     ⟨(some 57), none, .mv (.t 5)⟩,
     ⟨(some 58), none, .lenL (.t 57)⟩,
     ⟨(some 59), none, .mv (.t 6)⟩,
     ⟨(some 60), none, .lenL (.t 59)⟩,
     ⟨(some 61), none, .bin .add (.t 58) (.t 60)⟩,
     ⟨(some 62), none, .bin .eql (.t 61) (.c (.int .i64 0))⟩] false)
   (.cond (.t 62) (.seq (.ops [
      ⟨(some 4), none, .mv (.c (.sl true 3 []))⟩] false)
    (.ret))
   (.skip)))
  (.seq (.seq (.ops [
     ⟨(some 63), none, .mv (.t 5)⟩,
     ⟨(some 64), none, .lenL (.t 63)⟩,
     ⟨(some 65), none, .mv (.t 6)⟩,
     ⟨(some 66), none, .lenL (.t 65)⟩,
     ⟨(some 67), none, .bin .mul (.t 64) (.t 66)⟩,
     ⟨(some 68), none, .bin .leq (.t 67) (.c (.int .i64 1048576))⟩] false)
   (.cond (.t 68) (.seq (.ops [
      ⟨(some 69), none, .mv (.t 5)⟩,
      ⟨(some 70), none, .mv (.t 6)⟩,
      ⟨(some 71), none, .call c5 [(.t 69), (.t 70)]⟩,
      ⟨(some 72), none, .mv (.t 5)⟩,
      ⟨(some 73), none, .mv (.t 6)⟩,
      ⟨(some 74), none, .mv (.t 9)⟩,
      ⟨(some 75), none, .call c6 [(.t 71), (.t 72), (.t 73), (.t 74)]⟩,
      ⟨(some 10), none, .mv (.t 75)⟩] false)
    (.seq (.ops [
      ⟨(some 76), none, .mv (.t 10)⟩,
      ⟨(some 77), none, .lenL (.t 76)⟩,
      ⟨(some 78), none, .bin .leq (.t 77) (.c (.int .i64 512))⟩] false)
    (.cond (.t 78) (.seq (.ops [
       ⟨(some 79), none, .mv (.t 10)⟩,
       ⟨(some 4), none, .mv (.t 79)⟩] false)
     (.ret))
    (.skip))))
   (.skip)))
  (.seq (.ops [
    ⟨(some 80), none, .mv (.t 5)⟩,
    ⟨(some 81), none, .lenL (.t 80)⟩,
    ⟨(some 82), none, .mv (.t 6)⟩,
    ⟨(some 83), none, .lenL (.t 82)⟩,
    ⟨(some 84), none, .build [(.int .i64 0), (.int .i64 0), (.int .i64 0), (.int .i64 0)] [(0, 1, (.c (.int .i64 0))), (1, 1, (.t 81)), (2, 1, (.c (.int .i64 0))), (3, 1, (.t 83))]⟩,
    ⟨(some 85), none, .bslice 4 [(.t 84)]⟩,
    ⟨(some 86), none, .mv (.t 5)⟩,
    ⟨(some 87), none, .mv (.t 6)⟩,
    ⟨(some 88), none, .mv (.t 9)⟩,
    ⟨(some 89), none, .call c6 [(.t 85), (.t 86), (.t 87), (.t 88)]⟩,
    ⟨(some 4), none, .mv (.t 89)⟩] false)
  (.ret))))))))))))) }

def irDKept (c1 c2 c3 c4 : Nat) : IFn :=
 { nt := 58, res := [.t 4], body := (
  .seq (.ops [
    ⟨(some 4), none, .mv (.c (.int .i64 0))⟩] false)
  (.seq (.ops [
    ⟨(some 9), none, .mv (.t 0)⟩,
    ⟨(some 10), none, .call c1 [(.t 9)]⟩,
    ⟨(some 11), none, .mv (.t 1)⟩,
    ⟨(some 12), none, .call c1 [(.t 11)]⟩,
    ⟨(some 5), none, .mv (.t 10)⟩,
    ⟨(some 6), none, .mv (.t 12)⟩] false)
  (.seq (.ops [
    ⟨(some 13), none, .mv (.t 5)⟩,
    ⟨(some 14), none, .mv (.t 6)⟩,
    ⟨(some 15), none, .call c2 [(.t 13), (.t 14)]⟩,
    ⟨(some 7), none, .mv (.t 15)⟩] false)
  (.seq (.ops [
    ⟨(some 16), none, .mv (.t 5)⟩,
    ⟨(some 17), none, .mv (.t 7)⟩,
    ⟨(some 18), none, .slice 2 (.t 16) (some (.t 17)) none none⟩,
    ⟨(some 19), none, .mv (.t 6)⟩,
    ⟨(some 20), none, .mv (.t 7)⟩,
    ⟨(some 21), none, .slice 2 (.t 19) (some (.t 20)) none none⟩,
    ⟨(some 5), none, .mv (.t 18)⟩,
    ⟨(some 6), none, .mv (.t 21)⟩] true)
  (.seq (.ops [
    ⟨(some 22), none, .mv (.t 5)⟩,
    ⟨(some 23), none, .mv (.t 6)⟩,
    ⟨(some 24), none, .call c3 [(.t 22), (.t 23)]⟩,
    ⟨(some 8), none, .mv (.t 24)⟩] false)
  (.seq (.ops [
    ⟨(some 25), none, .mv (.t 5)⟩,
    ⟨(some 26), none, .mv (.t 5)⟩,
    ⟨(some 27), none, .lenL (.t 26)⟩,
    ⟨(some 28), none, .mv (.t 8)⟩,
    ⟨(some 29), none, .bin .sub (.t 27) (.t 28)⟩,
    ⟨(some 30), none, .slice 2 (.t 25) none (some (.t 29)) none⟩,
    ⟨(some 31), none, .mv (.t 6)⟩,
    ⟨(some 32), none, .mv (.t 6)⟩,
    ⟨(some 33), none, .lenL (.t 32)⟩,
    ⟨(some 34), none, .mv (.t 8)⟩,
    ⟨(some 35), none, .bin .sub (.t 33) (.t 34)⟩,
    ⟨(some 36), none, .slice 2 (.t 31) none (some (.t 35)) none⟩,
    ⟨(some 5), none, .mv (.t 30)⟩,
    ⟨(some 6), none, .mv (.t 36)⟩] true)
  (.seq (.seq (.ops [
     ⟨(some 37), none, .mv (.t 5)⟩,
     ⟨(some 38), none, .lenL (.t 37)⟩,
     ⟨(some 39), none, .mv (.t 6)⟩,
     ⟨(some 40), none, .lenL (.t 39)⟩,
     ⟨(some 41), none, .bin .mul (.t 38) (.t 40)⟩,
     ⟨(some 42), none, .bin .gtr (.t 41) (.c (.int .i64 1048576))⟩] false)
   (.cond (.t 42) (.seq (.ops [
      ⟨(some 43), none, .mv (.t 7)⟩,
      ⟨(some 44), none, .mv (.t 8)⟩,
      ⟨(some 45), none, .bin .add (.t 43) (.t 44)⟩,
      ⟨(some 4), none, .mv (.t 45)⟩] false)
    (.ret))
   (.skip)))
  (.seq (.ops [
    ⟨(some 46), none, .mv (.t 7)⟩,
    ⟨(some 47), none, .mv (.t 8)⟩,
    ⟨(some 48), none, .bin .add (.t 46) (.t 47)⟩,
    ⟨(some 49), none, .mv (.t 5)⟩,
    ⟨(some 50), none, .mv (.t 6)⟩,
    ⟨(some 51), none, .call c4 [(.t 49), (.t 50)]⟩,
    ⟨(some 52), none, .iaddr 1 (.t 51) (.c (.int .i64 0))⟩,
    ⟨(some 53), none, .load 1 false (.t 52)⟩,
    ⟨(some 54), none, .iaddr 1 (.t 53) (.c (.int .i64 0))⟩,
    ⟨(some 55), none, .load 1 false (.t 54)⟩,
    ⟨(some 56), none, .cvt .i64 (.t 55)⟩,
    ⟨(some 57), none, .bin .add (.t 48) (.t 56)⟩,
    ⟨(some 4), none, .mv (.t 57)⟩] false)
  (.ret))))))))) }

end Go.Zam

namespace Go.Zam
set_option linter.all false
set_option maxRecDepth 100000
set_option maxHeartbeats 1000000

/-- a text, and where it stands -/
structure Un where
  t : Bs
  a : Nat
def encU (u : Un) : List D := [.str u.t, .int .i64 (u.a : Int)]

/-- texts as units, from a place on -/
def unU : Nat → List Bs → List Un
  | _, [] => []
  | p, s :: r => ⟨s, p⟩ :: unU (p + s.length) r

def neB (s : Bs) : Bool := !s.isEmpty
/-- the texts of tokens' units -/
def txU (l : List Tk) : List Bs := l.flatMap fun t => [t.l, t.x].filter neB

theorem unU_len : ∀ (p : Nat) (A : List Bs), (unU p A).length = A.length
  | _, [] => rfl
  | p, s :: r => by simp [unU, unU_len]
theorem unU_app : ∀ (p : Nat) (A B : List Bs), unU p (A ++ B) = unU p A ++ unU (p + A.flatten.length) B
  | p, [], B => by simp [unU]
  | p, s :: r, B => by simp [unU, unU_app, Nat.add_assoc]
theorem unU_take : ∀ (p : Nat) (A : List Bs) (n : Nat), (unU p A).take n = unU p (A.take n)
  | _, [], n => by simp [unU]
  | p, s :: r, 0 => by simp [unU]
  | p, s :: r, n + 1 => by simp [unU, unU_take]
theorem posU_zero (A : List Bs) : posU A 0 = 0 := by simp [posU]
theorem posU_cons (s : Bs) (r : List Bs) (n : Nat) : posU (s :: r) (n + 1) = s.length + posU r n := by simp [posU]
theorem unU_drop : ∀ (p : Nat) (A : List Bs) (n : Nat), (unU p A).drop n = unU (p + posU A n) (A.drop n)
  | p, [], n => by simp [unU]
  | p, s :: r, 0 => by simp [unU, posU_zero]
  | p, s :: r, n + 1 => by simp [unU, unU_drop, posU_cons, Nat.add_assoc]
theorem unU_get : ∀ (p : Nat) (A : List Bs) (i : Nat) (s : Bs), A[i]? = some s → (unU p A)[i]? = some ⟨s, p + posU A i⟩
  | p, [], i, s, h => by simp at h
  | p, x :: r, 0, s, h => by simp at h; subst h; simp [unU, posU_zero]
  | p, x :: r, i + 1, s, h => by
    have := unU_get (p + x.length) r i s (by simpa using h)
    simp [unU, this, posU_cons, Nat.add_assoc]
theorem unU_row {p : Nat} {A : List Bs} {i : Nat} (h : i < A.length) : Zam.rowAt ((unU p A).map encU) (i : Int) = some [.str A[i], .int .i64 ((p + posU A i : Nat) : Int)] :=
  rowAt_get (f := encU) (unU_get p A i A[i] (List.getElem?_eq_getElem h))

theorem filter_flat : ∀ (l : List Bs), (l.filter neB).flatten = l.flatten
  | [] => rfl
  | [] :: r => by simp [neB, filter_flat r]
  | (b :: s) :: r => by simp [neB, filter_flat r]
theorem txU_app (a b : List Tk) : txU (a ++ b) = txU a ++ txU b := by simp [txU]
theorem txU_one (t : Tk) : txU [t] = [t.l, t.x].filter neB := by simp [txU]
theorem txU_flat : ∀ (l : List Tk), (txU l).flatten = joinS l
  | [] => rfl
  | t :: r => by
    have e1 : txU (t :: r) = [t.l, t.x].filter neB ++ txU r := rfl
    have e2 : joinS (t :: r) = (t.l ++ t.x) ++ joinS r := rfl
    rw [e1, e2, List.flatten_append, filter_flat, txU_flat r]; simp
theorem txU_ne {l : List Tk} : ∀ u ∈ txU l, u ≠ [] := by
  intro u hu
  simp only [txU, List.mem_flatMap, List.mem_filter] at hu
  obtain ⟨t, -, -, h⟩ := hu
  rintro rfl
  simp [neB] at h
theorem filter_len (l : List Bs) : (l.filter neB).length ≤ l.length := List.length_filter_le ..
theorem txU_len : ∀ (l : List Tk), (txU l).length ≤ 2 * l.length
  | [] => by simp [txU]
  | t :: r => by
    have := txU_len r
    have h2 : ([t.l, t.x].filter neB).length ≤ 2 := filter_len _
    have e1 : txU (t :: r) = [t.l, t.x].filter neB ++ txU r := rfl
    rw [e1]; simp only [List.length_append, List.length_cons]; omega

section
variable {P : Program}

theorem HasT.units {f tu tt} (h : HasT P [3] f (irDUnits tu tt)) (z : Bool) (l : List Tk) (hl : l.length ≤ 1048576) (hj : (joinS l).length ≤ 1048576) (H : Hp) :
    ACall P f [.d (.sl z 4 (l.map encTk))] H (fun r H' => r = .d (.sl true 2 ((unU 0 (txU l)).map encU)) ∧ H' = H) := by
  obtain ⟨fn, hf, hcf⟩ := h
  refine acall_fin hf hcf (by simp [irDUnits]) fun hcl _ => ?_
  simp [irDUnits]
  refine LoopK_outR 0 (fun fr H' => fr 3 = .osl true 2 ((unU 0 (txU l)).map encU) H.length ∧ ∃ n, H' = H ++ [.tok n 2 tu]) (fun _ _ => False) ?_ (fun _ _ h => h.elim) ?_
  · refine RangeK_of (H.length + 1) l.length (fun i fr H' => fr 3 = .osl true 2 ((unU 0 (txU (l.take i))).map encU) H.length ∧ fr 4 = .d (.int .i64 ((joinS (l.take i)).length : Int)) ∧ fr 9 = .d (.sl z 4 (l.map encTk)) ∧ H' = H ++ [.tok (txU (l.take i)).length 2 tu]) (by omega) (by decide) (by simp) (by simp) ?_ ?_ ?_
    · simp [cut_appk hcl, joinS, txU, unU]
    · rintro i fr H' hi f11 f10 ⟨f3, f4, f9, rfl⟩
      have hr := rowAt_map encTk hi
      have ht : l.take (i + 1) = l.take i ++ [l[i]] := List.take_succ_eq_append_getElem hi
      have hjt : joinS (l.take (i + 1)) = joinS (l.take i) ++ (l[i].l ++ l[i].x) := by rw [ht, joinS_app, joinS_one]
      have htx : txU (l.take (i + 1)) = txU (l.take i) ++ [l[i].l, l[i].x].filter neB := by rw [ht, txU_app, txU_one]
      have hb := joinS_take l (i + 1)
      have hbl := txU_len (l.take i)
      have hfl := txU_flat (l.take i)
      rw [hjt] at hb
      simp only [encTk] at hr
      generalize l[i] = t at hr ht hjt hb htx
      obtain ⟨tk, ta, tl, tx⟩ := t
      simp only at hjt htx hb hr
      generalize hS1 : joinS (l.take i) = X at hjt hb hfl f4
      generalize hS2 : txU (l.take i) = T at htx hbl hfl f3
      simp only [List.length_take, List.length_append] at hb hbl
      simp [f11, f9, hr]
      refine LoopK_out 2 (fun fr' H' => fr' 3 = .osl true 2 ((unU 0 (T ++ [tl, tx].filter neB)).map encU) H.length ∧ fr' 4 = .d (.int .i64 ((X.length + (tl.length + tx.length) : Nat) : Int)) ∧ fr' 9 = .d (.sl z 4 (l.map encTk)) ∧ fr' 10 = .d (.int .i64 (l.length : Int)) ∧ fr' 11 = .d (.int .i64 (i : Int)) ∧ H' = H ++ [.tok (T ++ [tl, tx].filter neB).length 2 tu]) ?_ ?_
      · refine LoopM_of (H.length + 1) (fun d fr' H' => ∃ k : Nat, d = 2 - k ∧ k ≤ 2 ∧ fr' 19 = .agg [.d (.str tl), .d (.str tx)] ∧ fr' 20 = .d (.int .i64 (k : Int)) ∧ fr' 3 = .osl true 2 ((unU 0 (T ++ ([tl, tx].take k).filter neB)).map encU) H.length ∧ fr' 4 = .d (.int .i64 ((X.length + ([tl, tx].take k).flatten.length : Nat) : Int)) ∧ fr' 9 = .d (.sl z 4 (l.map encTk)) ∧ fr' 10 = .d (.int .i64 (l.length : Int)) ∧ fr' 11 = .d (.int .i64 (i : Int)) ∧ H' = H ++ [.tok (T ++ ([tl, tx].take k).filter neB).length 2 tu]) 2 (by simp) ⟨0, rfl, by omega, ?_⟩ ?_
        · simp [f3, f4, f9, f10, f11, cut_appk hcl]
        rintro d fr' H' ⟨k, rfl, hk, f19, f20, f3, f4, f9, f10, f11, rfl⟩
        rcases Nat.lt_or_ge k 2 with hlt | hge
        · obtain ⟨y, hy, htk⟩ : ∃ y : Bs, ([.d (.str tl), .d (.str tx)] : List A)[k]? = some (.d (.str y)) ∧ [tl, tx].take (k + 1) = [tl, tx].take k ++ [y] := by
            rcases (by omega : k = 0 ∨ k = 1) with rfl | rfl
            · exact ⟨tl, rfl, rfl⟩
            · exact ⟨tx, rfl, rfl⟩
          have hlt' : (k : Int) < 2 := by omega
          have hyl : ([tl, tx].take k).flatten.length + y.length ≤ tl.length + tx.length := by
            have : ([tl, tx].take (k + 1)).flatten.length ≤ tl.length + tx.length := by
              rcases (by omega : k = 0 ∨ k = 1) with rfl | rfl <;> simp
            rw [htk] at this; simpa using this
          have hfl2 : (([tl, tx].take k).filter neB).length ≤ 2 := Nat.le_trans (filter_len _) (by simp; omega)
          have hff : (T ++ ([tl, tx].take k).filter neB).flatten.length = X.length + ([tl, tx].take k).flatten.length := by rw [List.flatten_append, filter_flat, hfl]; simp
          generalize hY : [tl, tx].take k = Y at f3 f4 htk hyl hfl2 hff ⊢
          have hwk : IntKind.i64.wrap ((k : Int) + 1) = ((k + 1 : Nat) : Int) := by rw [wrap_i64 (by omega) (by omega)]; omega
          obtain ⟨c, hc⟩ : ∃ c, c = X.length + Y.flatten.length := ⟨_, rfl⟩
          rw [← hc] at f4 hff
          have hwa : IntKind.i64.wrap ((c : Int) + y.length) = (c : Int) + y.length := by rw [wrap_i64 (by omega) (by omega)]
          simp [f19, f20, hlt', hy]
          by_cases hye : y = []
          · have hyl0 : y.length = 0 := by rw [hye]; rfl
            have hwc : IntKind.i64.wrap (c : Int) = c := wrap_i64 (by omega) (by omega)
            have hne : [y].filter neB = [] := by rw [hye]; rfl
            simp [hye, f4, f20, hwk, hwc]
            refine NextM_of (H.length + 1) (2 - (k + 1)) (Nat.le_refl _) (by simp) (by omega) ⟨k + 1, rfl, by omega, ?_⟩
            rw [htk, List.filter_append, hne]
            simp [f19, f3, f9, f10, f11, hye, hc, cut_appk hcl]
          · have hne : [y].filter neB = [y] := by simp [neB, hye]
            have hue : unU 0 (T ++ (Y.filter neB ++ [y])) = unU 0 (T ++ Y.filter neB) ++ [⟨y, c⟩] := by
              rw [← List.append_assoc, unU_app, hff]; simp [unU]
            have hbd : ((T.length + (Y.filter neB).length + 1 : Nat) : Int) * 24 ≤ 140737488355328 := by omega
            simp [hye, f3, f4, appA, unU_len]
            rw [if_pos (by omega)]
            simp [f4, hwa, hwk, f20, hye]
            refine NextM_of (H.length + 1) (2 - (k + 1)) (Nat.le_refl _) (by simp) (by omega) ⟨k + 1, rfl, by omega, ?_⟩
            rw [htk, List.filter_append, hne, hue]
            simp [f19, f9, f10, f11, hc, cut_appk hcl, encU, Nat.add_assoc, Int.add_assoc]
        · have : k = 2 := by omega
          subst this
          simp at f3 f4
          simp [f20, f3, f4, f9, f10, f11]
      rintro fr' H' ⟨f3, f4, f9, f10, f11, rfl⟩
      simp
      refine NextK_of (H.length + 1) (by omega) (by simp [f11, f10]) ?_
      simp [f3, f4, f9, cut_appk hcl, hjt, htx]
    · rintro fr H' f11 f10 ⟨f3, f4, f9, rfl⟩
      simp [f3, List.take_of_length_le (Nat.le_refl _)]
  rintro fr H' ⟨f3, n, rfl⟩
  simp [f3]
  simp [RetK, cut_app hcl]

end
end Go.Zam

namespace Go.Zam
set_option linter.all false
set_option maxRecDepth 100000
set_option maxHeartbeats 1000000

/-- how many texts at the beginning are one -/
def alikeN : List Bs → List Bs → Nat
  | a :: A, b :: B => if a = b then alikeN A B + 1 else 0
  | [], _ => 0
  | _ :: _, [] => 0

theorem alikeN_le : ∀ (A B : List Bs), alikeN A B ≤ A.length ∧ alikeN A B ≤ B.length
  | [], B => by simp [alikeN]
  | a :: A, [] => by simp [alikeN]
  | a :: A, b :: B => by
    have := alikeN_le A B
    simp only [alikeN, List.length_cons]
    split <;> omega
theorem alikeN_nil (A : List Bs) : alikeN A [] = 0 := by cases A <;> rfl

section
variable {P : Program}

theorem Has.alike {f} (h : Has P f irDAlike) (z y : Bool) (p q : Nat) (A B : List Bs) (hA : A.length ≤ 1048576) (hB : B.length ≤ 1048576) (H : Hp) :
    ACall P f [.d (.sl z 2 ((unU p A).map encU)), .d (.sl y 2 ((unU q B).map encU))] H (fun r H' => r = .d (.int .i64 (alikeN A B : Int)) ∧ H' = H) := by
  obtain ⟨fn, hf, hcf⟩ := h
  refine acall_fin hf hcf (by simp [irDAlike]) fun hcl _ => ?_
  simp [irDAlike]
  refine LoopK_outR 0 (fun fr H' => fr 5 = .d (.int .i64 (alikeN A B : Int)) ∧ H' = H) (fun _ _ => False) ?_ (fun _ _ h => h.elim) ?_
  · refine LoopM_of H.length (fun d fr H' => ∃ i : Nat, d = A.length - i ∧ i ≤ A.length ∧ i ≤ B.length ∧ alikeN A B = i + alikeN (A.drop i) (B.drop i) ∧ fr 0 = .d (.sl z 2 ((unU p A).map encU)) ∧ fr 1 = .d (.sl y 2 ((unU q B).map encU)) ∧ fr 5 = .d (.int .i64 (i : Int)) ∧ H' = H) A.length (by simp) ⟨0, rfl, by omega, by omega, by simp, ?_⟩ ?_
    · simp [cut_self hcl]
    rintro d fr H' ⟨i, rfl, hiA, hiB, hq, f0, f1, f5, rfl⟩
    have hwi : IntKind.i64.wrap ((i : Int) + 1) = ((i + 1 : Nat) : Int) := by rw [wrap_i64 (by omega) (by omega)]; omega
    rcases Nat.lt_or_ge i A.length with la | la
    · have la' : (i : Int) < A.length := by omega
      rcases Nat.lt_or_ge i B.length with lb | lb
      · have lb' : (i : Int) < B.length := by omega
        have ra := unU_row (p := p) la
        have rb := unU_row (p := q) lb
        rw [List.drop_eq_getElem_cons la, List.drop_eq_getElem_cons lb, alikeN] at hq
        generalize A[i] = a at ra hq
        generalize B[i] = b at rb hq
        simp [f0, f1, f5, unU_len, la', lb', ra, rb]
        by_cases hab : a = b
        · rw [if_pos hab] at hq
          simp [hab, f5, hwi]
          refine NextM_of H'.length (A.length - (i + 1)) (Nat.le_refl _) (by simp) (by omega) ⟨i + 1, rfl, by omega, by omega, by omega, ?_⟩
          simp [f0, f1, cut_self hcl]
        · rw [if_neg hab] at hq
          simp [hab, f5, hq]
      · have lb' : ¬ (i : Int) < B.length := by omega
        rw [List.drop_eq_nil_of_le lb, alikeN_nil] at hq
        simp [f0, f1, f5, unU_len, la', lb', hq]
    · have la' : ¬ (i : Int) < A.length := by omega
      rw [List.drop_eq_nil_of_le la, alikeN] at hq
      simp [f0, f1, f5, unU_len, la', hq]
  rintro fr H' ⟨f5, rfl⟩
  simp [f5]
  simp [RetK, cut_self hcl]

theorem Has.tailA {f} (h : Has P f irDTail) (z y : Bool) (p q : Nat) (A B : List Bs) (hA : A.length ≤ 1048576) (hB : B.length ≤ 1048576) (H : Hp) :
    ACall P f [.d (.sl z 2 ((unU p A).map encU)), .d (.sl y 2 ((unU q B).map encU))] H (fun r H' => r = .d (.int .i64 (alikeN A.reverse B.reverse : Int)) ∧ H' = H) := by
  obtain ⟨fn, hf, hcf⟩ := h
  refine acall_fin hf hcf (by simp [irDTail]) fun hcl _ => ?_
  simp [irDTail]
  refine LoopK_outR 0 (fun fr H' => fr 5 = .d (.int .i64 (alikeN A.reverse B.reverse : Int)) ∧ H' = H) (fun _ _ => False) ?_ (fun _ _ h => h.elim) ?_
  · refine LoopM_of H.length (fun d fr H' => ∃ i : Nat, d = A.length - i ∧ i ≤ A.length ∧ i ≤ B.length ∧ alikeN A.reverse B.reverse = i + alikeN (A.reverse.drop i) (B.reverse.drop i) ∧ fr 0 = .d (.sl z 2 ((unU p A).map encU)) ∧ fr 1 = .d (.sl y 2 ((unU q B).map encU)) ∧ fr 5 = .d (.int .i64 (i : Int)) ∧ H' = H) A.length (by simp) ⟨0, rfl, by omega, by omega, by simp, ?_⟩ ?_
    · simp [cut_self hcl]
    rintro d fr H' ⟨i, rfl, hiA, hiB, hq, f0, f1, f5, rfl⟩
    have hwi : IntKind.i64.wrap ((i : Int) + 1) = ((i + 1 : Nat) : Int) := by rw [wrap_i64 (by omega) (by omega)]; omega
    have wA1 : IntKind.i64.wrap ((A.length : Int) - 1) = (A.length : Int) - 1 := wrap_i64 (by omega) (by omega)
    have wB1 : IntKind.i64.wrap ((B.length : Int) - 1) = (B.length : Int) - 1 := wrap_i64 (by omega) (by omega)
    rcases Nat.lt_or_ge i A.length with la | la
    · have la' : (i : Int) < A.length := by omega
      have wA2 : IntKind.i64.wrap ((A.length : Int) - 1 - i) = ((A.length - 1 - i : Nat) : Int) := by rw [wrap_i64 (by omega) (by omega)]; omega
      rcases Nat.lt_or_ge i B.length with lb | lb
      · have lb' : (i : Int) < B.length := by omega
        have wB2 : IntKind.i64.wrap ((B.length : Int) - 1 - i) = ((B.length - 1 - i : Nat) : Int) := by rw [wrap_i64 (by omega) (by omega)]; omega
        have ra := unU_row (p := p) (A := A) (i := A.length - 1 - i) (by omega)
        have rb := unU_row (p := q) (A := B) (i := B.length - 1 - i) (by omega)
        have hdA : A.reverse.drop i = A[A.length - 1 - i]'(by omega) :: A.reverse.drop (i + 1) := by rw [List.drop_eq_getElem_cons (by simpa using la), List.getElem_reverse]
        have hdB : B.reverse.drop i = B[B.length - 1 - i]'(by omega) :: B.reverse.drop (i + 1) := by rw [List.drop_eq_getElem_cons (by simpa using lb), List.getElem_reverse]
        rw [hdA, hdB, alikeN] at hq
        clear hdA hdB
        generalize A[A.length - 1 - i] = a at ra hq
        generalize B[B.length - 1 - i] = b at rb hq
        generalize A.length - 1 - i = ia at wA2 ra
        generalize B.length - 1 - i = ib at wB2 rb
        simp [f0, f1, f5, unU_len, la', lb', ra, rb, wA1, wA2, wB1, wB2]
        by_cases hab : a = b
        · rw [if_pos hab] at hq
          simp [hab, f5, hwi]
          refine NextM_of H'.length (A.length - (i + 1)) (Nat.le_refl _) (by simp) (by omega) ⟨i + 1, rfl, by omega, by omega, by omega, ?_⟩
          simp [f0, f1, cut_self hcl]
        · rw [if_neg hab] at hq
          simp [hab, f5, hq]
      · have lb' : ¬ (i : Int) < B.length := by omega
        have hz : B.reverse.drop i = [] := List.drop_eq_nil_of_le (by simpa using lb)
        rw [hz, alikeN_nil] at hq
        simp [f0, f1, f5, unU_len, la', lb', hq]
    · have la' : ¬ (i : Int) < A.length := by omega
      have hz : A.reverse.drop i = [] := List.drop_eq_nil_of_le (by simpa using la)
      rw [hz, alikeN] at hq
      simp [f0, f1, f5, unU_len, la', hq]
  rintro fr H' ⟨f5, rfl⟩
  simp [f5]
  simp [RetK, cut_self hcl]

theorem Has.endU {f tu} (h : Has P f (irDEnd tu)) (z : Bool) (p : Nat) (A : List Bs) (hA : A.length ≤ 1048576) (hp : p + A.flatten.length ≤ 1099511627776) (H : Hp) :
    ACall P f [.d (.sl z 2 ((unU p A).map encU))] H (fun r H' => r = .d (.int .i64 ((if A = [] then 0 else p + A.flatten.length : Nat) : Int)) ∧ H' = H) := by
  obtain ⟨fn, hf, hcf⟩ := h
  refine acall_fin hf hcf (by simp [irDEnd]) fun hcl _ => ?_
  by_cases hE : A = []
  · subst hE
    simp [irDEnd, unU]
    simp [RetK, cut_self hcl]
  have hpos : 0 < A.length := List.length_pos_iff.2 hE
  have hn0 : ¬ ((A.length : Int) = 0) := by omega
  have w1 : IntKind.i64.wrap ((A.length : Int) - 1) = ((A.length - 1 : Nat) : Int) := by rw [wrap_i64 (by omega) (by omega)]; omega
  have ra := unU_row (p := p) (A := A) (i := A.length - 1) (by omega)
  have hd : A.drop (A.length - 1) = A[A.length - 1] :: A.drop (A.length - 1 + 1) := List.drop_eq_getElem_cons (by omega)
  have hps := posU_succ hd
  have hpa := posU_all A (i := A.length - 1 + 1) (List.drop_eq_nil_of_le (by omega))
  rw [hpa] at hps
  have hfin : (if A = [] then 0 else p + A.flatten.length : Nat) = p + A.flatten.length := if_neg hE
  rw [hfin]
  generalize A[A.length - 1] = a at ra hps
  generalize posU A (A.length - 1) = k at ra hps
  generalize hi : A.length - 1 = i at w1 ra
  have w2 : IntKind.i64.wrap (((p + k : Nat) : Int) + a.length) = ((p + A.flatten.length : Nat) : Int) := by rw [wrap_i64 (by omega) (by omega)]; omega
  simp only [Int.natCast_add] at w2 ra
  simp [irDEnd, unU_len, hE, w1, ra, w2]
  simp [RetK, cut_app hcl]

theorem Has.place {f} (h : Has P f irDPlace) (z : Bool) (p : Nat) (A : List Bs) (hA : A.length ≤ 1048576) {H : Hp} {ia it : Nat} {t1 t2 : TypeId} (h1 : H[ia]? = some (.box t1 [.d (.sl z 2 ((unU p A).map encU))])) (h2 : H[it]? = some (.box t2 [.d (.int .i64 ((p + A.flatten.length : Nat) : Int))])) (i : Nat) (hi : i ≤ A.length) :
    ACall P f [.d (.int .i64 (i : Int)), .ptr ia 0, .ptr it 0] H (fun r H' => r = .d (.int .i64 ((p + posU A i : Nat) : Int)) ∧ H' = H) := by
  obtain ⟨fn, hf, hcf⟩ := h
  refine acall_fin hf hcf (by simp [irDPlace]) fun hcl _ => ?_
  rcases Nat.lt_or_ge i A.length with la | la
  · have la' : (i : Int) < A.length := by omega
    have ra := unU_row (p := p) la
    generalize A[i] = a at ra
    simp [irDPlace, h1, unU_len, la', ra]
    simp [RetK, cut_self hcl]
  · have la' : ¬ (i : Int) < A.length := by omega
    have := posU_all A (i := i) (List.drop_eq_nil_of_le la)
    simp [irDPlace, h1, h2, unU_len, la', this]
    simp [RetK, cut_self hcl]

theorem flat_take (A : List Bs) (i : Nat) : (A.take i).flatten.length ≤ A.flatten.length := by
  have : A.flatten = (A.take i).flatten ++ (A.drop i).flatten := by rw [← List.flatten_append, List.take_append_drop]
  rw [this]; simp

theorem HasT.textU {f fw fs bt tu} (h : HasT P [3] f (irDText fw fs bt 5 tu)) (hw : WriteSOk P fw bt) (hs : StringOk P fs bt) (z : Bool) (p : Nat) (A : List Bs) (hA : A.length ≤ 1048576) (hp : A.flatten.length ≤ 1048576) (H : Hp) :
    ACall P f [.d (.sl z 2 ((unU p A).map encU))] H (fun r H' => r = .d (.str A.flatten) ∧ H' = H) := by
  obtain ⟨fn, hf, hcf⟩ := h
  refine acall_fin hf hcf (by simp [irDText]) fun hcl _ => ?_
  simp [irDText]
  refine LoopK_outR 0 (fun fr H' => ∃ a, fr 3 = .ptr (H.length + 1) 0 ∧ H' = H ++ [.tok A.flatten.length 1 5, .box bt [a, .osl true 1 (byteRows A.flatten) H.length]]) (fun _ _ => False) ?_ (fun _ _ h => h.elim) ?_
  · refine RangeK_of (H.length + 2) A.length (fun i fr H' => ∃ a, (a = .d .nilp ∨ a = .ptr (H.length + 1) 0) ∧ fr 3 = .ptr (H.length + 1) 0 ∧ fr 6 = .d (.sl z 2 ((unU p A).map encU)) ∧ H' = H ++ [.tok (A.take i).flatten.length 1 5, .box bt [a, .osl true 1 (byteRows (A.take i).flatten) H.length]]) (by omega) (by decide) (by simp) (by simp [unU_len]) ?_ ?_ ?_
    · simp [cut_appk hcl, byteRows]
    · rintro i fr H' hi f8 f7 ⟨a, ha, f3, f6, rfl⟩
      have hr := unU_row (p := p) hi
      have ht : (A.take (i + 1)).flatten = (A.take i).flatten ++ A[i] := by rw [List.take_succ_eq_append_getElem hi, List.flatten_append]; simp
      have hb := flat_take A (i + 1)
      rw [ht] at hb
      generalize A[i] = t at hr ht hb
      generalize hX : (A.take i).flatten = X at ht hb
      simp only [List.length_append] at hb
      have w1 := hw (H ++ [.tok X.length 1 5, .box bt [a, .osl true 1 (byteRows X) H.length], .box tu [.d (.str t), .d (.int .i64 ((p + posU A i : Nat) : Int))]]) (H.length + 1) H.length a X t (by simp) ha (by simp) (by omega)
      simp at w1
      simp only [Int.natCast_add] at hr
      simp [f8, f6, f3, hr]
      refine CallK_of' w1 ?_
      simp
      refine NextK_of (H.length + 2) (by omega) (by simp [f8, f7]) ?_
      simp [f3, f6, cut_appk hcl, ht]
    · rintro fr H' f8 f7 ⟨a, ha, f3, f6, rfl⟩
      simp [f3, List.take_of_length_le (Nat.le_refl _)]
  rintro fr H' ⟨a, f3, rfl⟩
  simp [f3, -List.length_flatten]
  have w3 := hs (H ++ [.tok A.flatten.length 1 5, .box bt [a, .osl true 1 (byteRows A.flatten) H.length]]) (H.length + 1) H.length a A.flatten (by simp) (by simp) (by omega)
  refine CallK_of' w3 ?_
  simp
  simp [RetK, cut_app hcl]

end
end Go.Zam

namespace Go.Zam
set_option linter.all false
set_option maxRecDepth 100000
set_option maxHeartbeats 1000000

theorem ldA_eptr (H : Hp) (n : Nat) (cells : List D) : ldA H n (.eptr cells) = (cutL cells 0 n).map (List.map .d) := rfl
theorem iaddrA_sl (H : Hp) (sz : Nat) (z : Bool) (s : Nat) (rows : List (List D)) (k : IntKind) (n : Int) : iaddrA H sz (.d (.sl z s rows)) (.d (.int k n)) = if s = sz then (Zam.rowAt rows n).map .eptr else none := rfl

def e32 (x : Int) : List D := [.int .i32 x]
def ptrR (h i m : Nat) : List (List A) := (List.range i).map fun k => [.msl (h + 1 + k) 0 m]
def rowO (m : Nat) (c : Nat → Int) : Ob := arrE e32 1 ((List.range m).map c)
/-- a table, as memory: its rows, by their places -/
def tabX (h n m : Nat) (cell : Nat → Nat → Int) : Hp := .arr 1 (ptrR h n m) :: (List.range n).map fun k => rowO m (cell k)
def updC (cell : Nat → Nat → Int) (k l : Nat) (v : Int) : Nat → Nat → Int := fun a b => if a = k ∧ b = l then v else cell a b

theorem tabX_len (h n m : Nat) (cell : Nat → Nat → Int) : (tabX h n m cell).length = n + 1 := by simp [tabX]

theorem tabX_congr {h n m : Nat} {c c' : Nat → Nat → Int} (hc : ∀ k l, k < n → l < m → c k l = c' k l) : tabX h n m c = tabX h n m c' := by
  unfold tabX
  congr 1
  refine List.map_congr_left fun k hk => ?_
  unfold rowO
  congr 1
  refine List.map_congr_left fun l hl => hc k l (by simpa using hk) (by simpa using hl)

section
variable {H : Hp} {n m : Nat} {cell : Nat → Nat → Int}

theorem tab_p : (H ++ tabX H.length n m cell)[H.length]? = some (.arr 1 (ptrR H.length n m)) := by simp [tabX]
theorem tab_r {k : Nat} (hk : k < n) : (H ++ tabX H.length n m cell)[H.length + 1 + k]? = some (rowO m (cell k)) := by
  rw [List.getElem?_append_right (by omega)]
  have : H.length + 1 + k - H.length = k + 1 := by omega
  rw [this]
  simp [tabX, hk]
theorem ptrR_get {h i m k : Nat} (hk : k < i) : (ptrR h i m)[k]? = some [.msl (h + 1 + k) 0 m] := by simp [ptrR, hk]
theorem tab_i1 {q : Int} {k : Nat} (hq : q = k) (hk : k < n) : iaddrA (H ++ tabX H.length n m cell) 1 (.msl H.length 0 n) (.d (.int .i64 q)) = some (.aptr H.length k 0) := by
  subst hq
  simp only [iaddrA, tab_p]
  rw [if_pos ⟨trivial, by omega, by omega⟩]
  simp
theorem tab_l1 {k : Nat} (hk : k < n) : ldA (H ++ tabX H.length n m cell) 1 (.aptr H.length k 0) = some [.msl (H.length + 1 + k) 0 m] := by
  simp only [ldA, tab_p, ptrR_get hk]
  simp [cutL]
theorem tab_i2 {q : Int} {k l : Nat} (hk : k < n) (hq : q = l) (hl : l < m) : iaddrA (H ++ tabX H.length n m cell) 1 (.msl (H.length + 1 + k) 0 m) (.d (.int .i64 q)) = some (.aptr (H.length + 1 + k) l 0) :=
  arr_iaddr (enc := e32) (L := (List.range m).map (cell k)) (tab_r hk) hq hl
theorem tab_l2 {k l : Nat} (hk : k < n) (hl : l < m) : ldA (H ++ tabX H.length n m cell) 1 (.aptr (H.length + 1 + k) l 0) = some [.d (.int .i32 (cell k l))] :=
  arr_ld (enc := e32) (sz := 1) (fun _ => rfl) (tab_r hk) (by simp [hl])
theorem tab_st {k l : Nat} (hk : k < n) (hl : l < m) (v : Int) : stA (H ++ tabX H.length n m cell) [.d (.int .i32 v)] (.aptr (H.length + 1 + k) l 0) = some (H ++ tabX H.length n m (updC cell k l v)) := by
  have h1 := arr_st (enc := e32) (sz := 1) (fun _ => rfl) (tab_r (H := H) (m := m) (cell := cell) hk) (k := l) (e := v) (by simpa using hl)
  refine Eq.trans h1 (congrArg some ?_)
  rw [List.set_append_right _ _ (by omega)]
  congr 1
  have : H.length + 1 + k - H.length = k + 1 := by omega
  rw [this, tabX, List.set_cons_succ, tabX]
  congr 1
  refine List.ext_getElem? fun i => ?_
  rw [List.getElem?_set]
  simp only [List.length_map, List.length_range, List.getElem?_map]
  by_cases hi : k = i
  · subst hi
    rw [if_pos rfl, if_pos hk, List.getElem?_range hk]
    simp only [Option.map_some, Option.some.injEq, rowO]
    congr 1
    refine List.ext_getElem? fun j => ?_
    rw [List.getElem?_set]
    simp only [List.length_map, List.length_range, List.getElem?_map]
    by_cases hj : l = j
    · subst hj
      rw [if_pos rfl, if_pos hl, List.getElem?_range hl]
      simp [updC]
    · rw [if_neg hj]
      rcases Nat.lt_or_ge j m with h | h
      · rw [List.getElem?_range h]; simp [updC, Ne.symm hj]
      · rw [List.getElem?_eq_none (by simpa using h)]; rfl
  · rw [if_neg hi]
    rcases Nat.lt_or_ge i n with h | h
    · rw [List.getElem?_range h]
      simp only [Option.map_some, Option.some.injEq, rowO]
      congr 1
      refine List.map_congr_left fun j _ => ?_
      simp [updC, Ne.symm hi]
    · rw [List.getElem?_eq_none (by simpa using h)]; rfl

theorem ptrR_clr {h i m q : Nat} (hq : h + 1 + i ≤ q) : (ptrR h i m).map (fun r => r.map (A.clr0 q)) = ptrR h i m := by
  simp only [ptrR, List.map_map]
  refine List.map_congr_left fun k hk => ?_
  have : k < i := by simpa using hk
  have h2 : h + 1 + k < q := by omega
  simp [h2]
theorem tab_clr {q : Nat} (hq : H.length + 1 + n ≤ q) : (tabX H.length n m cell).map (Ob.clr q) = tabX H.length n m cell := by
  simp only [tabX, List.map_cons, List.map_map]
  congr 1
  · simp only [Ob.clr, ptrR_clr hq]
  · refine List.map_congr_left fun k _ => ?_
    exact arrE_clr _ _
theorem tab_cut (hcl : H.Closed) (X : Hp) : Hp.cut (H.length + (n + 1)) (H ++ (tabX H.length n m cell ++ X)) = H ++ tabX H.length n m cell := by
  rw [cut_appk hcl, List.take_left' (tabX_len ..), tab_clr (by omega)]
theorem tab_cut0 (hcl : H.Closed) : Hp.cut (H.length + (n + 1)) (H ++ tabX H.length n m cell) = H ++ tabX H.length n m cell := by
  have := tab_cut (n := n) (m := m) (cell := cell) hcl []
  simpa using this
end

/-- the table's rows while they are made -/
def stgX (H : Hp) (n m i : Nat) : Hp := H ++ (.arr 1 (ptrR H.length i m ++ List.replicate (n - i) [.d (.sl true 1 [])]) :: (List.range i).map fun _ => rowO m fun _ => 0)

section
variable {H : Hp} {n m i : Nat}
theorem stg_len : (stgX H n m i).length = H.length + 1 + i := by simp [stgX]; omega
theorem stg_p (X : Hp) : (stgX H n m i ++ X)[H.length]? = some (.arr 1 (ptrR H.length i m ++ List.replicate (n - i) [.d (.sl true 1 [])])) := by simp [stgX]
theorem ptrR_len {h i m : Nat} : (ptrR h i m).length = i := by simp [ptrR]
theorem stg_i (X : Hp) (hi : i < n) : iaddrA (stgX H n m i ++ X) 1 (.msl H.length 0 n) (.d (.int .i64 (i : Int))) = some (.aptr H.length i 0) := by
  simp only [iaddrA, stg_p]
  rw [if_pos ⟨trivial, by omega, by omega⟩]
  simp
theorem zeros_row : Ob.arr 1 (List.replicate m [A.d (D.int .i32 0)]) = rowO m fun _ => 0 := by
  simp only [rowO, arrE, List.map_map]
  congr 1
  refine List.ext_getElem? fun k => ?_
  rw [List.getElem?_map]
  rcases Nat.lt_or_ge k m with h | h
  · rw [List.getElem?_range h, List.getElem?_replicate, if_pos h]; rfl
  · rw [List.getElem?_eq_none (by simpa using h), List.getElem?_eq_none (by simpa using h)]; rfl
theorem stg_st (hi : i < n) : stA (stgX H n m i ++ [.arr 1 (List.replicate m [A.d (D.int .i32 0)])]) [.msl (H.length + 1 + i) 0 m] (.aptr H.length i 0) = some (stgX H n m (i + 1)) := by
  have hr : (ptrR H.length i m ++ List.replicate (n - i) [A.d (.sl true 1 [])])[i]? = some [A.d (.sl true 1 [])] := by
    rw [List.getElem?_append_right (by rw [ptrR_len]; omega), ptrR_len, Nat.sub_self, List.getElem?_replicate, if_pos (by omega)]
  simp only [stA, stg_p, hr]
  rw [if_pos (by simp)]
  congr 1
  rw [zeros_row, stgX, stgX, List.append_assoc, List.set_append_right _ _ (Nat.le_refl _), Nat.sub_self, List.cons_append, List.set_cons_zero]
  congr 2
  · congr 1
    have e1 : n - i = (n - (i + 1)) + 1 := by omega
    have e2 : ptrR H.length (i + 1) m = ptrR H.length i m ++ [[.msl (H.length + 1 + i) 0 m]] := by simp [ptrR, List.range_succ]
    rw [List.set_append_right _ _ (by rw [ptrR_len]; omega), ptrR_len, Nat.sub_self, e1, List.replicate_succ, List.set_cons_zero, e2, List.append_assoc]
    rfl
  · rw [List.range_succ, List.map_append]; rfl
theorem stg_cut (hcl : H.Closed) : Hp.cut (H.length + (1 + i)) (stgX H n m i) = stgX H n m i := by
  unfold stgX
  rw [cut_appk hcl, List.take_of_length_le (by simp; omega)]
  congr 1
  simp only [List.map_cons, List.map_map]
  congr 1
  · simp only [Ob.clr, List.map_append, ptrR_clr (show H.length + 1 + i ≤ H.length + (1 + i) by omega)]
    simp
  · refine List.map_congr_left fun k _ => ?_
    exact arrE_clr _ _
theorem stg_fin : stgX H n m n = H ++ tabX H.length n m fun _ _ => 0 := by
  simp [stgX, tabX]
end

/-- the table while it is made: i rows are left -/
def cO (A B : List Bs) (i : Nat) : Nat → Nat → Int := fun k l => if i ≤ k then (lcs (A.drop k) (B.drop l) : Int) else 0
/-- in the row ahead of i, j places are left -/
def cI (A B : List Bs) (i j : Nat) : Nat → Nat → Int := fun k l => if i + 1 ≤ k ∨ (k = i ∧ j ≤ l) then (lcs (A.drop k) (B.drop l) : Int) else 0
/-- the table -/
def cL (A B : List Bs) : Nat → Nat → Int := fun k l => (lcs (A.drop k) (B.drop l) : Int)

section
variable {P : Program}

theorem Has.table {f} (h : Has P f irDTable) (z y : Bool) (p q : Nat) (A B : List Bs) (hA : A.length ≤ 1048576) (hB : B.length ≤ 1048576) (H : Hp) :
    ACall P f [.d (.sl z 2 ((unU p A).map encU)), .d (.sl y 2 ((unU q B).map encU))] H (fun r H' => r = .msl H.length 0 (A.length + 1) ∧ H' = H ++ tabX H.length (A.length + 1) (B.length + 1) (cL A B)) := by
  obtain ⟨fn, hf, hcf⟩ := h
  refine acall_fink (A.length + 1 + 1) hf hcf (by simp [irDTable]) fun hcl _ => ?_
  have hwA : IntKind.i64.wrap ((A.length : Int) + 1) = ((A.length + 1 : Nat) : Int) := by rw [wrap_i64 (by omega) (by omega)]; omega
  have hwB : IntKind.i64.wrap ((B.length : Int) + 1) = ((B.length + 1 : Nat) : Int) := by rw [wrap_i64 (by omega) (by omega)]; omega
  obtain ⟨n, hn⟩ : ∃ n, n = A.length + 1 := ⟨_, rfl⟩
  obtain ⟨m, hm⟩ : ∃ m, m = B.length + 1 := ⟨_, rfl⟩
  rw [← hn] at hwA ⊢
  rw [← hm] at hwB ⊢
  have hn24 : (n : Int) * 24 ≤ 140737488355328 := by omega
  have hm4 : (m : Int) * 4 ≤ 140737488355328 := by omega
  have hAl : A.length < n := by omega
  have hBl : B.length < m := by omega
  have hAl : A.length < n := by omega
  have hBl : B.length < m := by omega
  have hAl : A.length < n := by omega
  have hBl : B.length < m := by omega
  simp [irDTable, unU_len, hwA, hn24]
  refine LoopK_out 0 (fun fr H' => fr 0 = .d (.sl z 2 ((unU p A).map encU)) ∧ fr 1 = .d (.sl y 2 ((unU q B).map encU)) ∧ fr 5 = .msl H.length 0 n ∧ H' = H ++ tabX H.length n m (cO A B A.length)) ?_ ?_
  · refine RangeK_of (H.length + 1) n (fun i fr H' => fr 0 = .d (.sl z 2 ((unU p A).map encU)) ∧ fr 1 = .d (.sl y 2 ((unU q B).map encU)) ∧ fr 5 = .msl H.length 0 n ∧ H' = stgX H n m i) (by omega) (by decide) (by simp) (by simp) ?_ ?_ ?_
    · simp [cut_appk hcl, stgX, ptrR]
    · rintro i fr H' hi f15 f14 ⟨f0, f1, f5, rfl⟩
      have e1 := stg_i (H := H) (m := m) [.arr 1 (List.replicate m [Zam.A.d (D.int .i32 0)])] hi
      have e2 := stg_st (H := H) (m := m) hi
      have e3 := stg_len (H := H) (n := n) (m := m) (i := i)
      simp [f15, f5, f1, unU_len, hwB, hm4, e3, e1, e2, -iaddrA, -ldA, -stA]
      have e4 := stg_len (H := H) (n := n) (m := m) (i := i + 1)
      refine NextK_of (H.length + (1 + (i + 1))) (by omega) (by simp [f15, f14, e4]; omega) ?_
      have h5 : H.length < H.length + (1 + (i + 1)) := by omega
      rw [stg_cut hcl]
      simp [f0, f1, f5]
    · rintro fr H' f15 f14 ⟨f0, f1, f5, rfl⟩
      simp [f0, f1, f5, stg_fin]
      refine tabX_congr fun k l hk hl => ?_
      unfold cO
      split
      · rw [List.drop_eq_nil_of_le (by omega), nil_lcs]; rfl
      · rfl
  rintro fr H' ⟨f0, f1, f5, rfl⟩
  have hwA1 : IntKind.i64.wrap ((A.length : Int) - 1) = (A.length : Int) - 1 := wrap_i64 (by omega) (by omega)
  have hwB1 : IntKind.i64.wrap ((B.length : Int) - 1) = (B.length : Int) - 1 := wrap_i64 (by omega) (by omega)
  simp [f0, f1, unU_len, hwA1]
  refine LoopK_out 2 (fun fr H' => fr 5 = .msl H.length 0 n ∧ H' = H ++ tabX H.length n m (cL A B)) ?_ ?_
  · refine LoopM_of (H.length + (n + 1)) (fun i fr H' => i ≤ A.length ∧ fr 0 = .d (.sl z 2 ((unU p A).map encU)) ∧ fr 1 = .d (.sl y 2 ((unU q B).map encU)) ∧ fr 5 = .msl H.length 0 n ∧ fr 7 = .d (.int .i64 ((i : Int) - 1)) ∧ H' = H ++ tabX H.length n m (cO A B i)) A.length (by simp [tabX_len]) ⟨Nat.le_refl _, ?_⟩ ?_
    · have h5 : H.length < H.length + (n + 1) := by omega
      rw [tab_cut0 hcl]
      simp [f0, f1, f5, h5]
    rintro i fr H' ⟨hi, f0, f1, f5, f7, rfl⟩
    simp [f7]
    refine BrK_split (fun hb => ?_) (fun hb => ?_)
    · have hi1 : 1 ≤ i := by have : (0 : Int) ≤ (i : Int) - 1 := by simpa using hb
                             omega
      obtain ⟨i, rfl⟩ : ∃ i', i = i' + 1 := ⟨i - 1, by omega⟩
      have f7 : fr 7 = .d (.int .i64 (i : Int)) := by rw [f7]; congr 2; omega
      clear hb
      simp [f1, unU_len, hwB1]
      have h5 : H.length < H.length + (n + 1) := by omega
      have hin : i < n := by omega
      have hi1n : i + 1 < n := by omega
      have hla : i < A.length := by omega
      refine LoopK_out 4 (fun fr' H' => fr' 0 = .d (.sl z 2 ((unU p A).map encU)) ∧ fr' 1 = .d (.sl y 2 ((unU q B).map encU)) ∧ fr' 5 = .msl H.length 0 n ∧ fr' 7 = .d (.int .i64 (i : Int)) ∧ H' = H ++ tabX H.length n m (cO A B i)) ?_ ?_
      · refine LoopM_of (H.length + (n + 1)) (fun j fr' H' => j ≤ B.length ∧ fr' 0 = .d (.sl z 2 ((unU p A).map encU)) ∧ fr' 1 = .d (.sl y 2 ((unU q B).map encU)) ∧ fr' 5 = .msl H.length 0 n ∧ fr' 7 = .d (.int .i64 (i : Int)) ∧ fr' 8 = .d (.int .i64 ((j : Int) - 1)) ∧ H' = H ++ tabX H.length n m (cI A B i j)) B.length (by simp [tabX_len]) ⟨Nat.le_refl _, ?_⟩ ?_
        · rw [tab_cut0 hcl]
          simp [f0, f1, f5, f7, h5]
          refine tabX_congr fun k l hk hl => ?_
          unfold cO cI
          by_cases e1 : i + 1 ≤ k
          · rw [if_pos e1, if_pos (.inl e1)]
          · rw [if_neg e1]
            split
            · rename_i e2
              rw [List.drop_eq_nil_of_le (show B.length ≤ l by omega), lcs_nil]; rfl
            · rfl
        rintro j fr' H' ⟨hj, f0, f1, f5, f7, f8, rfl⟩
        simp [f8]
        refine BrK_split (fun hb => ?_) (fun hb => ?_)
        · have hj1 : 1 ≤ j := by have : (0 : Int) ≤ (j : Int) - 1 := by simpa using hb
                                 omega
          obtain ⟨j, rfl⟩ : ∃ j', j = j' + 1 := ⟨j - 1, by omega⟩
          have f8 : fr' 8 = .d (.int .i64 (j : Int)) := by rw [f8]; congr 2; omega
          clear hb
          have hlb : j < B.length := by omega
          have hjm : j < m := by omega
          have hj1m : j + 1 < m := by omega
          have hwi : IntKind.i64.wrap ((i : Int) + 1) = (i : Int) + 1 := wrap_i64 (by omega) (by omega)
          have hwj : IntKind.i64.wrap ((j : Int) + 1) = (j : Int) + 1 := wrap_i64 (by omega) (by omega)
          have hwj2 : IntKind.i64.wrap ((j : Int) - 1) = (j : Int) - 1 := wrap_i64 (by omega) (by omega)
          have ra := unU_row (p := p) hla
          have rb := unU_row (p := q) hlb
          have hdA : A.drop i = A[i] :: A.drop (i + 1) := List.drop_eq_getElem_cons hla
          have hdB : B.drop j = B[j] :: B.drop (j + 1) := List.drop_eq_getElem_cons hlb
          have a1 := tab_i1 (H := H) (n := n) (m := m) (cell := cI A B i (j + 1)) (q := (i : Int)) (k := i) rfl hin
          have l1 := tab_l1 (H := H) (n := n) (m := m) (cell := cI A B i (j + 1)) hin
          have a2 := tab_i1 (H := H) (n := n) (m := m) (cell := cI A B i (j + 1)) (q := (i : Int) + 1) (k := i + 1) (by omega) hi1n
          have l2 := tab_l1 (H := H) (n := n) (m := m) (cell := cI A B i (j + 1)) hi1n
          have a3 := tab_i2 (H := H) (n := n) (m := m) (cell := cI A B i (j + 1)) (q := (j : Int) + 1) (l := j + 1) hi1n (by omega) hj1m
          have l3 := tab_l2 (H := H) (n := n) (m := m) (cell := cI A B i (j + 1)) hi1n hj1m
          have a4 := tab_i2 (H := H) (n := n) (m := m) (cell := cI A B i (j + 1)) (q := (j : Int)) (l := j) hi1n rfl hjm
          have l4 := tab_l2 (H := H) (n := n) (m := m) (cell := cI A B i (j + 1)) hi1n hjm
          have a5 := tab_i2 (H := H) (n := n) (m := m) (cell := cI A B i (j + 1)) (q := (j : Int) + 1) (l := j + 1) hin (by omega) hj1m
          have l5 := tab_l2 (H := H) (n := n) (m := m) (cell := cI A B i (j + 1)) hin hj1m
          have a6 := tab_i2 (H := H) (n := n) (m := m) (cell := cI A B i (j + 1)) (q := (j : Int)) (l := j) hin rfl hjm
          have s6 := tab_st (H := H) (n := n) (m := m) (cell := cI A B i (j + 1)) hin hjm
          have hup : tabX H.length n m (updC (cI A B i (j + 1)) i j (lcs (A.drop i) (B.drop j) : Int)) = tabX H.length n m (cI A B i j) := tabX_congr fun k l hk hl => by
            unfold updC cI
            by_cases e1 : k = i ∧ l = j
            · rw [if_pos e1, e1.1, e1.2, if_pos (.inr ⟨rfl, Nat.le_refl _⟩)]
            · rw [if_neg e1]
              by_cases e2 : i + 1 ≤ k ∨ (k = i ∧ j + 1 ≤ l)
              · rw [if_pos e2, if_pos (by omega)]
              · rw [if_neg e2, if_neg (by omega)]
          have c3 : cI A B i (j + 1) (i + 1) (j + 1) = (lcs (A.drop (i + 1)) (B.drop (j + 1)) : Int) := if_pos (.inl (Nat.le_refl _))
          have c4 : cI A B i (j + 1) (i + 1) j = (lcs (A.drop (i + 1)) (B.drop j) : Int) := if_pos (.inl (Nat.le_refl _))
          have c5 : cI A B i (j + 1) i (j + 1) = (lcs (A.drop i) (B.drop (j + 1)) : Int) := if_pos (.inr ⟨rfl, Nat.le_refl _⟩)
          rw [c3] at l3; rw [c4] at l4; rw [c5] at l5
          have hL : lcs (A.drop i) (B.drop j) = if A[i] = B[j] then lcs (A.drop (i + 1)) (B.drop (j + 1)) + 1 else max (lcs (A.drop (i + 1)) (B.drop j)) (lcs (A.drop i) (B.drop (j + 1))) := by
            conv => lhs; rw [hdA, hdB, lcs]
            rw [← hdA, ← hdB]
          have hlt3 := (lcs_le (A.drop (i + 1)) (B.drop (j + 1))).1
          simp only [List.length_drop] at hlt3
          clear hdA hdB c3 c4 c5
          generalize lcs (A.drop i) (B.drop j) = X at hL hup
          generalize lcs (A.drop (i + 1)) (B.drop (j + 1)) = X3 at hL l3 hlt3
          generalize lcs (A.drop (i + 1)) (B.drop j) = X4 at hL l4
          generalize lcs (A.drop i) (B.drop (j + 1)) = X5 at hL l5
          generalize A[i] = a at ra hL
          generalize B[j] = b at rb hL
          generalize hT : tabX H.length n m (cI A B i (j + 1)) = T at a1 l1 a2 l2 a3 l3 a4 l4 a5 l5 a6 s6
          simp [f0, f1, f5, f7, f8, ra, rb, iaddrA_sl, ldA_eptr, -iaddrA, -ldA, -stA]
          by_cases hab : a = b
          · rw [if_pos hab] at hL
            have hw3 : IntKind.i32.wrap ((X3 : Int) + 1) = (X : Int) := by
              rw [hL]; simp [IntKind.wrap, IntKind.bits, IntKind.signed]; omega
            simp [hab, f5, f7, f8, hwi, hwj, a1, l1, a2, l2, a3, l3, a6, hw3, s6, hup, -iaddrA, -ldA, -stA]
            simp [hwj2, f8]
            refine NextM_of (H.length + (n + 1)) j (Nat.le_refl _) (by simp [tabX_len]) (by omega) ⟨by omega, ?_⟩
            rw [tab_cut0 hcl]
            simp [f0, f1, f5, f7, h5]
          · rw [if_neg hab] at hL
            have hmx : max (X4 : Int) (X5 : Int) = (X : Int) := by rw [hL]; omega
            simp [hab, f5, f7, f8, hwi, hwj, a1, l1, a2, l2, a4, l4, a5, l5, a6, hmx, s6, hup, -iaddrA, -ldA, -stA]
            simp [hwj2, f8]
            refine NextM_of (H.length + (n + 1)) j (Nat.le_refl _) (by simp [tabX_len]) (by omega) ⟨by omega, ?_⟩
            rw [tab_cut0 hcl]
            simp [f0, f1, f5, f7, h5]
        · have hj0 : j = 0 := by have : ¬ (0 : Int) ≤ (j : Int) - 1 := by simpa using hb
                                 omega
          subst hj0
          simp [f0, f1, f5, f7]
          refine tabX_congr fun k l hk hl => ?_
          unfold cI cO
          by_cases e1 : i ≤ k
          · rw [if_pos e1, if_pos (by omega)]
          · rw [if_neg e1, if_neg (by omega)]
      rintro fr' H' ⟨f0, f1, f5, f7, rfl⟩
      have hwi2 : IntKind.i64.wrap ((i : Int) - 1) = (i : Int) - 1 := wrap_i64 (by omega) (by omega)
      simp [f7, hwi2]
      refine NextM_of (H.length + (n + 1)) i (Nat.le_refl _) (by simp [tabX_len]) (by omega) ⟨by omega, ?_⟩
      rw [tab_cut0 hcl]
      simp [f0, f1, f5, h5]
    · have hi0 : i = 0 := by have : ¬ (0 : Int) ≤ (i : Int) - 1 := by simpa using hb
                             omega
      subst hi0
      simp [f5]
      exact tabX_congr fun k l hk hl => by simp [cO, cL]
  rintro fr H' ⟨f5, rfl⟩
  simp [f5]
  have h5 : H.length < H.length + (n + 1) := by omega
  simp [RetK, tab_cut0 hcl, h5, tabX_len]

end
end Go.Zam

namespace Go.Zam
set_option linter.all false
set_option maxRecDepth 100000
set_option maxHeartbeats 1000000

def encRn (r : Rn) : List D := [.int .i64 (r.a : Int), .int .i64 (r.b : Int), .int .i64 (r.c : Int), .int .i64 (r.d : Int)]

theorem iaddrA_app {H X : Hp} {sz i o n : Nat} {q : Int} {k : IntKind} {v : A} (h : iaddrA H sz (.msl i o n) (.d (.int k q)) = some v) : iaddrA (H ++ X) sz (.msl i o n) (.d (.int k q)) = some v := by
  simp only [iaddrA] at h ⊢
  cases e : H[i]? with
  | none => rw [e] at h; cases h
  | some o' =>
    rw [List.getElem?_append_left (List.getElem?_eq_some_iff.1 e).1, e]
    rw [e] at h; exact h
theorem ldA_app {H X : Hp} {n i k o : Nat} {v : List A} (h : ldA H n (.aptr i k o) = some v) : ldA (H ++ X) n (.aptr i k o) = some v := by
  simp only [ldA] at h ⊢
  cases e : H[i]? with
  | none => rw [e] at h; cases h
  | some o' =>
    rw [List.getElem?_append_left (List.getElem?_eq_some_iff.1 e).1, e]
    rw [e] at h; exact h
theorem tab_closed {H : Hp} {n m : Nat} {cell : Nat → Nat → Int} (hcl : H.Closed) : Hp.Closed (H ++ tabX H.length n m cell) := by
  intro q hq
  simp only [List.length_append, tabX_len] at hq
  rw [List.map_append, hcl q (by omega), tab_clr (by omega)]
theorem skipN_nil_nil : skipN [] [] = (0, 0) := by rw [skipN]
theorem skipN_cons_nil (a : Bs) (A : List Bs) : skipN (a :: A) [] = ((skipN A []).1 + 1, (skipN A []).2) := by rw [skipN]
theorem skipN_nil_cons (b : Bs) (B : List Bs) : skipN [] (b :: B) = ((skipN [] B).1, (skipN [] B).2 + 1) := by rw [skipN]
theorem skipN_cons (a b : Bs) (A B : List Bs) : skipN (a :: A) (b :: B) = if a = b then (0, 0) else if lcs (a :: A) B ≤ lcs A (b :: B) then ((skipN A (b :: B)).1 + 1, (skipN A (b :: B)).2) else ((skipN (a :: A) B).1, (skipN (a :: A) B).2 + 1) := by rw [skipN]
theorem runsF_run {f i j : Nat} {A B : List Bs} (h1 : ¬ (A = [] ∧ B = [])) (h2 : headEq A B = false) : runsF (f + 1) A B i j = ⟨i, i + (skipN A B).1, j, j + (skipN A B).2⟩ :: runsF f (A.drop (skipN A B).1) (B.drop (skipN A B).2) (i + (skipN A B).1) (j + (skipN A B).2) := by
  rw [runsF, if_neg h1, if_neg (by simp [h2])]

section
variable {P : Program}

theorem HasT.runs {f ft tr} (h : HasT P [6] f (irDRuns ft tr)) (ht : Has P ft irDTable) (z y : Bool) (p q : Nat) (A B : List Bs) (hA : A.length ≤ 1048576) (hB : B.length ≤ 1048576) (H : Hp) :
    ACall P f [.d (.sl z 2 ((unU p A).map encU)), .d (.sl y 2 ((unU q B).map encU))] H (fun r H' => r = .d (.sl true 4 ((runsL A B).map encRn)) ∧ H' = H) := by
  obtain ⟨fn, hf, hcf⟩ := h
  refine acall_fin hf hcf (by simp [irDRuns]) fun hcl _ => ?_
  have gt := ht.table z y p q A B hA hB H
  obtain ⟨n, hn⟩ : ∃ n, n = A.length + 1 := ⟨_, rfl⟩
  obtain ⟨m, hm⟩ : ∃ m, m = B.length + 1 := ⟨_, rfl⟩
  rw [← hn, ← hm] at gt
  simp [irDRuns]
  refine CallK_of' gt ?_
  have hi1 : ∀ (q : Int) (k : Nat), q = k → k < n → iaddrA (H ++ tabX H.length n m (cL A B)) 1 (.msl H.length 0 n) (.d (.int .i64 q)) = some (.aptr H.length k 0) := fun q k hq hk => tab_i1 hq hk
  have hl1 : ∀ (k : Nat), k < n → ldA (H ++ tabX H.length n m (cL A B)) 1 (.aptr H.length k 0) = some [.msl (H.length + 1 + k) 0 m] := fun k hk => tab_l1 hk
  have hi2 : ∀ (q : Int) (k l : Nat), k < n → q = l → l < m → iaddrA (H ++ tabX H.length n m (cL A B)) 1 (.msl (H.length + 1 + k) 0 m) (.d (.int .i64 q)) = some (.aptr (H.length + 1 + k) l 0) := fun q k l hk hq hl => tab_i2 hk hq hl
  have hl2 : ∀ (k l : Nat), k < n → l < m → ldA (H ++ tabX H.length n m (cL A B)) 1 (.aptr (H.length + 1 + k) l 0) = some [.d (.int .i32 (lcs (A.drop k) (B.drop l) : Int))] := fun k l hk hl => tab_l2 (cell := cL A B) hk hl
  have hcl1 : Hp.Closed (H ++ tabX H.length n m (cL A B)) := tab_closed hcl
  have hlen1 : H.length < (H ++ tabX H.length n m (cL A B)).length := by simp [tabX_len]
  have hfin : ∀ X, Hp.cut H.length ((H ++ tabX H.length n m (cL A B)) ++ X) = H := fun X => by rw [List.append_assoc]; exact cut_app hcl _
  generalize H ++ tabX H.length n m (cL A B) = H1 at hi1 hl1 hi2 hl2 hcl1 hlen1 hfin ⊢
  simp
  have hrl := runsF
  clear hrl
  refine LoopK_out 0 (fun fr H' => fr 6 = .osl true 4 ((runsL A B).map encRn) H1.length ∧ ∃ X, H' = H1 ++ X) ?_ ?_
  · refine LoopM_of (H1.length + 1) (fun d fr H' => ∃ (i j f : Nat) (out : List Rn), d = (A.length - i) + (B.length - j) ∧ i ≤ A.length ∧ j ≤ B.length ∧ runsL A B = out ++ runsF f (A.drop i) (B.drop j) i j ∧ (A.length - i) + (B.length - j) < f ∧ out.length ≤ i + j ∧
      fr 0 = .d (.sl z 2 ((unU p A).map encU)) ∧ fr 1 = .d (.sl y 2 ((unU q B).map encU)) ∧ fr 5 = .msl H.length 0 n ∧ fr 6 = .osl true 4 (out.map encRn) H1.length ∧ fr 7 = .d (.int .i64 (i : Int)) ∧ fr 8 = .d (.int .i64 (j : Int)) ∧ H' = H1 ++ [.tok out.length 4 tr]) (A.length + B.length) (by simp; omega) ⟨0, 0, A.length + B.length + 1, [], by omega, by omega, by omega, by simp [runsL], by omega, by simp, ?_⟩ ?_
    · have h5 : H.length < H1.length + 1 := by omega
      simp [cut_appk hcl1, h5]
    rintro d fr H' ⟨i, j, f, out, rfl, hi, hj, hrs, hf, hout, f0, f1, f5, f6, f7, f8, rfl⟩
    obtain ⟨f, rfl⟩ : ∃ f', f = f' + 1 := ⟨f - 1, by omega⟩
    have h5 : H.length < H1.length + 1 := by omega
    have h52 : H.length < H1.length + 2 := by omega
    have hwi : IntKind.i64.wrap ((i : Int) + 1) = ((i + 1 : Nat) : Int) := by rw [wrap_i64 (by omega) (by omega)]; omega
    have hwj : IntKind.i64.wrap ((j : Int) + 1) = ((j + 1 : Nat) : Int) := by rw [wrap_i64 (by omega) (by omega)]; omega
    simp only [Int.natCast_add, Int.natCast_one] at hwi hwj
    rcases Nat.lt_or_ge i A.length with la | la
    · have la' : (i : Int) < A.length := by omega
      have ra := unU_row (p := p) la
      have hdA : A.drop i = A[i] :: A.drop (i + 1) := List.drop_eq_getElem_cons la
      rcases Nat.lt_or_ge j B.length with lb | lb
      · have lb' : (j : Int) < B.length := by omega
        have rb := unU_row (p := q) lb
        have hdB : B.drop j = B[j] :: B.drop (j + 1) := List.drop_eq_getElem_cons lb
        by_cases hab : A[i] = B[j]
        · have hne : ¬ (A.drop i = [] ∧ B.drop j = []) := fun h => by have := h.1; rw [hdA] at this; cases this
          have hhe : headEq (A.drop i) (B.drop j) = true := by rw [hdA, hdB]; simp [headEq, hab]
          rw [runsF, if_neg hne, if_pos hhe, hdA, hdB, List.tail_cons, List.tail_cons] at hrs
          rw [hab] at ra
          generalize B[j] = b at ra rb
          simp [f0, f1, f7, f8, unU_len, la', lb', ra, rb, hwi, hwj]
          refine NextM_of (H1.length + 1) ((A.length - (i + 1)) + (B.length - (j + 1))) (Nat.le_refl _) (by simp) (by omega) ⟨i + 1, j + 1, f, out, rfl, by omega, by omega, hrs, by omega, by omega, ?_⟩
          simp [f0, f1, f5, f6, h5, cut_appk hcl1]
        · have hhe : headEq (A.drop i) (B.drop j) = false := by rw [hdA, hdB]; simp [headEq, hab]
          have hne : ¬ (A.drop i = [] ∧ B.drop j = []) := fun h => by have := h.1; rw [hdA] at this; cases this
          rw [runsF_run hne hhe] at hrs
          have hskp : 1 ≤ (skipN (A.drop i) (B.drop j)).1 + (skipN (A.drop i) (B.drop j)).2 := (skipN_spec _ _).2.2.2.2 (by rw [hdA, hdB]; exact hab)
          clear hdA hdB hhe hne
          generalize A[i] = a at ra hab
          generalize B[j] = b at rb hab
          simp [f0, f1, f7, f8, unU_len, la', lb', ra, rb, hab]
          have hsp := skipN_spec (A.drop i) (B.drop j)
          simp only [List.length_drop] at hsp
          obtain ⟨sp1, sp2, -, -, -⟩ := hsp
          simp only [List.drop_drop] at hrs
          generalize hSK : skipN (A.drop i) (B.drop j) = SK at hrs hskp sp1 sp2
          obtain ⟨x, w⟩ := SK
          simp only at hrs hskp sp1 sp2
          refine LoopK_out 2 (fun fr' H' => fr' 0 = .d (.sl z 2 ((unU p A).map encU)) ∧ fr' 1 = .d (.sl y 2 ((unU q B).map encU)) ∧ fr' 5 = .msl H.length 0 n ∧ fr' 6 = .osl true 4 (out.map encRn) H1.length ∧ fr' 7 = .d (.int .i64 ((i + x : Nat) : Int)) ∧ fr' 8 = .d (.int .i64 ((j + w : Nat) : Int)) ∧ fr' 9 = .ptr (H1.length + 1) 0 ∧ H' = H1 ++ [.tok out.length 4 tr, .box tr [.d (.int .i64 (i : Int)), .d (.int .i64 0), .d (.int .i64 (j : Int)), .d (.int .i64 0)]]) ?_ ?_
          · refine LoopM_of (H1.length + 2) (fun d fr' H' => ∃ u v : Nat, d = (A.length - (i + u)) + (B.length - (j + v)) ∧ i + u ≤ A.length ∧ j + v ≤ B.length ∧ x = u + (skipN (A.drop (i + u)) (B.drop (j + v))).1 ∧ w = v + (skipN (A.drop (i + u)) (B.drop (j + v))).2 ∧ fr' 0 = .d (.sl z 2 ((unU p A).map encU)) ∧ fr' 1 = .d (.sl y 2 ((unU q B).map encU)) ∧ fr' 5 = .msl H.length 0 n ∧ fr' 6 = .osl true 4 (out.map encRn) H1.length ∧ fr' 7 = .d (.int .i64 ((i + u : Nat) : Int)) ∧ fr' 8 = .d (.int .i64 ((j + v : Nat) : Int)) ∧ fr' 9 = .ptr (H1.length + 1) 0 ∧ H' = H1 ++ [.tok out.length 4 tr, .box tr [.d (.int .i64 (i : Int)), .d (.int .i64 0), .d (.int .i64 (j : Int)), .d (.int .i64 0)]]) ((A.length - (i + 0)) + (B.length - (j + 0))) (by simp; omega) ⟨0, 0, rfl, by omega, by omega, by simp [hSK], by simp [hSK], ?_⟩ ?_
            · simp [f0, f1, f5, f6, f7, f8, h52, cut_appk hcl1]
            clear hSK hskp f0 f1 f5 f6 f7 f8
            rintro d fr' H' ⟨u, v, rfl, hu, hv, hx, hw, f0, f1, f5, f6, f7, f8, f9, rfl⟩
            generalize hU : i + u = I at hu hx hw f7
            generalize hV : j + v = J at hv hx hw f8
            have eI : (i : Int) + (u : Int) = (I : Int) := by omega
            have eJ : (j : Int) + (v : Int) = (J : Int) := by omega
            have eI1 : (i : Int) + ((u : Int) + 1) = (I : Int) + 1 := by omega
            have eJ1 : (j : Int) + ((v : Int) + 1) = (J : Int) + 1 := by omega
            have hwI : IntKind.i64.wrap ((I : Int) + 1) = (I : Int) + 1 := wrap_i64 (by omega) (by omega)
            have hwJ : IntKind.i64.wrap ((J : Int) + 1) = (J : Int) + 1 := wrap_i64 (by omega) (by omega)
            rcases Nat.lt_or_ge I A.length with la | la
            · have la' : (I : Int) < A.length := by omega
              have ra := unU_row (p := p) la
              have hdA : A.drop I = A[I] :: A.drop (I + 1) := List.drop_eq_getElem_cons la
              rcases Nat.lt_or_ge J B.length with lb | lb
              · have lb' : (J : Int) < B.length := by omega
                have nlb : ¬ ((J : Int) = B.length) := by omega
                have rb := unU_row (p := q) lb
                have hdB : B.drop J = B[J] :: B.drop (J + 1) := List.drop_eq_getElem_cons lb
                by_cases hab : A[I] = B[J]
                · rw [hdA, hdB, skipN_cons, if_pos hab] at hx hw
                  rw [hab] at ra
                  generalize B[J] = b at ra rb
                  simp at hx hw
                  subst hx; subst hw
                  simp [f0, f1, f7, f8, unU_len, la', lb', ra, rb]
                  simp [f0, f1, f5, f6, f7, f8, f9, eI, eJ]
                · have a1 := iaddrA_app (X := [.tok out.length 4 tr, .box tr [.d (.int .i64 (i : Int)), .d (.int .i64 0), .d (.int .i64 (j : Int)), .d (.int .i64 0)]]) (hi1 ((I : Int) + 1) (I + 1) (by omega) (by omega))
                  have l1 := ldA_app (X := [.tok out.length 4 tr, .box tr [.d (.int .i64 (i : Int)), .d (.int .i64 0), .d (.int .i64 (j : Int)), .d (.int .i64 0)]]) (hl1 (I + 1) (by omega))
                  have a2 := iaddrA_app (X := [.tok out.length 4 tr, .box tr [.d (.int .i64 (i : Int)), .d (.int .i64 0), .d (.int .i64 (j : Int)), .d (.int .i64 0)]]) (hi2 (J : Int) (I + 1) J (by omega) rfl (by omega))
                  have l2 := ldA_app (X := [.tok out.length 4 tr, .box tr [.d (.int .i64 (i : Int)), .d (.int .i64 0), .d (.int .i64 (j : Int)), .d (.int .i64 0)]]) (hl2 (I + 1) J (by omega) (by omega))
                  have a3 := iaddrA_app (X := [.tok out.length 4 tr, .box tr [.d (.int .i64 (i : Int)), .d (.int .i64 0), .d (.int .i64 (j : Int)), .d (.int .i64 0)]]) (hi1 (I : Int) I rfl (by omega))
                  have l3 := ldA_app (X := [.tok out.length 4 tr, .box tr [.d (.int .i64 (i : Int)), .d (.int .i64 0), .d (.int .i64 (j : Int)), .d (.int .i64 0)]]) (hl1 I (by omega))
                  have a4 := iaddrA_app (X := [.tok out.length 4 tr, .box tr [.d (.int .i64 (i : Int)), .d (.int .i64 0), .d (.int .i64 (j : Int)), .d (.int .i64 0)]]) (hi2 ((J : Int) + 1) I (J + 1) (by omega) (by omega) (by omega))
                  have l4 := ldA_app (X := [.tok out.length 4 tr, .box tr [.d (.int .i64 (i : Int)), .d (.int .i64 0), .d (.int .i64 (j : Int)), .d (.int .i64 0)]]) (hl2 I (J + 1) (by omega) (by omega))
                  have hsk := skipN_cons A[I] B[J] (A.drop (I + 1)) (B.drop (J + 1))
                  rw [if_neg hab, ← hdA, ← hdB] at hsk
                  generalize lcs (A.drop (I + 1)) (B.drop J) = X1 at l2 hsk
                  generalize lcs (A.drop I) (B.drop (J + 1)) = X2 at l4 hsk
                  clear hdA hdB
                  generalize A[I] = a at ra hab
                  generalize B[J] = b at rb hab
                  have hi2' : ∀ H : Hp, ∀ c : D, iaddrA H 2 (.d c) = iaddrA H 2 (.d c) := fun _ _ => rfl
                  simp [f0, f1, f5, f7, f8, unU_len, la', lb', nlb, ra, rb, hab, hwI, hwJ, a1, l1, a2, l2, a3, l3, a4, l4, iaddrA_sl, ldA_eptr, -iaddrA, -ldA]
                  by_cases hle : X2 ≤ X1
                  · rw [if_pos hle] at hsk
                    rw [hsk] at hx hw
                    simp [hle, f7, hwI]
                    refine NextM_of (H1.length + 2) ((A.length - (i + (u + 1))) + (B.length - (j + v))) (Nat.le_refl _) (by simp) (by omega) ⟨u + 1, v, rfl, by omega, by omega, ?_, ?_, ?_⟩
                    · rw [show i + (u + 1) = I + 1 by omega, hV]; simp only at hx; omega
                    · rw [show i + (u + 1) = I + 1 by omega, hV]; exact hw
                    · simp [eI, eI1, eJ, f0, f1, f5, f6, f8, f9, h52, cut_appk hcl1]
                  · rw [if_neg hle] at hsk
                    rw [hsk] at hx hw
                    simp [hle, f8, hwJ]
                    refine NextM_of (H1.length + 2) ((A.length - (i + u)) + (B.length - (j + (v + 1)))) (Nat.le_refl _) (by simp) (by omega) ⟨u, v + 1, rfl, by omega, by omega, ?_, ?_, ?_⟩
                    · rw [show j + (v + 1) = J + 1 by omega, hU]; exact hx
                    · rw [show j + (v + 1) = J + 1 by omega, hU]; simp only at hw; omega
                    · simp [eI, eJ, eJ1, f0, f1, f5, f6, f7, f9, h52, cut_appk hcl1]
              · have lb' : ¬ (J : Int) < B.length := by omega
                have elb : (J : Int) = B.length := by omega
                have hdB : B.drop J = [] := List.drop_eq_nil_of_le lb
                rw [hdA, hdB, skipN_cons_nil, ← hdB] at hx hw
                clear hdA
                simp [f0, f1, f7, f8, unU_len, la', elb]
                simp [f7, hwI]
                refine NextM_of (H1.length + 2) ((A.length - (i + (u + 1))) + (B.length - (j + v))) (Nat.le_refl _) (by simp) (by omega) ⟨u + 1, v, rfl, by omega, by omega, ?_, ?_, ?_⟩
                · rw [show i + (u + 1) = I + 1 by omega, hV]; simp only at hx; omega
                · rw [show i + (u + 1) = I + 1 by omega, hV]; exact hw
                · simp [eI, eI1, eJ, f0, f1, f5, f6, f8, f9, h52, cut_appk hcl1]
            · have la' : ¬ (I : Int) < A.length := by omega
              have hdA : A.drop I = [] := List.drop_eq_nil_of_le la
              rcases Nat.lt_or_ge J B.length with lb | lb
              · have lb' : (J : Int) < B.length := by omega
                have nlb : ¬ ((J : Int) = B.length) := by omega
                have hdB : B.drop J = B[J] :: B.drop (J + 1) := List.drop_eq_getElem_cons lb
                rw [hdA, hdB, skipN_nil_cons, ← hdA] at hx hw
                clear hdB
                simp [f0, f1, f7, f8, unU_len, la', lb', nlb]
                simp [f8, hwJ]
                refine NextM_of (H1.length + 2) ((A.length - (i + u)) + (B.length - (j + (v + 1)))) (Nat.le_refl _) (by simp) (by omega) ⟨u, v + 1, rfl, by omega, by omega, ?_, ?_, ?_⟩
                · rw [show j + (v + 1) = J + 1 by omega, hU]; exact hx
                · rw [show j + (v + 1) = J + 1 by omega, hU]; simp only at hw; omega
                · simp [eI, eJ, eJ1, f0, f1, f5, f6, f7, f9, h52, cut_appk hcl1]
              · have lb' : ¬ (J : Int) < B.length := by omega
                have hdB : B.drop J = [] := List.drop_eq_nil_of_le lb
                rw [hdA, hdB, skipN_nil_nil] at hx hw
                simp at hx hw
                subst hx; subst hw
                simp [f0, f1, f7, f8, unU_len, la', lb']
                simp [f0, f1, f5, f6, f7, f8, f9, eI, eJ]
          clear f0 f1 f5 f6 f7 f8
          rintro fr' H' ⟨f0, f1, f5, f6, f7, f8, f9, rfl⟩
          obtain ⟨r, hr⟩ : ∃ r : Rn, r = ⟨i, i + x, j, j + w⟩ := ⟨_, rfl⟩
          have hbt : out.map encRn ++ [[.int .i64 (i : Int), .int .i64 ((i + x : Nat) : Int), .int .i64 (j : Int), .int .i64 ((j + w : Nat) : Int)]] = (out ++ [r]).map encRn := by simp [encRn, hr]
          rw [← hr] at hrs
          generalize hI : i + x = I at hrs f7 hbt
          generalize hJ : j + w = J at hrs f8 hbt
          simp [f6, f7, f8, f9, appA]
          rw [if_pos (by omega)]
          simp [hbt]
          refine NextM_of (H1.length + 1) ((A.length - I) + (B.length - J)) (Nat.le_refl _) (by simp) (by omega) ⟨I, J, f, out ++ [r], rfl, by omega, by omega, ?_, by omega, by simp; omega, ?_⟩
          · rw [hrs]; simp
          · simp [f0, f1, f5, f7, f8, h5, cut_appk hcl1]
      · have lb' : ¬ (j : Int) < B.length := by omega
        have hdB : B.drop j = [] := List.drop_eq_nil_of_le lb
        have hhe : headEq (A.drop i) (B.drop j) = false := by rw [hdA, hdB]; rfl
        have hne : ¬ (A.drop i = [] ∧ B.drop j = []) := fun h => by have := h.1; rw [hdA] at this; cases this
        rw [runsF_run hne hhe] at hrs
        have hskp : 1 ≤ (skipN (A.drop i) (B.drop j)).1 + (skipN (A.drop i) (B.drop j)).2 := (skipN_spec _ _).2.2.2.2 (by rw [hdA, hdB]; exact fun h => h)
        clear hdA hdB hhe hne
        simp [f0, f1, f7, f8, unU_len, la', lb']
        have hsp := skipN_spec (A.drop i) (B.drop j)
        simp only [List.length_drop] at hsp
        obtain ⟨sp1, sp2, -, -, -⟩ := hsp
        simp only [List.drop_drop] at hrs
        generalize hSK : skipN (A.drop i) (B.drop j) = SK at hrs hskp sp1 sp2
        obtain ⟨x, w⟩ := SK
        simp only at hrs hskp sp1 sp2
        refine LoopK_out 2 (fun fr' H' => fr' 0 = .d (.sl z 2 ((unU p A).map encU)) ∧ fr' 1 = .d (.sl y 2 ((unU q B).map encU)) ∧ fr' 5 = .msl H.length 0 n ∧ fr' 6 = .osl true 4 (out.map encRn) H1.length ∧ fr' 7 = .d (.int .i64 ((i + x : Nat) : Int)) ∧ fr' 8 = .d (.int .i64 ((j + w : Nat) : Int)) ∧ fr' 9 = .ptr (H1.length + 1) 0 ∧ H' = H1 ++ [.tok out.length 4 tr, .box tr [.d (.int .i64 (i : Int)), .d (.int .i64 0), .d (.int .i64 (j : Int)), .d (.int .i64 0)]]) ?_ ?_
        · refine LoopM_of (H1.length + 2) (fun d fr' H' => ∃ u v : Nat, d = (A.length - (i + u)) + (B.length - (j + v)) ∧ i + u ≤ A.length ∧ j + v ≤ B.length ∧ x = u + (skipN (A.drop (i + u)) (B.drop (j + v))).1 ∧ w = v + (skipN (A.drop (i + u)) (B.drop (j + v))).2 ∧ fr' 0 = .d (.sl z 2 ((unU p A).map encU)) ∧ fr' 1 = .d (.sl y 2 ((unU q B).map encU)) ∧ fr' 5 = .msl H.length 0 n ∧ fr' 6 = .osl true 4 (out.map encRn) H1.length ∧ fr' 7 = .d (.int .i64 ((i + u : Nat) : Int)) ∧ fr' 8 = .d (.int .i64 ((j + v : Nat) : Int)) ∧ fr' 9 = .ptr (H1.length + 1) 0 ∧ H' = H1 ++ [.tok out.length 4 tr, .box tr [.d (.int .i64 (i : Int)), .d (.int .i64 0), .d (.int .i64 (j : Int)), .d (.int .i64 0)]]) ((A.length - (i + 0)) + (B.length - (j + 0))) (by simp; omega) ⟨0, 0, rfl, by omega, by omega, by simp [hSK], by simp [hSK], ?_⟩ ?_
          · simp [f0, f1, f5, f6, f7, f8, h52, cut_appk hcl1]
          clear hSK hskp f0 f1 f5 f6 f7 f8
          rintro d fr' H' ⟨u, v, rfl, hu, hv, hx, hw, f0, f1, f5, f6, f7, f8, f9, rfl⟩
          generalize hU : i + u = I at hu hx hw f7
          generalize hV : j + v = J at hv hx hw f8
          have eI : (i : Int) + (u : Int) = (I : Int) := by omega
          have eJ : (j : Int) + (v : Int) = (J : Int) := by omega
          have eI1 : (i : Int) + ((u : Int) + 1) = (I : Int) + 1 := by omega
          have eJ1 : (j : Int) + ((v : Int) + 1) = (J : Int) + 1 := by omega
          have hwI : IntKind.i64.wrap ((I : Int) + 1) = (I : Int) + 1 := wrap_i64 (by omega) (by omega)
          have hwJ : IntKind.i64.wrap ((J : Int) + 1) = (J : Int) + 1 := wrap_i64 (by omega) (by omega)
          rcases Nat.lt_or_ge I A.length with la | la
          · have la' : (I : Int) < A.length := by omega
            have ra := unU_row (p := p) la
            have hdA : A.drop I = A[I] :: A.drop (I + 1) := List.drop_eq_getElem_cons la
            rcases Nat.lt_or_ge J B.length with lb | lb
            · have lb' : (J : Int) < B.length := by omega
              have nlb : ¬ ((J : Int) = B.length) := by omega
              have rb := unU_row (p := q) lb
              have hdB : B.drop J = B[J] :: B.drop (J + 1) := List.drop_eq_getElem_cons lb
              by_cases hab : A[I] = B[J]
              · rw [hdA, hdB, skipN_cons, if_pos hab] at hx hw
                rw [hab] at ra
                generalize B[J] = b at ra rb
                simp at hx hw
                subst hx; subst hw
                simp [f0, f1, f7, f8, unU_len, la', lb', ra, rb]
                simp [f0, f1, f5, f6, f7, f8, f9, eI, eJ]
              · have a1 := iaddrA_app (X := [.tok out.length 4 tr, .box tr [.d (.int .i64 (i : Int)), .d (.int .i64 0), .d (.int .i64 (j : Int)), .d (.int .i64 0)]]) (hi1 ((I : Int) + 1) (I + 1) (by omega) (by omega))
                have l1 := ldA_app (X := [.tok out.length 4 tr, .box tr [.d (.int .i64 (i : Int)), .d (.int .i64 0), .d (.int .i64 (j : Int)), .d (.int .i64 0)]]) (hl1 (I + 1) (by omega))
                have a2 := iaddrA_app (X := [.tok out.length 4 tr, .box tr [.d (.int .i64 (i : Int)), .d (.int .i64 0), .d (.int .i64 (j : Int)), .d (.int .i64 0)]]) (hi2 (J : Int) (I + 1) J (by omega) rfl (by omega))
                have l2 := ldA_app (X := [.tok out.length 4 tr, .box tr [.d (.int .i64 (i : Int)), .d (.int .i64 0), .d (.int .i64 (j : Int)), .d (.int .i64 0)]]) (hl2 (I + 1) J (by omega) (by omega))
                have a3 := iaddrA_app (X := [.tok out.length 4 tr, .box tr [.d (.int .i64 (i : Int)), .d (.int .i64 0), .d (.int .i64 (j : Int)), .d (.int .i64 0)]]) (hi1 (I : Int) I rfl (by omega))
                have l3 := ldA_app (X := [.tok out.length 4 tr, .box tr [.d (.int .i64 (i : Int)), .d (.int .i64 0), .d (.int .i64 (j : Int)), .d (.int .i64 0)]]) (hl1 I (by omega))
                have a4 := iaddrA_app (X := [.tok out.length 4 tr, .box tr [.d (.int .i64 (i : Int)), .d (.int .i64 0), .d (.int .i64 (j : Int)), .d (.int .i64 0)]]) (hi2 ((J : Int) + 1) I (J + 1) (by omega) (by omega) (by omega))
                have l4 := ldA_app (X := [.tok out.length 4 tr, .box tr [.d (.int .i64 (i : Int)), .d (.int .i64 0), .d (.int .i64 (j : Int)), .d (.int .i64 0)]]) (hl2 I (J + 1) (by omega) (by omega))
                have hsk := skipN_cons A[I] B[J] (A.drop (I + 1)) (B.drop (J + 1))
                rw [if_neg hab, ← hdA, ← hdB] at hsk
                generalize lcs (A.drop (I + 1)) (B.drop J) = X1 at l2 hsk
                generalize lcs (A.drop I) (B.drop (J + 1)) = X2 at l4 hsk
                clear hdA hdB
                generalize A[I] = a at ra hab
                generalize B[J] = b at rb hab
                have hi2' : ∀ H : Hp, ∀ c : D, iaddrA H 2 (.d c) = iaddrA H 2 (.d c) := fun _ _ => rfl
                simp [f0, f1, f5, f7, f8, unU_len, la', lb', nlb, ra, rb, hab, hwI, hwJ, a1, l1, a2, l2, a3, l3, a4, l4, iaddrA_sl, ldA_eptr, -iaddrA, -ldA]
                by_cases hle : X2 ≤ X1
                · rw [if_pos hle] at hsk
                  rw [hsk] at hx hw
                  simp [hle, f7, hwI]
                  refine NextM_of (H1.length + 2) ((A.length - (i + (u + 1))) + (B.length - (j + v))) (Nat.le_refl _) (by simp) (by omega) ⟨u + 1, v, rfl, by omega, by omega, ?_, ?_, ?_⟩
                  · rw [show i + (u + 1) = I + 1 by omega, hV]; simp only at hx; omega
                  · rw [show i + (u + 1) = I + 1 by omega, hV]; exact hw
                  · simp [eI, eI1, eJ, f0, f1, f5, f6, f8, f9, h52, cut_appk hcl1]
                · rw [if_neg hle] at hsk
                  rw [hsk] at hx hw
                  simp [hle, f8, hwJ]
                  refine NextM_of (H1.length + 2) ((A.length - (i + u)) + (B.length - (j + (v + 1)))) (Nat.le_refl _) (by simp) (by omega) ⟨u, v + 1, rfl, by omega, by omega, ?_, ?_, ?_⟩
                  · rw [show j + (v + 1) = J + 1 by omega, hU]; exact hx
                  · rw [show j + (v + 1) = J + 1 by omega, hU]; simp only at hw; omega
                  · simp [eI, eJ, eJ1, f0, f1, f5, f6, f7, f9, h52, cut_appk hcl1]
            · have lb' : ¬ (J : Int) < B.length := by omega
              have elb : (J : Int) = B.length := by omega
              have hdB : B.drop J = [] := List.drop_eq_nil_of_le lb
              rw [hdA, hdB, skipN_cons_nil, ← hdB] at hx hw
              clear hdA
              simp [f0, f1, f7, f8, unU_len, la', elb]
              simp [f7, hwI]
              refine NextM_of (H1.length + 2) ((A.length - (i + (u + 1))) + (B.length - (j + v))) (Nat.le_refl _) (by simp) (by omega) ⟨u + 1, v, rfl, by omega, by omega, ?_, ?_, ?_⟩
              · rw [show i + (u + 1) = I + 1 by omega, hV]; simp only at hx; omega
              · rw [show i + (u + 1) = I + 1 by omega, hV]; exact hw
              · simp [eI, eI1, eJ, f0, f1, f5, f6, f8, f9, h52, cut_appk hcl1]
          · have la' : ¬ (I : Int) < A.length := by omega
            have hdA : A.drop I = [] := List.drop_eq_nil_of_le la
            rcases Nat.lt_or_ge J B.length with lb | lb
            · have lb' : (J : Int) < B.length := by omega
              have nlb : ¬ ((J : Int) = B.length) := by omega
              have hdB : B.drop J = B[J] :: B.drop (J + 1) := List.drop_eq_getElem_cons lb
              rw [hdA, hdB, skipN_nil_cons, ← hdA] at hx hw
              clear hdB
              simp [f0, f1, f7, f8, unU_len, la', lb', nlb]
              simp [f8, hwJ]
              refine NextM_of (H1.length + 2) ((A.length - (i + u)) + (B.length - (j + (v + 1)))) (Nat.le_refl _) (by simp) (by omega) ⟨u, v + 1, rfl, by omega, by omega, ?_, ?_, ?_⟩
              · rw [show j + (v + 1) = J + 1 by omega, hU]; exact hx
              · rw [show j + (v + 1) = J + 1 by omega, hU]; simp only at hw; omega
              · simp [eI, eJ, eJ1, f0, f1, f5, f6, f7, f9, h52, cut_appk hcl1]
            · have lb' : ¬ (J : Int) < B.length := by omega
              have hdB : B.drop J = [] := List.drop_eq_nil_of_le lb
              rw [hdA, hdB, skipN_nil_nil] at hx hw
              simp at hx hw
              subst hx; subst hw
              simp [f0, f1, f7, f8, unU_len, la', lb']
              simp [f0, f1, f5, f6, f7, f8, f9, eI, eJ]
        clear f0 f1 f5 f6 f7 f8
        rintro fr' H' ⟨f0, f1, f5, f6, f7, f8, f9, rfl⟩
        obtain ⟨r, hr⟩ : ∃ r : Rn, r = ⟨i, i + x, j, j + w⟩ := ⟨_, rfl⟩
        have hbt : out.map encRn ++ [[.int .i64 (i : Int), .int .i64 ((i + x : Nat) : Int), .int .i64 (j : Int), .int .i64 ((j + w : Nat) : Int)]] = (out ++ [r]).map encRn := by simp [encRn, hr]
        rw [← hr] at hrs
        generalize hI : i + x = I at hrs f7 hbt
        generalize hJ : j + w = J at hrs f8 hbt
        simp [f6, f7, f8, f9, appA]
        rw [if_pos (by omega)]
        simp [hbt]
        refine NextM_of (H1.length + 1) ((A.length - I) + (B.length - J)) (Nat.le_refl _) (by simp) (by omega) ⟨I, J, f, out ++ [r], rfl, by omega, by omega, ?_, by omega, by simp; omega, ?_⟩
        · rw [hrs]; simp
        · simp [f0, f1, f5, f7, f8, h5, cut_appk hcl1]
    · have la' : ¬ (i : Int) < A.length := by omega
      have hdA : A.drop i = [] := List.drop_eq_nil_of_le la
      rcases Nat.lt_or_ge j B.length with lb | lb
      · have lb' : (j : Int) < B.length := by omega
        have hdB : B.drop j = B[j] :: B.drop (j + 1) := List.drop_eq_getElem_cons lb
        have hhe : headEq (A.drop i) (B.drop j) = false := by rw [hdA]; rfl
        have hne : ¬ (A.drop i = [] ∧ B.drop j = []) := fun h => by have := h.2; rw [hdB] at this; cases this
        rw [runsF_run hne hhe] at hrs
        have hskp : 1 ≤ (skipN (A.drop i) (B.drop j)).1 + (skipN (A.drop i) (B.drop j)).2 := (skipN_spec _ _).2.2.2.2 (by rw [hdA, hdB]; exact fun h => h)
        clear hdA hdB hhe hne
        simp [f0, f1, f7, f8, unU_len, la', lb']
        have hsp := skipN_spec (A.drop i) (B.drop j)
        simp only [List.length_drop] at hsp
        obtain ⟨sp1, sp2, -, -, -⟩ := hsp
        simp only [List.drop_drop] at hrs
        generalize hSK : skipN (A.drop i) (B.drop j) = SK at hrs hskp sp1 sp2
        obtain ⟨x, w⟩ := SK
        simp only at hrs hskp sp1 sp2
        refine LoopK_out 2 (fun fr' H' => fr' 0 = .d (.sl z 2 ((unU p A).map encU)) ∧ fr' 1 = .d (.sl y 2 ((unU q B).map encU)) ∧ fr' 5 = .msl H.length 0 n ∧ fr' 6 = .osl true 4 (out.map encRn) H1.length ∧ fr' 7 = .d (.int .i64 ((i + x : Nat) : Int)) ∧ fr' 8 = .d (.int .i64 ((j + w : Nat) : Int)) ∧ fr' 9 = .ptr (H1.length + 1) 0 ∧ H' = H1 ++ [.tok out.length 4 tr, .box tr [.d (.int .i64 (i : Int)), .d (.int .i64 0), .d (.int .i64 (j : Int)), .d (.int .i64 0)]]) ?_ ?_
        · refine LoopM_of (H1.length + 2) (fun d fr' H' => ∃ u v : Nat, d = (A.length - (i + u)) + (B.length - (j + v)) ∧ i + u ≤ A.length ∧ j + v ≤ B.length ∧ x = u + (skipN (A.drop (i + u)) (B.drop (j + v))).1 ∧ w = v + (skipN (A.drop (i + u)) (B.drop (j + v))).2 ∧ fr' 0 = .d (.sl z 2 ((unU p A).map encU)) ∧ fr' 1 = .d (.sl y 2 ((unU q B).map encU)) ∧ fr' 5 = .msl H.length 0 n ∧ fr' 6 = .osl true 4 (out.map encRn) H1.length ∧ fr' 7 = .d (.int .i64 ((i + u : Nat) : Int)) ∧ fr' 8 = .d (.int .i64 ((j + v : Nat) : Int)) ∧ fr' 9 = .ptr (H1.length + 1) 0 ∧ H' = H1 ++ [.tok out.length 4 tr, .box tr [.d (.int .i64 (i : Int)), .d (.int .i64 0), .d (.int .i64 (j : Int)), .d (.int .i64 0)]]) ((A.length - (i + 0)) + (B.length - (j + 0))) (by simp; omega) ⟨0, 0, rfl, by omega, by omega, by simp [hSK], by simp [hSK], ?_⟩ ?_
          · simp [f0, f1, f5, f6, f7, f8, h52, cut_appk hcl1]
          clear hSK hskp f0 f1 f5 f6 f7 f8
          rintro d fr' H' ⟨u, v, rfl, hu, hv, hx, hw, f0, f1, f5, f6, f7, f8, f9, rfl⟩
          generalize hU : i + u = I at hu hx hw f7
          generalize hV : j + v = J at hv hx hw f8
          have eI : (i : Int) + (u : Int) = (I : Int) := by omega
          have eJ : (j : Int) + (v : Int) = (J : Int) := by omega
          have eI1 : (i : Int) + ((u : Int) + 1) = (I : Int) + 1 := by omega
          have eJ1 : (j : Int) + ((v : Int) + 1) = (J : Int) + 1 := by omega
          have hwI : IntKind.i64.wrap ((I : Int) + 1) = (I : Int) + 1 := wrap_i64 (by omega) (by omega)
          have hwJ : IntKind.i64.wrap ((J : Int) + 1) = (J : Int) + 1 := wrap_i64 (by omega) (by omega)
          rcases Nat.lt_or_ge I A.length with la | la
          · have la' : (I : Int) < A.length := by omega
            have ra := unU_row (p := p) la
            have hdA : A.drop I = A[I] :: A.drop (I + 1) := List.drop_eq_getElem_cons la
            rcases Nat.lt_or_ge J B.length with lb | lb
            · have lb' : (J : Int) < B.length := by omega
              have nlb : ¬ ((J : Int) = B.length) := by omega
              have rb := unU_row (p := q) lb
              have hdB : B.drop J = B[J] :: B.drop (J + 1) := List.drop_eq_getElem_cons lb
              by_cases hab : A[I] = B[J]
              · rw [hdA, hdB, skipN_cons, if_pos hab] at hx hw
                rw [hab] at ra
                generalize B[J] = b at ra rb
                simp at hx hw
                subst hx; subst hw
                simp [f0, f1, f7, f8, unU_len, la', lb', ra, rb]
                simp [f0, f1, f5, f6, f7, f8, f9, eI, eJ]
              · have a1 := iaddrA_app (X := [.tok out.length 4 tr, .box tr [.d (.int .i64 (i : Int)), .d (.int .i64 0), .d (.int .i64 (j : Int)), .d (.int .i64 0)]]) (hi1 ((I : Int) + 1) (I + 1) (by omega) (by omega))
                have l1 := ldA_app (X := [.tok out.length 4 tr, .box tr [.d (.int .i64 (i : Int)), .d (.int .i64 0), .d (.int .i64 (j : Int)), .d (.int .i64 0)]]) (hl1 (I + 1) (by omega))
                have a2 := iaddrA_app (X := [.tok out.length 4 tr, .box tr [.d (.int .i64 (i : Int)), .d (.int .i64 0), .d (.int .i64 (j : Int)), .d (.int .i64 0)]]) (hi2 (J : Int) (I + 1) J (by omega) rfl (by omega))
                have l2 := ldA_app (X := [.tok out.length 4 tr, .box tr [.d (.int .i64 (i : Int)), .d (.int .i64 0), .d (.int .i64 (j : Int)), .d (.int .i64 0)]]) (hl2 (I + 1) J (by omega) (by omega))
                have a3 := iaddrA_app (X := [.tok out.length 4 tr, .box tr [.d (.int .i64 (i : Int)), .d (.int .i64 0), .d (.int .i64 (j : Int)), .d (.int .i64 0)]]) (hi1 (I : Int) I rfl (by omega))
                have l3 := ldA_app (X := [.tok out.length 4 tr, .box tr [.d (.int .i64 (i : Int)), .d (.int .i64 0), .d (.int .i64 (j : Int)), .d (.int .i64 0)]]) (hl1 I (by omega))
                have a4 := iaddrA_app (X := [.tok out.length 4 tr, .box tr [.d (.int .i64 (i : Int)), .d (.int .i64 0), .d (.int .i64 (j : Int)), .d (.int .i64 0)]]) (hi2 ((J : Int) + 1) I (J + 1) (by omega) (by omega) (by omega))
                have l4 := ldA_app (X := [.tok out.length 4 tr, .box tr [.d (.int .i64 (i : Int)), .d (.int .i64 0), .d (.int .i64 (j : Int)), .d (.int .i64 0)]]) (hl2 I (J + 1) (by omega) (by omega))
                have hsk := skipN_cons A[I] B[J] (A.drop (I + 1)) (B.drop (J + 1))
                rw [if_neg hab, ← hdA, ← hdB] at hsk
                generalize lcs (A.drop (I + 1)) (B.drop J) = X1 at l2 hsk
                generalize lcs (A.drop I) (B.drop (J + 1)) = X2 at l4 hsk
                clear hdA hdB
                generalize A[I] = a at ra hab
                generalize B[J] = b at rb hab
                have hi2' : ∀ H : Hp, ∀ c : D, iaddrA H 2 (.d c) = iaddrA H 2 (.d c) := fun _ _ => rfl
                simp [f0, f1, f5, f7, f8, unU_len, la', lb', nlb, ra, rb, hab, hwI, hwJ, a1, l1, a2, l2, a3, l3, a4, l4, iaddrA_sl, ldA_eptr, -iaddrA, -ldA]
                by_cases hle : X2 ≤ X1
                · rw [if_pos hle] at hsk
                  rw [hsk] at hx hw
                  simp [hle, f7, hwI]
                  refine NextM_of (H1.length + 2) ((A.length - (i + (u + 1))) + (B.length - (j + v))) (Nat.le_refl _) (by simp) (by omega) ⟨u + 1, v, rfl, by omega, by omega, ?_, ?_, ?_⟩
                  · rw [show i + (u + 1) = I + 1 by omega, hV]; simp only at hx; omega
                  · rw [show i + (u + 1) = I + 1 by omega, hV]; exact hw
                  · simp [eI, eI1, eJ, f0, f1, f5, f6, f8, f9, h52, cut_appk hcl1]
                · rw [if_neg hle] at hsk
                  rw [hsk] at hx hw
                  simp [hle, f8, hwJ]
                  refine NextM_of (H1.length + 2) ((A.length - (i + u)) + (B.length - (j + (v + 1)))) (Nat.le_refl _) (by simp) (by omega) ⟨u, v + 1, rfl, by omega, by omega, ?_, ?_, ?_⟩
                  · rw [show j + (v + 1) = J + 1 by omega, hU]; exact hx
                  · rw [show j + (v + 1) = J + 1 by omega, hU]; simp only at hw; omega
                  · simp [eI, eJ, eJ1, f0, f1, f5, f6, f7, f9, h52, cut_appk hcl1]
            · have lb' : ¬ (J : Int) < B.length := by omega
              have elb : (J : Int) = B.length := by omega
              have hdB : B.drop J = [] := List.drop_eq_nil_of_le lb
              rw [hdA, hdB, skipN_cons_nil, ← hdB] at hx hw
              clear hdA
              simp [f0, f1, f7, f8, unU_len, la', elb]
              simp [f7, hwI]
              refine NextM_of (H1.length + 2) ((A.length - (i + (u + 1))) + (B.length - (j + v))) (Nat.le_refl _) (by simp) (by omega) ⟨u + 1, v, rfl, by omega, by omega, ?_, ?_, ?_⟩
              · rw [show i + (u + 1) = I + 1 by omega, hV]; simp only at hx; omega
              · rw [show i + (u + 1) = I + 1 by omega, hV]; exact hw
              · simp [eI, eI1, eJ, f0, f1, f5, f6, f8, f9, h52, cut_appk hcl1]
          · have la' : ¬ (I : Int) < A.length := by omega
            have hdA : A.drop I = [] := List.drop_eq_nil_of_le la
            rcases Nat.lt_or_ge J B.length with lb | lb
            · have lb' : (J : Int) < B.length := by omega
              have nlb : ¬ ((J : Int) = B.length) := by omega
              have hdB : B.drop J = B[J] :: B.drop (J + 1) := List.drop_eq_getElem_cons lb
              rw [hdA, hdB, skipN_nil_cons, ← hdA] at hx hw
              clear hdB
              simp [f0, f1, f7, f8, unU_len, la', lb', nlb]
              simp [f8, hwJ]
              refine NextM_of (H1.length + 2) ((A.length - (i + u)) + (B.length - (j + (v + 1)))) (Nat.le_refl _) (by simp) (by omega) ⟨u, v + 1, rfl, by omega, by omega, ?_, ?_, ?_⟩
              · rw [show j + (v + 1) = J + 1 by omega, hU]; exact hx
              · rw [show j + (v + 1) = J + 1 by omega, hU]; simp only at hw; omega
              · simp [eI, eJ, eJ1, f0, f1, f5, f6, f7, f9, h52, cut_appk hcl1]
            · have lb' : ¬ (J : Int) < B.length := by omega
              have hdB : B.drop J = [] := List.drop_eq_nil_of_le lb
              rw [hdA, hdB, skipN_nil_nil] at hx hw
              simp at hx hw
              subst hx; subst hw
              simp [f0, f1, f7, f8, unU_len, la', lb']
              simp [f0, f1, f5, f6, f7, f8, f9, eI, eJ]
        clear f0 f1 f5 f6 f7 f8
        rintro fr' H' ⟨f0, f1, f5, f6, f7, f8, f9, rfl⟩
        obtain ⟨r, hr⟩ : ∃ r : Rn, r = ⟨i, i + x, j, j + w⟩ := ⟨_, rfl⟩
        have hbt : out.map encRn ++ [[.int .i64 (i : Int), .int .i64 ((i + x : Nat) : Int), .int .i64 (j : Int), .int .i64 ((j + w : Nat) : Int)]] = (out ++ [r]).map encRn := by simp [encRn, hr]
        rw [← hr] at hrs
        generalize hI : i + x = I at hrs f7 hbt
        generalize hJ : j + w = J at hrs f8 hbt
        simp [f6, f7, f8, f9, appA]
        rw [if_pos (by omega)]
        simp [hbt]
        refine NextM_of (H1.length + 1) ((A.length - I) + (B.length - J)) (Nat.le_refl _) (by simp) (by omega) ⟨I, J, f, out ++ [r], rfl, by omega, by omega, ?_, by omega, by simp; omega, ?_⟩
        · rw [hrs]; simp
        · simp [f0, f1, f5, f7, f8, h5, cut_appk hcl1]
      · have lb' : ¬ (j : Int) < B.length := by omega
        have hdB : B.drop j = [] := List.drop_eq_nil_of_le lb
        rw [runsF, if_pos ⟨hdA, hdB⟩, List.append_nil] at hrs
        simp [f0, f1, f7, f8, unU_len, la', lb', f6, hrs]
  rintro fr H' ⟨f6, X, rfl⟩
  simp [f6]
  simp [RetK, hfin]
  omega

end
end Go.Zam

namespace Go.Zam
set_option linter.all false
set_option maxRecDepth 100000
set_option maxHeartbeats 1000000

theorem posU_bd (A : List Bs) (i : Nat) : posU A i ≤ A.flatten.length := flat_take A i

section
variable {P : Program}

theorem HasT.edits {f fp fx t1 t2 te tr} (h : HasT P [9] f (irDEdits fp fx t1 t2 te tr)) (hp : Has P fp irDPlace) (kp : callOk P fp = true)
    (hx : ∀ (z : Bool) (p : Nat) (A : List Bs), A.length ≤ 1048576 → A.flatten.length ≤ 1048576 → ∀ H, ACall P fx [.d (.sl z 2 ((unU p A).map encU))] H (fun r H' => r = .d (.str A.flatten) ∧ H' = H))
    (z za zb : Bool) (p q : Nat) (A B : List Bs) (rs : List Rn) (hA : A.length ≤ 1048576) (hB : B.length ≤ 1048576) (hfB : B.flatten.length ≤ 1048576) (hl : rs.length ≤ 4194304) (hrs : ∀ r ∈ rs, r.a ≤ A.length ∧ r.b ≤ A.length ∧ r.c ≤ r.d ∧ r.d ≤ B.length) (H : Hp) :
    ACall P f [.d (.sl z 4 (rs.map encRn)), .d (.sl za 2 ((unU p A).map encU)), .d (.sl zb 2 ((unU q B).map encU)), .d (.int .i64 ((p + A.flatten.length : Nat) : Int))] H (fun r H' => r = .d (.sl true 3 ((rs.map (edR p A B)).map encE)) ∧ H' = H) := by
  obtain ⟨fn, hf, hcf⟩ := h
  refine acall_fin hf hcf (by simp [irDEdits]) fun hcl _ => ?_
  simp only [irDEdits]
  generalize hT : (p + A.flatten.length : Nat) = T
  simp [-List.length_flatten]
  refine LoopK_out 0 (fun fr H' => fr 9 = .osl true 3 ((rs.map (edR p A B)).map encE) (H.length + 2) ∧ ∃ X, H' = H ++ X) ?_ ?_
  · refine RangeK_of (H.length + 3) rs.length (fun i fr H' => fr 9 = .osl true 3 (((rs.take i).map (edR p A B)).map encE) (H.length + 2) ∧ fr 10 = .fn (.func fp) [] [.ptr H.length 0, .ptr (H.length + 1) 0] ∧ fr 2 = .d (.sl zb 2 ((unU q B).map encU)) ∧ fr 14 = .d (.sl z 4 (rs.map encRn)) ∧ H' = H ++ [.box t1 [.d (.sl za 2 ((unU p A).map encU))], .box t2 [.d (.int .i64 (T : Int))], .tok i 3 te]) (by omega) (by decide) (by simp) (by simp) ?_ ?_ ?_
    · simp [cut_appk hcl, Zam.A.lo]
    · rintro i fr H' hi f16 f15 ⟨f9, f10, f2, f14, rfl⟩
      have hr := rowAt_map encRn hi
      have ht : (rs.take (i + 1)).map (edR p A B) = (rs.take i).map (edR p A B) ++ [edR p A B rs[i]] := by rw [List.take_succ_eq_append_getElem hi, List.map_append]; rfl
      obtain ⟨b1, b2, b3, b4⟩ := hrs rs[i] (List.getElem_mem hi)
      generalize rs[i] = r at hr ht b1 b2 b3 b4
      obtain ⟨ra, rb, rc, rd⟩ := r
      simp only [encRn] at hr
      simp only at b1 b2 b3 b4
      have hsub : subL ((unU q B).map encU) (rc : Int) (rd : Int) = some ((unU (q + posU B rc) ((B.drop rc).take (rd - rc))).map encU) := by
        rw [subL_ok ⟨by omega, by omega, by simp [unU_len]; omega⟩]
        simp only [Int.toNat_natCast]
        rw [← List.map_drop, ← List.map_take, unU_drop, unU_take]
      have hfl : ((B.drop rc).take (rd - rc)).flatten.length ≤ 1048576 := by
        have h1 := flat_take (B.drop rc) (rd - rc)
        have h2 : (B.drop rc).flatten.length ≤ B.flatten.length := by
          have : B.flatten = (B.take rc).flatten ++ (B.drop rc).flatten := by rw [← List.flatten_append, List.take_append_drop]
          rw [this]; simp
        omega
      generalize hHp : H ++ [.box t1 [.d (.sl za 2 ((unU p A).map encU))], .box t2 [.d (.int .i64 (T : Int))], .tok i 3 te, .box tr [.d (.int .i64 (ra : Int)), .d (.int .i64 (rb : Int)), .d (.int .i64 (rc : Int)), .d (.int .i64 (rd : Int))]] = W
      have w1 : W[H.length]? = some (.box t1 [.d (.sl za 2 ((unU p A).map encU))]) := by rw [← hHp]; simp
      have w2 : W[H.length + 1]? = some (.box t2 [.d (.int .i64 ((p + A.flatten.length : Nat) : Int))]) := by rw [← hHp, hT]; simp
      have g1 := hp.place za p A hA w1 w2 ra b1
      have g2 := hp.place za p A hA w1 w2 rb b2
      have g3 := hx (zb && (unU q B).isEmpty) (q + posU B rc) ((B.drop rc).take (rd - rc)) (by simp; omega) hfl W
      have hed : encE (edR p A B ⟨ra, rb, rc, rd⟩) = [.int .i64 ((p + posU A ra : Nat) : Int), .int .i64 ((p + posU A rb : Nat) : Int), .str ((B.drop rc).take (rd - rc)).flatten] := rfl
      generalize ((B.drop rc).take (rd - rc)) = Y at hsub g3 hed
      subst hHp
      simp only [Int.natCast_add] at g1 g2 hed
      simp [f16, f14, hr, f9, f10, kp]
      refine CallD_of (by simpa using g1) ?_
      simp [f10, kp]
      refine CallD_of (by simpa using g2) ?_
      simp [f2, hsub]
      refine CallD_of (by simpa using g3) ?_
      have hel : ((rs.take i).map (edR p A B)).length = i := by simp; omega
      simp [f9, appA]
      rw [if_pos (by omega)]
      simp
      refine NextK_of (H.length + 3) (by omega) (by simp [f16, f15]) ?_
      rw [ht]
      simp [f9, f10, f2, f14, cut_appk hcl, hed, Zam.A.lo]
      omega
    · rintro fr H' f16 f15 ⟨f9, f10, f2, f14, rfl⟩
      simp [f9, List.take_of_length_le (Nat.le_refl _)]
  rintro fr H' ⟨f9, X, rfl⟩
  simp [f9]
  simp [RetK, cut_app hcl]

end
end Go.Zam

namespace Go.Zam
set_option linter.all false
set_option maxRecDepth 100000
set_option maxHeartbeats 1000000

/-- what is left of two lists without what they have in common at the beginning and at the end -/
def midN (A B : List Bs) : Nat := alikeN (A.drop (alikeN A B)).reverse (B.drop (alikeN A B)).reverse
def midA (A B : List Bs) : List Bs := (A.drop (alikeN A B)).take ((A.drop (alikeN A B)).length - midN A B)
def midB (A B : List Bs) : List Bs := (B.drop (alikeN A B)).take ((B.drop (alikeN A B)).length - midN A B)

def edsOf (p : Nat) (A B : List Bs) : List Ed :=
  if A.length + B.length = 0 then [] else
  if A.length * B.length ≤ 1048576 ∧ (runsL A B).length ≤ 512 then (runsL A B).map (edR p A B) else [edR p A B ⟨0, A.length, 0, B.length⟩]
/-- the edits between two lists of texts -/
def betweenL (A B : List Bs) : List Ed := edsOf (posU A (alikeN A B)) (midA A B) (midB A B)
/-- how many of two lists are kept -/
def keptN (A B : List Bs) : Nat := alikeN A B + midN A B + if 1048576 < (midA A B).length * (midB A B).length then 0 else lcs (midA A B) (midB A B)

theorem way_bd {o : Prop} {A B : List Bs} {i j : Nat} {rs : List Rn} (h : Way o A B i j rs) : (∀ r ∈ rs, r.a ≤ A.length ∧ r.b ≤ A.length ∧ r.c ≤ r.d ∧ r.d ≤ B.length) ∧ (i ≤ A.length → j ≤ B.length → rs.length ≤ (A.length - i) + (B.length - j)) := by
  induction h with
  | fin h1 h2 => simp
  | @keep i j u A' B' rs h1 h2 h ih =>
    refine ⟨ih.1, fun hi hj => ?_⟩
    have li : i < A.length := by
      rcases Nat.lt_or_ge i A.length with q | q
      · exact q
      · rw [List.drop_eq_nil_of_le q] at h1; cases h1
    have lj : j < B.length := by
      rcases Nat.lt_or_ge j B.length with q | q
      · exact q
      · rw [List.drop_eq_nil_of_le q] at h2; cases h2
    have := ih.2 (by omega) (by omega)
    omega
  | @run i j x y rs h0 h1 h2 h3 h4 h5 h ih =>
    refine ⟨fun r hr => ?_, fun hi hj => ?_⟩
    · rcases List.mem_cons.1 hr with rfl | hr
      · exact ⟨by simp only; omega, by simp only; omega, by simp only; omega, by simp only; omega⟩
      · exact ih.1 r hr
    · have := ih.2 h1 h2
      simp only [List.length_cons]; omega

theorem subL_drop {p : Nat} {A : List Bs} {n : Nat} (h : n ≤ A.length) : subL ((unU p A).map encU) (n : Int) (A.length : Int) = some ((unU (p + posU A n) (A.drop n)).map encU) := by
  rw [subL_ok ⟨by omega, by omega, by simp [unU_len]⟩]
  simp only [Int.toNat_natCast]
  rw [← List.map_drop, unU_drop, List.take_of_length_le (by simp [unU_len])]
theorem subL_take {p : Nat} {A : List Bs} {n : Nat} (h : n ≤ A.length) : subL ((unU p A).map encU) 0 (n : Int) = some ((unU p (A.take n)).map encU) := by
  rw [subL_ok ⟨by omega, by omega, by simp [unU_len]; omega⟩]
  simp only [Int.toNat_natCast]
  have e : Int.toNat 0 = 0 := rfl
  rw [e, List.drop_zero, Nat.sub_zero, ← List.map_take, unU_take]

section
variable {P : Program}

structure DHas (P : Program) (fu fa ft fe fr fd fb : FuncId) : Prop where
  units : ∀ (z : Bool) (l : List Tk), l.length ≤ 1048576 → (joinS l).length ≤ 1048576 → ∀ H, ACall P fu [.d (.sl z 4 (l.map encTk))] H (fun r H' => r = .d (.sl true 2 ((unU 0 (txU l)).map encU)) ∧ H' = H)
  alike : Has P fa irDAlike
  tail : Has P ft irDTail
  end_ : ∀ (z : Bool) (p : Nat) (A : List Bs), A.length ≤ 1048576 → p + A.flatten.length ≤ 1099511627776 → ∀ H, ACall P fe [.d (.sl z 2 ((unU p A).map encU))] H (fun r H' => r = .d (.int .i64 ((if A = [] then 0 else p + A.flatten.length : Nat) : Int)) ∧ H' = H)
  runs : ∀ (z y : Bool) (p q : Nat) (A B : List Bs), A.length ≤ 1048576 → B.length ≤ 1048576 → ∀ H, ACall P fr [.d (.sl z 2 ((unU p A).map encU)), .d (.sl y 2 ((unU q B).map encU))] H (fun r H' => r = .d (.sl true 4 ((runsL A B).map encRn)) ∧ H' = H)
  edits : ∀ (z za zb : Bool) (p q : Nat) (A B : List Bs) (rs : List Rn), A.length ≤ 1048576 → B.length ≤ 1048576 → B.flatten.length ≤ 1048576 → rs.length ≤ 4194304 → (∀ r ∈ rs, r.a ≤ A.length ∧ r.b ≤ A.length ∧ r.c ≤ r.d ∧ r.d ≤ B.length) → ∀ H,
    ACall P fd [.d (.sl z 4 (rs.map encRn)), .d (.sl za 2 ((unU p A).map encU)), .d (.sl zb 2 ((unU q B).map encU)), .d (.int .i64 ((p + A.flatten.length : Nat) : Int))] H (fun r H' => r = .d (.sl true 3 ((rs.map (edR p A B)).map encE)) ∧ H' = H)
  table : Has P fb irDTable

variable {fu fa ft fe fr fd fb : FuncId}

theorem DHas.between {f} (hD : DHas P fu fa ft fe fr fd fb) (h : Has P f (irDBetween fu fa ft fe fr fd)) (z y : Bool) (a b : List Tk) (ha : a.length ≤ 262144) (hb : b.length ≤ 262144) (hja : (joinS a).length ≤ 1048576) (hjb : (joinS b).length ≤ 1048576) (H : Hp) :
    ACall P f [.d (.sl z 4 (a.map encTk)), .d (.sl y 4 (b.map encTk))] H (fun r H' => r = .d (.sl true 3 ((betweenL (txU a) (txU b)).map encE)) ∧ H' = H) := by
  obtain ⟨fn, hf, hcf⟩ := h
  refine acall_fin hf hcf (by simp [irDBetween]) fun hcl _ => ?_
  have gu := hD.units z a (by omega) hja H
  have gv := hD.units y b (by omega) hjb H
  have lA := txU_len a
  have lB := txU_len b
  have fA := txU_flat a
  have fB := txU_flat b
  simp only [betweenL, midA, midB, midN]
  generalize txU a = A at gu lA fA ⊢
  generalize txU b = B at gv lB fB ⊢
  have hfA : A.flatten.length ≤ 1048576 := by rw [fA]; exact hja
  have hfB : B.flatten.length ≤ 1048576 := by rw [fB]; exact hjb
  have g1 := hD.alike.alike true true 0 0 A B (by omega) (by omega) H
  obtain ⟨n1, n2⟩ := alikeN_le A B
  generalize alikeN A B = n at g1 n1 n2 ⊢
  have s1 := subL_drop (p := 0) n1
  have s2 := subL_drop (p := 0) n2
  have hp := posU_bd A n
  have hdA : (A.drop n).flatten.length + posU A n = A.flatten.length := by
    have : A.flatten = (A.take n).flatten ++ (A.drop n).flatten := by rw [← List.flatten_append, List.take_append_drop]
    rw [this, List.length_append]; unfold posU; omega
  have hdB : (B.drop n).flatten.length ≤ B.flatten.length := by
    have : B.flatten = (B.take n).flatten ++ (B.drop n).flatten := by rw [← List.flatten_append, List.take_append_drop]
    rw [this, List.length_append]; omega
  have hnilA : A.drop n = [] → posU A n = A.flatten.length := posU_all A
  have ld1 : (A.drop n).length ≤ 1048576 := by simp; omega
  have ld2 : (B.drop n).length ≤ 1048576 := by simp; omega
  rw [Nat.zero_add] at s1 s2
  generalize posU A n = p at s1 hp hdA hnilA ⊢
  generalize posU B n = q at s2
  generalize A.drop n = A1 at s1 hdA hnilA ld1 ⊢
  generalize B.drop n = B1 at s2 hdB ld2 ⊢
  have g2 := fun z y => hD.tail.tailA z y p q A1 B1 ld1 ld2 H
  have g3 := fun z => hD.end_ z p A1 ld1 (by omega) H
  have g4 := hD.end_ true 0 A (by omega) (by omega) H
  obtain ⟨m1, m2⟩ := alikeN_le A1.reverse B1.reverse
  simp only [List.length_reverse] at m1 m2
  have hm0 : A1 = [] → alikeN A1.reverse B1.reverse = 0 := fun h => by rw [h]; rfl
  generalize alikeN A1.reverse B1.reverse = m at g2 m1 m2 hm0 ⊢
  simp [irDBetween]
  refine CallK_of' gu ?_
  simp
  refine CallK_of' gv ?_
  simp
  refine CallK_of' g1 ?_
  simp [unU_len, s1, s2]
  refine CallK_of' (g2 _ _) ?_
  simp
  refine CallK_of' (g3 _) ?_
  obtain ⟨L1, hL1⟩ : ∃ L1, L1 = A1.length - m := ⟨_, rfl⟩
  obtain ⟨L2, hL2⟩ : ∃ L2, L2 = B1.length - m := ⟨_, rfl⟩
  have hw1 : IntKind.i64.wrap ((A1.length : Int) - m) = (L1 : Int) := by rw [wrap_i64 (by omega) (by omega)]; omega
  have hw2 : IntKind.i64.wrap ((B1.length : Int) - m) = (L2 : Int) := by rw [wrap_i64 (by omega) (by omega)]; omega
  have t1 := subL_take (p := p) (A := A1) (n := L1) (by omega)
  have t2 := subL_take (p := q) (A := B1) (n := L2) (by omega)
  rw [← hL1, ← hL2]
  have hA2l : (A1.take L1).length = L1 := by simp; omega
  have hB2l : (B1.take L2).length = L2 := by simp; omega
  have hT0 : A1 = [] → (if A = [] then 0 else 0 + A.flatten.length : Nat) = p + (A1.take L1).flatten.length := fun e => by
    subst e
    have := hnilA rfl
    by_cases hA0 : A = []
    · subst hA0
      have : p = 0 := by simpa using hp
      simp [this]
    · rw [if_neg hA0]; simp [this]
  have hT1 : m = 0 → p + A1.flatten.length = p + (A1.take L1).flatten.length := fun e => by rw [List.take_of_length_le (by omega)]
  have hT2 : 0 < m → Zam.rowAt ((unU p A1).map encU) (L1 : Int) = some [.str (A1.getD L1 []), .int .i64 ((p + (A1.take L1).flatten.length : Nat) : Int)] := fun e => by
    have hlt : L1 < A1.length := by omega
    rw [unU_row hlt]
    simp [List.getD_eq_getElem?_getD, hlt, posU]
  have hfA2 : (A1.take L1).flatten.length ≤ 1048576 := by have := flat_take A1 L1; omega
  have hfB2 : (B1.take L2).flatten.length ≤ 1048576 := by have := flat_take B1 L2; omega
  generalize A1.take L1 = A2 at t1 hA2l hT0 hT1 hT2 hfA2 ⊢
  generalize B1.take L2 = B2 at t2 hB2l hfB2 ⊢
  have g5 := fun z y => hD.runs z y p q A2 B2 (by omega) (by omega) H
  obtain ⟨wb, wl⟩ := way_bd (runsL_way (o := True) A2 B2)
  have wl := wl (Nat.zero_le _) (Nat.zero_le _)
  have g6 := fun z za zb rs h1 h2 => hD.edits z za zb p q A2 B2 rs (by omega) (by omega) hfB2 h1 h2 H
  have g7 := fun z za zb => g6 z za zb (runsL A2 B2) (by omega) wb
  have g8 := fun z za zb => g6 z za zb [⟨0, A2.length, 0, B2.length⟩] (by simp) (by simp)
  clear g6 wb wl
  generalize hT : (p + A2.flatten.length : Nat) = T at g7 g8 hT0 hT1 hT2
  have hmul : IntKind.i64.wrap ((L1 : Int) * L2) = ((L1 * L2 : Nat) : Int) := by
    have h1 : L1 * L2 ≤ 1048576 * 1048576 := Nat.mul_le_mul (by omega) (by omega)
    rw [wrap_i64 (by have := Int.natCast_nonneg (L1 * L2); rw [← Int.natCast_mul]; omega) (by rw [← Int.natCast_mul]; omega), Int.natCast_mul]
  have hadd : IntKind.i64.wrap ((L1 : Int) + L2) = ((L1 + L2 : Nat) : Int) := by rw [wrap_i64 (by omega) (by omega)]; omega
  have hres : edsOf p A2 B2 = if L1 + L2 = 0 then [] else if L1 * L2 ≤ 1048576 ∧ (runsL A2 B2).length ≤ 512 then (runsL A2 B2).map (edR p A2 B2) else [edR p A2 B2 ⟨0, A2.length, 0, B2.length⟩] := by unfold edsOf; rw [hA2l, hB2l]
  rw [hres]
  generalize runsL A2 B2 = RS at g5 g7 ⊢
  simp only [encRn, List.map_cons, List.map_nil, hA2l, hB2l] at g8
  have hprod : ((L1 * L2 : Nat) : Int) = ((L1 * L2 : Nat) : Int) := rfl
  generalize hM : L1 * L2 = M at hmul ⊢
  simp only [Int.natCast_zero] at g8
  clear hprod hres
  rcases Nat.eq_zero_or_pos A1.length with hA1 | hA1
  · have hA1n : A1 = [] := List.eq_nil_of_length_eq_zero hA1
    have hm := hm0 hA1n
    have hT0 := hT0 hA1n
    rw [hT0] at g4
    have hml : A1.length = 0 := hA1
    simp [unU_len, hA1n]
    refine CallK_of' gu ?_
    simp
    refine CallK_of' g4 ?_
    simp [hm]
    simp only [hA1n] at t1 hw1
    simp only [hm] at hw1 hw2
    simp only [List.length_nil, Int.natCast_zero, Int.sub_zero] at hw1 hw2
    by_cases h0 : L1 + L2 = 0
    · have h0' : ((L1 + L2 : Nat) : Int) = 0 := by omega
      have e1 : L1 = 0 := by omega
      have e2 : L2 = 0 := by omega
      have hw0 : IntKind.i64.wrap 0 = 0 := by decide
      subst e1
      subst e2
      simp only [Int.natCast_zero] at t1 t2 hw1 hw2
      simp [hm, hA1n, unU_len, hw1, hw2, t1, t2, hA2l, hB2l, hw0]
      simp [RetK, cut_self hcl]
    have h0' : ¬ (((L1 + L2 : Nat) : Int) = 0) := by omega
    have h0'' : ¬ (L1 = 0 ∧ L2 = 0) := by omega
    have h0i : ¬ ((L1 : Int) + (L2 : Int) = 0) := by omega
    rw [if_neg h0]
    by_cases hc : M ≤ 1048576
    · have hc' : (M : Int) ≤ 1048576 := by omega
      simp [hm, hA1n, unU_len, hw1, hw2, t1, t2, hA2l, hB2l, hadd, hmul, h0', h0'', h0i, hc, hc']
      refine CallK_of' (g5 _ _) ?_
      simp
      refine CallK_of' (g7 _ _ _) ?_
      by_cases hl : RS.length ≤ 512
      · have hl' : (RS.length : Int) ≤ 512 := by omega
        rw [if_pos ⟨hc, hl⟩]
        simp [hl, hl']
        simp [RetK, cut_self hcl]
      · have hl' : ¬ (RS.length : Int) ≤ 512 := by omega
        rw [if_neg (fun h => hl h.2)]
        simp [hl, hl', unU_len, hA2l, hB2l]
        refine CallK_of' (g8 _ _ _) ?_
        simp
        simp [RetK, cut_self hcl, hA2l, hB2l]
    · have hc' : ¬ (M : Int) ≤ 1048576 := by omega
      rw [if_neg (fun h => hc h.1)]
      simp [hm, hA1n, unU_len, hw1, hw2, t1, t2, hA2l, hB2l, hadd, hmul, h0', h0'', h0i, hc, hc']
      refine CallK_of' (g8 _ _ _) ?_
      simp
      simp [RetK, cut_self hcl, hA2l, hB2l]
  · have hA1n : ¬ A1 = [] := fun e => by rw [e] at hA1; simp at hA1
    have hn0 : ¬ A1.length = 0 := by omega
    rw [if_neg hA1n]
    rcases Nat.eq_zero_or_pos m with hm | hm
    · rw [hT1 hm]
      simp [unU_len, hA1n, hn0, hm]
      simp only [hm] at hw1 hw2
      simp only [Int.natCast_zero, Int.sub_zero] at hw1 hw2
      by_cases h0 : L1 + L2 = 0
      · have h0' : ((L1 + L2 : Nat) : Int) = 0 := by omega
        have e1 : L1 = 0 := by omega
        have e2 : L2 = 0 := by omega
        have hw0 : IntKind.i64.wrap 0 = 0 := by decide
        subst e1
        subst e2
        simp only [Int.natCast_zero] at t1 t2 hw1 hw2
        simp [hm, hA1n, hn0, unU_len, hw1, hw2, t1, t2, hA2l, hB2l, hw0]
        simp [RetK, cut_self hcl]
      have h0' : ¬ (((L1 + L2 : Nat) : Int) = 0) := by omega
      have h0'' : ¬ (L1 = 0 ∧ L2 = 0) := by omega
      have h0i : ¬ ((L1 : Int) + (L2 : Int) = 0) := by omega
      rw [if_neg h0]
      by_cases hc : M ≤ 1048576
      · have hc' : (M : Int) ≤ 1048576 := by omega
        simp [hm, hA1n, hn0, unU_len, hw1, hw2, t1, t2, hA2l, hB2l, hadd, hmul, h0', h0'', h0i, hc, hc']
        refine CallK_of' (g5 _ _) ?_
        simp
        refine CallK_of' (g7 _ _ _) ?_
        by_cases hl : RS.length ≤ 512
        · have hl' : (RS.length : Int) ≤ 512 := by omega
          rw [if_pos ⟨hc, hl⟩]
          simp [hl, hl']
          simp [RetK, cut_self hcl]
        · have hl' : ¬ (RS.length : Int) ≤ 512 := by omega
          rw [if_neg (fun h => hl h.2)]
          simp [hl, hl', unU_len, hA2l, hB2l]
          refine CallK_of' (g8 _ _ _) ?_
          simp
          simp [RetK, cut_self hcl, hA2l, hB2l]
      · have hc' : ¬ (M : Int) ≤ 1048576 := by omega
        rw [if_neg (fun h => hc h.1)]
        simp [hm, hA1n, hn0, unU_len, hw1, hw2, t1, t2, hA2l, hB2l, hadd, hmul, h0', h0'', h0i, hc, hc']
        refine CallK_of' (g8 _ _ _) ?_
        simp
        simp [RetK, cut_self hcl, hA2l, hB2l]
    · have hT2 := hT2 hm
      have hm' : (0 : Int) < m := by omega
      simp [unU_len, hA1n, hn0, hm, hm', hw1, hT2]
      by_cases h0 : L1 + L2 = 0
      · have h0' : ((L1 + L2 : Nat) : Int) = 0 := by omega
        have e1 : L1 = 0 := by omega
        have e2 : L2 = 0 := by omega
        have hw0 : IntKind.i64.wrap 0 = 0 := by decide
        subst e1
        subst e2
        simp only [Int.natCast_zero] at t1 t2 hw1 hw2
        simp [hm, hA1n, hn0, unU_len, hw1, hw2, t1, t2, hA2l, hB2l, hw0]
        simp [RetK, cut_self hcl]
      have h0' : ¬ (((L1 + L2 : Nat) : Int) = 0) := by omega
      have h0'' : ¬ (L1 = 0 ∧ L2 = 0) := by omega
      have h0i : ¬ ((L1 : Int) + (L2 : Int) = 0) := by omega
      rw [if_neg h0]
      by_cases hc : M ≤ 1048576
      · have hc' : (M : Int) ≤ 1048576 := by omega
        simp [hm, hA1n, hn0, unU_len, hw1, hw2, t1, t2, hA2l, hB2l, hadd, hmul, h0', h0'', h0i, hc, hc']
        refine CallK_of' (g5 _ _) ?_
        simp
        refine CallK_of' (g7 _ _ _) ?_
        by_cases hl : RS.length ≤ 512
        · have hl' : (RS.length : Int) ≤ 512 := by omega
          rw [if_pos ⟨hc, hl⟩]
          simp [hl, hl']
          simp [RetK, cut_self hcl]
        · have hl' : ¬ (RS.length : Int) ≤ 512 := by omega
          rw [if_neg (fun h => hl h.2)]
          simp [hl, hl', unU_len, hA2l, hB2l]
          refine CallK_of' (g8 _ _ _) ?_
          simp
          simp [RetK, cut_self hcl, hA2l, hB2l]
      · have hc' : ¬ (M : Int) ≤ 1048576 := by omega
        rw [if_neg (fun h => hc h.1)]
        simp [hm, hA1n, hn0, unU_len, hw1, hw2, t1, t2, hA2l, hB2l, hadd, hmul, h0', h0'', h0i, hc, hc']
        refine CallK_of' (g8 _ _ _) ?_
        simp
        simp [RetK, cut_self hcl, hA2l, hB2l]

end
end Go.Zam

namespace Go.Zam
set_option linter.all false
set_option maxRecDepth 100000
set_option maxHeartbeats 1000000

section
variable {P : Program} {fu fa ft fe fr fd fb : FuncId}

theorem DHas.kept {f} (hD : DHas P fu fa ft fe fr fd fb) (h : Has P f (irDKept fu fa ft fb)) (z y : Bool) (a b : List Tk) (ha : a.length ≤ 262144) (hb : b.length ≤ 262144) (hja : (joinS a).length ≤ 1048576) (hjb : (joinS b).length ≤ 1048576) (H : Hp) :
    ACall P f [.d (.sl z 4 (a.map encTk)), .d (.sl y 4 (b.map encTk))] H (fun r H' => r = .d (.int .i64 (keptN (txU a) (txU b) : Int)) ∧ H' = H) := by
  obtain ⟨fn, hf, hcf⟩ := h
  refine acall_fin hf hcf (by simp [irDKept]) fun hcl _ => ?_
  have gu := hD.units z a (by omega) hja H
  have gv := hD.units y b (by omega) hjb H
  have lA := txU_len a
  have lB := txU_len b
  generalize txU a = A at gu lA ⊢
  generalize txU b = B at gv lB ⊢
  have hk1 : 1048576 < (midA A B).length * (midB A B).length → keptN A B = alikeN A B + midN A B := fun h => by unfold keptN; rw [if_pos h]; rfl
  have hk2 : ¬ 1048576 < (midA A B).length * (midB A B).length → keptN A B = alikeN A B + midN A B + lcs (midA A B) (midB A B) := fun h => by unfold keptN; rw [if_neg h]
  generalize keptN A B = K0 at hk1 hk2 ⊢
  simp only [midA, midB, midN] at hk1 hk2
  have g1 := hD.alike.alike true true 0 0 A B (by omega) (by omega) H
  obtain ⟨n1, n2⟩ := alikeN_le A B
  generalize alikeN A B = n at g1 n1 n2 hk1 hk2
  have s1 := subL_drop (p := 0) n1
  have s2 := subL_drop (p := 0) n2
  have ld1 : (A.drop n).length ≤ 1048576 := by simp; omega
  have ld2 : (B.drop n).length ≤ 1048576 := by simp; omega
  rw [Nat.zero_add] at s1 s2
  generalize posU A n = p at s1
  generalize posU B n = q at s2
  generalize A.drop n = A1 at s1 ld1 hk1 hk2
  generalize B.drop n = B1 at s2 ld2 hk1 hk2
  have g2 := fun z y => hD.tail.tailA z y p q A1 B1 ld1 ld2 H
  obtain ⟨m1, m2⟩ := alikeN_le A1.reverse B1.reverse
  simp only [List.length_reverse] at m1 m2
  generalize alikeN A1.reverse B1.reverse = m at g2 m1 m2 hk1 hk2
  obtain ⟨L1, hL1⟩ : ∃ L1, L1 = A1.length - m := ⟨_, rfl⟩
  obtain ⟨L2, hL2⟩ : ∃ L2, L2 = B1.length - m := ⟨_, rfl⟩
  have hw1 : IntKind.i64.wrap ((A1.length : Int) - m) = (L1 : Int) := by rw [wrap_i64 (by omega) (by omega)]; omega
  have hw2 : IntKind.i64.wrap ((B1.length : Int) - m) = (L2 : Int) := by rw [wrap_i64 (by omega) (by omega)]; omega
  have t1 := subL_take (p := p) (A := A1) (n := L1) (by omega)
  have t2 := subL_take (p := q) (A := B1) (n := L2) (by omega)
  rw [← hL1, ← hL2] at hk1 hk2
  have hA2l : (A1.take L1).length = L1 := by simp; omega
  have hB2l : (B1.take L2).length = L2 := by simp; omega
  generalize A1.take L1 = A2 at t1 hA2l hk1 hk2
  generalize B1.take L2 = B2 at t2 hB2l hk1 hk2
  rw [hA2l, hB2l] at hk1 hk2
  have g5 := fun z y => hD.table.table z y p q A2 B2 (by omega) (by omega) H
  have hmul : IntKind.i64.wrap ((L1 : Int) * L2) = ((L1 * L2 : Nat) : Int) := by
    have h1 : L1 * L2 ≤ 1048576 * 1048576 := Nat.mul_le_mul (by omega) (by omega)
    rw [wrap_i64 (by have := Int.natCast_nonneg (L1 * L2); rw [← Int.natCast_mul]; omega) (by rw [← Int.natCast_mul]; omega), Int.natCast_mul]
  generalize L1 * L2 = M at hmul hk1 hk2
  have hnm : IntKind.i64.wrap ((n : Int) + m) = ((n + m : Nat) : Int) := by rw [wrap_i64 (by omega) (by omega)]; omega
  have hlc := (lcs_le A2 B2).1
  have hn1 : 0 < A2.length + 1 := by omega
  have hm1 : 0 < B2.length + 1 := by omega
  have a1 := tab_i1 (H := H) (n := A2.length + 1) (m := B2.length + 1) (cell := cL A2 B2) (q := 0) (k := 0) rfl hn1
  have l1 := tab_l1 (H := H) (n := A2.length + 1) (m := B2.length + 1) (cell := cL A2 B2) hn1
  have a2 := tab_i2 (H := H) (n := A2.length + 1) (m := B2.length + 1) (cell := cL A2 B2) (q := 0) (k := 0) (l := 0) hn1 rfl hm1
  have l2 := tab_l2 (H := H) (n := A2.length + 1) (m := B2.length + 1) (cell := cL A2 B2) (k := 0) (l := 0) hn1 hm1
  have hc0 : cL A2 B2 0 0 = (lcs A2 B2 : Int) := rfl
  rw [hc0] at l2
  have hcut : ∀ X, Hp.cut H.length ((H ++ tabX H.length (A2.length + 1) (B2.length + 1) (cL A2 B2)) ++ X) = H := fun X => by rw [List.append_assoc]; exact cut_app hcl _
  have hcut0 : Hp.cut H.length (H ++ tabX H.length (A2.length + 1) (B2.length + 1) (cL A2 B2)) = H := cut_app hcl _
  have hlen : H.length ≤ (H ++ tabX H.length (A2.length + 1) (B2.length + 1) (cL A2 B2)).length := by simp
  rw [hA2l] at hlc
  simp only [hA2l, hB2l] at g5 a1 l1 a2 l2 hcut hcut0 hlen
  generalize lcs A2 B2 = K at l2 hlc hk2
  have hwK : IntKind.i64.wrap (K : Int) = K := wrap_i64 (by omega) (by omega)
  have hwR : IntKind.i64.wrap (((n + m : Nat) : Int) + K) = ((n + m + K : Nat) : Int) := by rw [wrap_i64 (by omega) (by omega)]; omega
  simp only [Nat.add_zero] at l1 a2 l2
  simp [irDKept]
  refine CallK_of' gu ?_
  simp
  refine CallK_of' gv ?_
  simp
  refine CallK_of' g1 ?_
  simp [unU_len, s1, s2]
  refine CallK_of' (g2 _ _) ?_
  by_cases hc : 1048576 < M
  · have hc' : (1048576 : Int) < M := by omega
    rw [hk1 hc]
    simp only [Int.natCast_add] at hnm
    simp [unU_len, hw1, hw2, t1, t2, hA2l, hB2l, hmul, hc, hc', hnm]
    simp [RetK, cut_self hcl]
  · have hc' : ¬ (1048576 : Int) < M := by omega
    rw [hk2 hc]
    simp only [Int.natCast_add] at hnm hwR
    simp [unU_len, hw1, hw2, t1, t2, hA2l, hB2l, hmul, hc, hc', hnm]
    refine CallK_of' (g5 _ _) ?_
    generalize H ++ tabX H.length (L1 + 1) (L2 + 1) (cL A2 B2) = W at a1 l1 a2 l2 hcut0 hlen ⊢
    simp [a1, l1, a2, l2, hwK, hwR, -iaddrA, -ldA]
    simp [RetK, hcut0, hlen]

end
end Go.Zam

namespace Go.Zam
set_option linter.all false
set_option maxRecDepth 100000

theorem alikeN_take : ∀ (A B : List Bs), A.take (alikeN A B) = B.take (alikeN A B)
  | [], B => by simp [alikeN]
  | a :: A, [] => by simp [alikeN]
  | a :: A, b :: B => by
    simp only [alikeN]
    by_cases h : a = b
    · rw [if_pos h, List.take_succ_cons, List.take_succ_cons, h, alikeN_take A B]
    · rw [if_neg h]; rfl
theorem alikeN_max : ∀ (A B : List Bs) {a b : Bs} {A' B' : List Bs}, A.drop (alikeN A B) = a :: A' → B.drop (alikeN A B) = b :: B' → a ≠ b
  | [], B, a, b, A', B', h1, h2 => by simp [alikeN] at h1
  | x :: A, [], a, b, A', B', h1, h2 => by simp [alikeN] at h2
  | x :: A, y :: B, a, b, A', B', h1, h2 => by
    simp only [alikeN] at h1 h2
    by_cases h : x = y
    · rw [if_pos h, List.drop_succ_cons] at h1 h2
      exact alikeN_max A B h1 h2
    · rw [if_neg h] at h1 h2
      simp at h1 h2
      rw [← h1.1, ← h2.1]; exact h
theorem drop_of_rev {A B : List Bs} {m : Nat} (h : A.reverse.take m = B.reverse.take m) : A.drop (A.length - m) = B.drop (B.length - m) := by
  rw [List.take_reverse, List.take_reverse] at h
  exact List.reverse_inj.1 h

/-- two lists, as what they have in common and what they have not -/
theorem mid_split (A B : List Bs) : ∃ C S : List Bs, C.length = alikeN A B ∧ S.length = midN A B ∧ A = C ++ (midA A B ++ S) ∧ B = C ++ (midB A B ++ S) ∧ ¬ (∃ a A' B', midA A B = a :: A' ∧ midB A B = a :: B') := by
  have h1 := alikeN_take A B
  have hm := @alikeN_max A B
  obtain ⟨n1, n2⟩ := alikeN_le A B
  have h2 := alikeN_take (A.drop (alikeN A B)).reverse (B.drop (alikeN A B)).reverse
  obtain ⟨m1, m2⟩ := alikeN_le (A.drop (alikeN A B)).reverse (B.drop (alikeN A B)).reverse
  have h3 := drop_of_rev h2
  have e : alikeN (A.drop (alikeN A B)).reverse (B.drop (alikeN A B)).reverse = midN A B := rfl
  rw [e] at h3 m1 m2
  simp only [List.length_reverse] at m1 m2
  refine ⟨A.take (alikeN A B), (A.drop (alikeN A B)).drop ((A.drop (alikeN A B)).length - midN A B), by simp; omega, by rw [List.length_drop]; omega, ?_, ?_, ?_⟩
  · unfold midA
    rw [List.take_append_drop, List.take_append_drop]
  · unfold midB
    rw [h3, List.take_append_drop, h1, List.take_append_drop]
  · rintro ⟨a, A', B', q1, q2⟩
    have p1 : A.drop (alikeN A B) = a :: (A' ++ (A.drop (alikeN A B)).drop ((A.drop (alikeN A B)).length - midN A B)) := by
      have := List.take_append_drop ((A.drop (alikeN A B)).length - midN A B) (A.drop (alikeN A B))
      unfold midA at q1
      rw [q1] at this
      exact this.symm
    have p2 : B.drop (alikeN A B) = a :: (B' ++ (B.drop (alikeN A B)).drop ((B.drop (alikeN A B)).length - midN A B)) := by
      have := List.take_append_drop ((B.drop (alikeN A B)).length - midN A B) (B.drop (alikeN A B))
      unfold midB at q2
      rw [q2] at this
      exact this.symm
    exact hm p1 p2 rfl

theorem posU_app (C X : List Bs) {n : Nat} (h : C.length = n) : posU (C ++ X) n = C.flatten.length := by
  unfold posU; rw [← h, List.take_left]

end Go.Zam

namespace Go.Zam
set_option linter.all false
set_option maxRecDepth 100000

section
variable (w nm : Bs)
/-- a word, as another one -/
def renU (u : Bs) : Bs := if u = w then nm else u
def renTk (t : Tk) : Tk := if t.x = w then { t with x := nm } else t
/-- the edits that a word takes, text by text -/
def wantU : Nat → List Bs → List Ed
  | _, [] => []
  | p, u :: r => if u = w then ⟨(p : Int), ((p + w.length : Nat) : Int), nm⟩ :: wantU (p + u.length) r else wantU (p + u.length) r
def wantT (l : List Tk) : List Ed := (l.filter fun t => decide (t.x = w)).map fun t => ⟨(t.a : Int), ((t.a + w.length : Nat) : Int), nm⟩
def idxW : Nat → List Bs → List Nat
  | _, [] => []
  | i, u :: r => if u = w then i :: idxW (i + 1) r else idxW (i + 1) r
/-- no two neighbours are the word -/
def apartW : List Bs → Prop
  | [] => True
  | [_] => True
  | a :: b :: r => (a = w → b ≠ w) ∧ apartW (b :: r)
def cntW : List Bs → Nat
  | [] => 0
  | u :: r => if u = w then cntW r else cntW r + 1
end

section
variable {w nm : Bs}
theorem apartW.tail {a : Bs} {r : List Bs} (h : apartW w (a :: r)) : apartW w r := by
  cases r with
  | nil => trivial
  | cons b r => exact h.2
theorem apartW.drop : ∀ (n : Nat) {l : List Bs}, apartW w l → apartW w (l.drop n)
  | 0, l, h => h
  | n + 1, [], h => trivial
  | n + 1, a :: r, h => apartW.drop n h.tail
theorem apartW.take : ∀ (n : Nat) {l : List Bs}, apartW w l → apartW w (l.take n)
  | 0, l, h => trivial
  | n + 1, [], h => trivial
  | 1, a :: r, h => by simp [apartW]
  | n + 2, [a], h => trivial
  | n + 2, a :: b :: r, h => ⟨h.1, by have := apartW.take (n + 1) h.2; simpa using this⟩

theorem wantU_app : ∀ (p : Nat) (A B : List Bs), wantU w nm p (A ++ B) = wantU w nm p A ++ wantU w nm (p + A.flatten.length) B
  | p, [], B => by simp [wantU]
  | p, u :: r, B => by
    have := wantU_app (p + u.length) r B
    simp only [List.cons_append, wantU]
    split <;> simp [this, Nat.add_assoc]
theorem wantU_none : ∀ (p : Nat) (A : List Bs), w ∉ A → wantU w nm p A = []
  | p, [], h => rfl
  | p, u :: r, h => by
    simp only [List.mem_cons, not_or] at h
    rw [wantU, if_neg (Ne.symm h.1), wantU_none _ r h.2]
theorem wantU_len : ∀ (p : Nat) (A : List Bs), (wantU w nm p A).length = (idxW w 0 A).length
  | p, A => by
    have key : ∀ (A : List Bs) (p i : Nat), (wantU w nm p A).length = (idxW w i A).length := by
      intro A
      induction A with
      | nil => intro p i; rfl
      | cons u r ih =>
        intro p i
        simp only [wantU, idxW]
        split
        · simp [ih (p + u.length) (i + 1)]
        · exact ih _ _
    exact key A p 0

/-- the edits of a word's places -/
theorem want_idx (hwn : w ≠ []) (p : Nat) : ∀ (Y X : List Bs), (idxW w X.length Y).map (fun k => edR p (X ++ Y) ((X ++ Y).map (renU w nm)) ⟨k, k + 1, k, k + 1⟩) = wantU w nm (p + X.flatten.length) Y
  | [], X => rfl
  | u :: r, X => by
    have ih := want_idx hwn p r (X ++ [u])
    have e1 : X ++ [u] ++ r = X ++ u :: r := by simp
    have e2 : (X ++ [u]).length = X.length + 1 := by simp
    have e3 : p + (X ++ [u]).flatten.length = p + X.flatten.length + u.length := by simp; omega
    rw [e1, e2, e3] at ih
    simp only [idxW, wantU]
    by_cases h : u = w
    · rw [if_pos h, if_pos h, List.map_cons, ih]
      congr 1
      have p1 : posU (X ++ u :: r) X.length = X.flatten.length := posU_app X (u :: r) rfl
      have p2 : posU (X ++ u :: r) (X.length + 1) = X.flatten.length + u.length := by
        have := posU_app (X ++ [u]) r (n := X.length + 1) (by simp)
        rw [e1] at this
        rw [this]; simp
      have p3 : (((X ++ u :: r).map (renU w nm)).drop X.length).take (X.length + 1 - X.length) = [nm] := by
        rw [List.map_append, List.map_cons, List.drop_left' (by simp), Nat.add_sub_cancel_left]
        simp [renU, h]
      simp only [edR, p1, p2, p3, List.flatten_cons, List.flatten_nil, List.append_nil]
      rw [Nat.add_assoc, h]
    · rw [if_neg h, if_neg h, ih]

theorem sub_out {X Y C : List Bs} (h : C.Sublist X) (hw : ∀ u ∈ C, u ≠ w) : C.length ≤ cntW w X := by
  induction h with
  | slnil => simp
  | @cons l1 l2 a h ih =>
    have := ih hw
    simp only [cntW]
    split <;> omega
  | @cons_cons l1 l2 a h ih =>
    have := ih (fun u hu => hw u (List.mem_cons_of_mem _ hu))
    simp only [cntW, List.length_cons]
    rw [if_neg (hw a (by simp))]; omega
theorem lcs_cnt {X Y : List Bs} (hY : w ∉ Y) : lcs X Y ≤ cntW w X := by
  obtain ⟨⟨C, c1, c2, c3⟩, -⟩ := lcs_is X Y
  rw [← c3]
  exact sub_out (X := X) (Y := Y) c1 (fun u hu e => hY (e ▸ c2.subset hu))
theorem lcs_out {X Y : List Bs} {a : Bs} (h : a ∉ X) : lcs X (a :: Y) = lcs X Y := by
  obtain ⟨⟨C, c1, c2, c3⟩, h1⟩ := lcs_is X (a :: Y)
  obtain ⟨⟨D, d1, d2, d3⟩, h2⟩ := lcs_is X Y
  have e1 := h1 D d1 (d2.cons a)
  have hC : C.Sublist Y := by
    cases c2 with
    | cons _ q => exact q
    | cons_cons _ q => exact absurd (c1.subset (by simp)) h
  have e2 := h2 C c1 hC
  omega
theorem lcs_outL {X Y : List Bs} {a : Bs} (h : a ∉ Y) : lcs (a :: X) Y = lcs X Y := by rw [lcs_symm, lcs_out h, lcs_symm]

theorem ren_no {R : List Bs} (hwn : w ≠ nm) : w ∉ R.map (renU w nm) := by
  intro h
  obtain ⟨u, -, hu⟩ := List.mem_map.1 h
  unfold renU at hu
  split at hu
  · exact hwn hu.symm
  · contradiction
theorem lcs_ren (hwn : w ≠ nm) : ∀ (R : List Bs), nm ∉ R → lcs R (R.map (renU w nm)) = cntW w R
  | [], _ => by rw [nil_lcs]; rfl
  | u :: r, h => by
    simp only [List.mem_cons, not_or] at h
    have ih := lcs_ren hwn r h.2
    rw [List.map_cons]
    by_cases hu : u = w
    · have e : renU w nm u = nm := by simp [renU, hu]
      rw [e, cntW, if_pos hu, ← ih, hu]
      rw [lcs_outL (by simp only [List.mem_cons, not_or]; exact ⟨hwn, ren_no hwn⟩), lcs_out h.2]
    · have e : renU w nm u = u := by simp [renU, hu]
      rw [e, cntW, if_neg hu, lcs_cons, ih]

theorem skip_one (hwn : w ≠ nm) {R : List Bs} (hnm : nm ∉ R) (hap : apartW w (w :: R)) : skipN (w :: R) (nm :: R.map (renU w nm)) = (1, 1) := by
  have h1 : lcs (w :: R) (R.map (renU w nm)) = cntW w R := by rw [lcs_outL (ren_no hwn), lcs_ren hwn R hnm]
  have h2 : lcs R (nm :: R.map (renU w nm)) = cntW w R := by rw [lcs_out hnm, lcs_ren hwn R hnm]
  have h3 : skipN R (nm :: R.map (renU w nm)) = (0, 1) := by
    cases R with
    | nil => rw [List.map_nil, skipN_nil_cons, skipN_nil_nil]
    | cons r R1 =>
      have hr : r ≠ w := hap.1 rfl
      simp only [List.mem_cons, not_or] at hnm
      have e : renU w nm r = r := by simp [renU, hr]
      have h4 : lcs (r :: R1) ((r :: R1).map (renU w nm)) = cntW w R1 + 1 := by
        rw [lcs_ren hwn _ (by simp only [List.mem_cons, not_or]; exact hnm), cntW, if_neg hr]
      have h5 : lcs R1 (nm :: (r :: R1).map (renU w nm)) ≤ cntW w R1 := lcs_cnt (by simp only [List.mem_cons, not_or]; exact ⟨hwn, ren_no hwn⟩)
      rw [skipN_cons, if_neg (Ne.symm hnm.1), if_neg (by omega)]
      rw [List.map_cons, e, skipN_cons, if_pos rfl]
  rw [skipN_cons, if_neg hwn, if_pos (by omega), h3]

theorem runs_ren (hwn : w ≠ nm) : ∀ (f : Nat) (M : List Bs) (i : Nat), M.length < f → apartW w M → nm ∉ M → runsF f M (M.map (renU w nm)) i i = (idxW w i M).map fun k => ⟨k, k + 1, k, k + 1⟩
  | 0, M, i, h, _, _ => by omega
  | f + 1, [], i, h, _, _ => by simp [runsF, idxW]
  | f + 1, u :: R, i, h, hap, hnm => by
    simp only [List.length_cons] at h
    have hnm' := hnm
    simp only [List.mem_cons, not_or] at hnm
    by_cases hu : u = w
    · have e : renU w nm w = nm := by simp [renU]
      rw [hu] at hap ⊢
      have hne : ¬ (w :: R = [] ∧ (w :: R).map (renU w nm) = []) := by simp
      have hhe : headEq (w :: R) ((w :: R).map (renU w nm)) = false := by rw [List.map_cons, e]; simp [headEq, hwn]
      have hsk : skipN (w :: R) ((w :: R).map (renU w nm)) = (1, 1) := by rw [List.map_cons, e]; exact skip_one hwn hnm.2 hap
      rw [runsF_run hne hhe, hsk]
      simp only [idxW, if_true, List.map_cons, List.drop_succ_cons, List.drop_zero]
      congr 1
      exact runs_ren hwn f R (i + 1) (by omega) hap.tail hnm.2
    · have e : renU w nm u = u := by simp [renU, hu]
      have hne : ¬ (u :: R = [] ∧ (u :: R).map (renU w nm) = []) := by simp
      have hhe : headEq (u :: R) ((u :: R).map (renU w nm)) = true := by rw [List.map_cons, e]; simp [headEq]
      rw [runsF, if_neg hne, if_pos hhe]
      simp only [idxW, if_neg hu, List.map_cons, List.tail_cons]
      exact runs_ren hwn f R (i + 1) (by omega) hap.tail hnm.2

theorem map_eq_self {l : List Bs} (h : l = l.map (renU w nm)) (hwn : w ≠ nm) : w ∉ l := by
  rw [h]; exact ren_no hwn

/-- THE PLAIN LAW: of lists of texts -/
theorem between_ren (hw0 : w ≠ []) (hwn : w ≠ nm) {A : List Bs} (hap : apartW w A) (hnm : nm ∉ A) (hl : A.length ≤ 1024) (hk : (wantU w nm 0 A).length ≤ 512) : betweenL A (A.map (renU w nm)) = wantU w nm 0 A := by
  obtain ⟨C, S, hC, hS, eA, eB, hm⟩ := mid_split A (A.map (renU w nm))
  have hp : posU A (alikeN A (A.map (renU w nm))) = C.flatten.length := by
    have := posU_app C (midA A (A.map (renU w nm)) ++ S) hC
    rwa [← eA] at this
  unfold betweenL
  rw [hp]
  have hX : ∀ M : List Bs, A = C ++ (M ++ S) → M = (A.drop C.length).take M.length := fun M e => by rw [e]; simp
  have hmA := hX _ eA
  generalize midA A (A.map (renU w nm)) = M at eA hm hmA ⊢
  generalize midB A (A.map (renU w nm)) = N at eB hm ⊢
  have hlen : M.length = N.length := by
    have h1 := congrArg List.length eA
    have h2 := congrArg List.length eB
    simp only [List.length_append, List.length_map] at h1 h2
    omega
  have e2 : A.map (renU w nm) = C.map (renU w nm) ++ (M.map (renU w nm) ++ S.map (renU w nm)) := by
    conv => lhs; rw [eA]
    simp
  rw [eB] at e2
  obtain ⟨f1, f2⟩ := List.append_inj e2 (by simp)
  obtain ⟨f3, f4⟩ := List.append_inj f2 (by simp [hlen])
  have wC := map_eq_self f1 hwn
  have wS := map_eq_self f4 hwn
  have hapM : apartW w M := by rw [hmA]; exact (hap.drop _).take _
  have hnmM : nm ∉ M := fun h => hnm (by rw [eA]; simp [h])
  have hw : wantU w nm 0 A = wantU w nm C.flatten.length M := by
    rw [eA, wantU_app, wantU_app, wantU_none _ C wC, wantU_none _ S wS]; simp
  have hMl : M.length ≤ 1024 := by
    have := congrArg List.length eA
    simp only [List.length_append] at this
    omega
  have hruns : runsL M N = (idxW w 0 M).map fun k => ⟨k, k + 1, k, k + 1⟩ := by
    rw [f3]; unfold runsL
    exact runs_ren hwn _ M 0 (by omega) hapM hnmM
  have hidx := want_idx (w := w) (nm := nm) hw0 C.flatten.length M []
  simp only [List.length_nil, List.nil_append, List.flatten_nil, Nat.add_zero] at hidx
  rw [hw] at hk ⊢
  unfold edsOf
  by_cases h0 : M.length + N.length = 0
  · rw [if_pos h0]
    have : M = [] := List.eq_nil_of_length_eq_zero (by omega)
    rw [this]; rfl
  · have hprod : M.length * N.length ≤ 1048576 := by
      have : M.length * N.length ≤ 1024 * 1024 := Nat.mul_le_mul hMl (by omega)
      omega
    have hrl : (runsL M N).length ≤ 512 := by
      rw [hruns, List.length_map, ← wantU_len (nm := nm) C.flatten.length M]; exact hk
    rw [if_neg h0, if_pos ⟨hprod, hrl⟩, hruns, List.map_map, f3]
    exact hidx

end
end Go.Zam

namespace Go.Zam
set_option linter.all false
set_option maxRecDepth 100000

theorem lead_first {s : Bs} {b : UInt8} {r : Bs} (h : s.take (leadS false s) = b :: r) : blankB b = true ∨ hashB b = true := by
  cases s with
  | nil => simp at h
  | cons x s =>
    rw [leadS] at h
    by_cases h1 : blankB x = true
    · rw [if_pos h1, List.take_succ_cons] at h
      rw [← (List.cons.inj h).1]; exact .inl h1
    · rw [if_neg h1] at h
      by_cases h2 : hashB x = true
      · rw [if_pos h2, List.take_succ_cons] at h
        rw [← (List.cons.inj h).1]; exact .inr h2
      · rw [if_neg h2] at h; simp at h

theorem lead_ne {s : Bs} {c : UInt8} {w' : Bs} (hc : letterB c = true) : s.take (leadS false s) ≠ c :: w' := fun h => by
  obtain ⟨q1, q2, -, -⟩ := letter_ne hc
  rcases lead_first h with h | h
  · rw [q1] at h; cases h
  · rw [q2] at h; cases h

theorem units_head {l : List Tk} {u : Bs} {U : List Bs} (h : txU l = u :: U) : u.head? = (joinS l).head? := by
  have h1 := txU_flat l
  have hu : u ≠ [] := txU_ne u (by rw [h]; simp)
  rw [h, List.flatten_cons] at h1
  rw [← h1]
  cases u with
  | nil => exact absurd rfl hu
  | cons a r => rfl

theorem tok_run {b : UInt8} {r : Bs} (h : (tokN (b :: r)).1 = 0) (hb : letterB b = true) : (tokN (b :: r)).2.2 = runN wordB (b :: r) := by
  have hT := tokN_cons b r
  rw [if_pos hb] at hT
  rw [hT] at h ⊢
  split at h
  · rename_i h1; rw [if_pos h1]
  · rename_i h1
    rw [if_neg h1]
    split at h
    · cases h
    · rename_i h2; rw [if_neg h2]

theorem toks_units {w nm : Bs} {c : UInt8} {w' : Bs} (hw : w = c :: w') (hc : letterB c = true) {s : Bs} {n : Nat} {l : List Tk} (h : Toks s n l) :
    apartW w (txU l) ∧ wantU w nm n (txU l) = wantT w nm l ∧ (∀ t ∈ l, t.l ≠ w ∧ ∀ c' w'', letterB c' = true → t.l ≠ c' :: w'') := by
  induction h with
  | @fin s n h1 h2 =>
    have hlw : s.take (leadS false s) ≠ w := by rw [hw]; exact lead_ne hc
    have e1 : txU [⟨0, n + leadS false s, s.take (leadS false s), []⟩] = [s.take (leadS false s), []].filter neB := txU_one _
    rw [e1]
    have e2 : [s.take (leadS false s), ([] : Bs)].filter neB = [s.take (leadS false s)].filter neB := by simp [List.filter_cons, neB]
    rw [e2]
    refine ⟨?_, ?_, ?_⟩
    · by_cases hl : neB (s.take (leadS false s)) = true
      · simp only [List.filter_cons, hl, if_true, List.filter_nil]; trivial
      · simp only [List.filter_cons, hl, List.filter_nil]; trivial
    · rw [wantU_none]
      · have : ¬ ([] : Bs) = w := by rw [hw]; simp
        simp [wantT, this]
      · intro hm
        have := (List.mem_filter.1 hm).1
        simp only [List.mem_singleton] at this
        exact hlw this.symm
    · intro t ht
      simp only [List.mem_singleton] at ht
      subst ht
      exact ⟨hlw, fun c' w'' hc' => lead_ne hc'⟩
  | @tok s n l h1 h2 h3 ih =>
    obtain ⟨i1, i2, i3⟩ := ih
    have hlw : s.take (leadS false s) ≠ w := by rw [hw]; exact lead_ne hc
    have hlw2 : ∀ c' w'', letterB c' = true → s.take (leadS false s) ≠ c' :: w'' := fun c' w'' hc' => lead_ne hc'
    have hll : (s.take (leadS false s)).length = leadS false s := by have := lead_le false s; simp only [List.length_take]; omega
    have hj := h3.join.1
    have hm := (tokN_len (s.drop (leadS false s))).2.2.1 h1 h2
    have hml := (tokN_len (s.drop (leadS false s))).1
    have hxl : ((s.drop (leadS false s)).take (tokN (s.drop (leadS false s))).2.2).length = (tokN (s.drop (leadS false s))).2.2 := by simp only [List.length_take]; omega
    have hx : (s.drop (leadS false s)).take (tokN (s.drop (leadS false s))).2.2 ≠ [] := fun e => by rw [e] at hxl; simp at hxl; omega
    -- what comes behind the word is no letter
    have hnext : (s.drop (leadS false s)).take (tokN (s.drop (leadS false s))).2.2 = w → ∀ u U, txU l = u :: U → u ≠ w := fun e u U hu hu2 => by
      have hh := units_head hu
      rw [hj, hu2, hw] at hh
      cases hS : s.drop (leadS false s) with
      | nil => exact h2 hS
      | cons b r =>
        rw [hS] at e h1 hm hh
        obtain ⟨m', hm'⟩ : ∃ m', (tokN (b :: r)).2.2 = m' + 1 := ⟨(tokN (b :: r)).2.2 - 1, by omega⟩
        have hbc : b = c := by
          rw [hm', List.take_succ_cons, hw] at e
          exact (List.cons.inj e).1
        have hr := tok_run h1 (hbc ▸ hc)
        rcases runN_rest wordB (b :: r) with h | ⟨b2, t2, h, hb2⟩
        · rw [hr, h] at hh; simp at hh
        · rw [hr, h] at hh
          simp at hh
          rw [← hh] at hb2
          simp [wordB, hc] at hb2
    have e1 : txU (⟨(tokN (s.drop (leadS false s))).2.1, n + leadS false s, s.take (leadS false s), (s.drop (leadS false s)).take (tokN (s.drop (leadS false s))).2.2⟩ :: l) = [s.take (leadS false s), (s.drop (leadS false s)).take (tokN (s.drop (leadS false s))).2.2].filter neB ++ txU l := rfl
    rw [e1]
    have e3 : wantT w nm (⟨(tokN (s.drop (leadS false s))).2.1, n + leadS false s, s.take (leadS false s), (s.drop (leadS false s)).take (tokN (s.drop (leadS false s))).2.2⟩ :: l) = (if (s.drop (leadS false s)).take (tokN (s.drop (leadS false s))).2.2 = w then [⟨((n + leadS false s : Nat) : Int), ((n + leadS false s + w.length : Nat) : Int), nm⟩] else []) ++ wantT w nm l := by
      unfold wantT
      by_cases hq : (s.drop (leadS false s)).take (tokN (s.drop (leadS false s))).2.2 = w
      · rw [if_pos hq, List.filter_cons_of_pos (by simpa using hq)]; rfl
      · rw [if_neg hq, List.filter_cons_of_neg (by simpa using hq)]; rfl
    rw [e3, ← i2]
    clear e1 e3 h3 hj h1 h2 hm hml i2
    generalize (s.drop (leadS false s)).take (tokN (s.drop (leadS false s))).2.2 = X at hxl hx hnext ⊢
    generalize (tokN (s.drop (leadS false s))).2.2 = m at hxl ⊢
    generalize s.take (leadS false s) = Ld at hlw hlw2 hll ⊢
    generalize leadS false s = k at hll ⊢
    have hfX : neB X = true := by unfold neB; cases X <;> simp at hx ⊢
    have hX2 : apartW w (X :: txU l) := by
      cases hU : txU l with
      | nil => trivial
      | cons u U =>
        rw [hU] at i1
        exact ⟨fun e => hnext e u U hU, i1⟩
    refine ⟨?_, ?_, ?_⟩
    · by_cases hl : neB Ld = true
      · simp only [List.filter_cons, hl, hfX, if_true, List.filter_nil, List.cons_append, List.nil_append]
        exact ⟨fun e => absurd e hlw, hX2⟩
      · simp only [List.filter_cons, hl, hfX, if_true, List.filter_nil, List.cons_append, List.nil_append]
        exact hX2
    · have hLd : wantU w nm n ([Ld].filter neB) = [] := wantU_none _ _ (fun hm => hlw (by
        have := (List.mem_filter.1 hm).1
        simp only [List.mem_singleton] at this
        exact this.symm))
      have e4 : [Ld, X].filter neB = [Ld].filter neB ++ [X] := by
        have : [Ld, X] = [Ld] ++ [X] := rfl
        rw [this, List.filter_append]
        congr 1
        simp [List.filter_cons, hfX]
      have e5 : ([Ld].filter neB).flatten.length = k := by rw [filter_flat]; simpa using hll
      rw [e4, List.append_assoc, wantU_app, hLd, List.nil_append, e5, wantU_app]
      have e6 : ([X] : List Bs).flatten.length = m := by simpa using hxl
      rw [e6]
      congr 1
    · intro t ht
      rcases List.mem_cons.1 ht with rfl | ht
      · exact ⟨hlw, hlw2⟩
      · exact i3 t ht

theorem units_ren {w nm : Bs} (hw : w ≠ []) (hnm : nm ≠ []) : ∀ (l : List Tk), (∀ t ∈ l, t.l ≠ w) → txU (l.map (renTk w nm)) = (txU l).map (renU w nm)
  | [], _ => rfl
  | t :: r, h => by
    have e1 : txU ((t :: r).map (renTk w nm)) = [(renTk w nm t).l, (renTk w nm t).x].filter neB ++ txU (r.map (renTk w nm)) := rfl
    have e2 : txU (t :: r) = [t.l, t.x].filter neB ++ txU r := rfl
    have ih := units_ren hw hnm r (fun t ht => h t (List.mem_cons_of_mem _ ht))
    have hl := h t (by simp)
    rw [e1, e2, ih, List.map_append]
    congr 1
    have n1 : neB nm = true := by unfold neB; cases nm <;> simp at hnm ⊢
    have n2 : neB w = true := by unfold neB; cases w <;> simp at hw ⊢
    obtain ⟨k, a, l, x⟩ := t
    simp only at hl
    by_cases hx : x = w
    · have : renTk w nm ⟨k, a, l, x⟩ = ⟨k, a, l, nm⟩ := by simp [renTk, hx]
      rw [this]
      by_cases hf : neB l = true
      · simp [List.filter_cons, hf, n1, n2, hx, renU, hl]
      · simp [List.filter_cons, hf, n1, n2, hx, renU]
    · have : renTk w nm ⟨k, a, l, x⟩ = ⟨k, a, l, x⟩ := by simp [renTk, hx]
      rw [this]
      by_cases hf : neB l = true
      · by_cases hg : neB x = true
        · simp [List.filter_cons, hf, hg, renU, hl, hx]
        · simp [List.filter_cons, hf, hg, renU, hl]
      · by_cases hg : neB x = true
        · simp [List.filter_cons, hf, hg, renU, hx]
        · simp [List.filter_cons, hf, hg]

theorem join_ren {w nm : Bs} : ∀ (l : List Tk), (joinS (l.map (renTk w nm))).length ≤ (joinS l).length + nm.length * l.length
  | [] => by simp [joinS]
  | t :: r => by
    have ih := join_ren (w := w) (nm := nm) r
    have e1 : joinS ((t :: r).map (renTk w nm)) = ((renTk w nm t).l ++ (renTk w nm t).x) ++ joinS (r.map (renTk w nm)) := rfl
    have e2 : joinS (t :: r) = (t.l ++ t.x) ++ joinS r := rfl
    rw [e1, e2]
    simp only [List.length_append, List.length_cons, Nat.mul_add, Nat.mul_one]
    have hr : (renTk w nm t).l.length + (renTk w nm t).x.length ≤ t.l.length + t.x.length + nm.length := by
      unfold renTk
      split
      · simp only; omega
      · omega
    omega

/-- a word that is another one everywhere takes an edit of each of its places -/
theorem names_law {s w nm : Bs} {l : List Tk} (h : Toks s 0 l) {c : UInt8} {w' : Bs} (hw : w = c :: w') (hc : letterB c = true) (hnm : isNameB nm = true) (hno : ∀ t ∈ l, t.x ≠ nm) (hwn : w ≠ nm) (hl : l.length ≤ 300) :
    betweenL (txU l) (txU (l.map (renTk w nm))) = wantT w nm l := by
  obtain ⟨h1, h2, h3⟩ := toks_units (nm := nm) hw hc h
  have hw0 : w ≠ [] := by rw [hw]; simp
  obtain ⟨b, r, hnb, hlb⟩ : ∃ b r, nm = b :: r ∧ letterB b = true := by
    cases nm with
    | nil => simp [isNameB] at hnm
    | cons b r =>
      refine ⟨b, r, rfl, ?_⟩
      simp only [isNameB, Bool.and_eq_true, List.all_cons, Bool.not_eq_true', Bool.or_eq_true] at hnm
      obtain ⟨⟨-, q1⟩, q2, -⟩ := hnm
      rcases q2 with q | q
      · exact q
      · rw [q] at q1; cases q1
  have hn0 : nm ≠ [] := by rw [hnb]; simp
  have hnot : nm ∉ txU l := fun hm => by
    simp only [txU, List.mem_flatMap, List.mem_filter, List.mem_cons, List.not_mem_nil, or_false] at hm
    obtain ⟨t, ht, hq | hq, -⟩ := hm
    · exact (h3 t ht).2 b r hlb (by rw [← hnb]; exact hq.symm)
    · exact hno t ht hq.symm
  have hlen := txU_len l
  have hk : (wantU w nm 0 (txU l)).length ≤ 512 := by
    rw [h2]; unfold wantT
    rw [List.length_map]
    have := List.length_filter_le (fun t : Tk => decide (t.x = w)) l
    omega
  rw [units_ren hw0 hn0 l (fun t ht => (h3 t ht).1), between_ren hw0 hwn h1 hnot (by omega) hk, h2]

end Go.Zam

set_option linter.all false
namespace Go.Proofs
open Go.Shelf Go.RowKit
variable {P : Program} {ρ : Ren}

set_option maxHeartbeats 32000000 in
set_option maxRecDepth 100000 in
theorem AnyPu.internal_strconv_ParseUint_10_b63 (L : LaysPu.n16 P ρ) (t : ByteArray) (hne : t.size ≠ 0) (hmax : t.size ≤ 9223372036854775806) (w : World) :
    Calls P (ρ.f 16) #[.string t, .int .i64 10, .int .i64 63] w fun e w' => e = .returned (Lib.uintTupleM (ρ.t 34) 9223372036854775807 (Lib.parseUintM 9223372036854775807 0 t.data.toList)) ∧ w' = Lib.bytesWorld w (ρ.t 5) t := by
  have mixed := L.mixed
  have t9 := L.t9; have a9 := L.a9; have z9 := L.z9; have v9 := L.v9
  have t3 := L.t3; have a3 := L.a3; have z3 := L.z3; have v3 := L.v3
  have t22 := L.t22; have a22 := L.a22; have z22 := L.z22; have v22 := L.v22
  have t24 := L.t24; have a24 := L.a24; have z24 := L.z24; have v24 := L.v24
  have t4 := L.t4; have a4 := L.a4; have z4 := L.z4; have v4 := L.v4
  have t34 := L.t34; have a34 := L.a34; have z34 := L.z34; have v34 := L.v34
  have t5 := L.t5; have a5 := L.a5; have z5 := L.z5; have v5 := L.v5
  have t36 := L.t36; have a36 := L.a36; have z36 := L.z36; have v36 := L.v36
  have t37 := L.t37; have a37 := L.a37; have z37 := L.z37; have v37 := L.v37
  have t0 := L.t0; have a0 := L.a0; have z0 := L.z0; have v0 := L.v0
  have e19 : ∀ args w, (callFunc (ρ.f 19) args).run P w = .ok (.enter (ρ.f 19) args) w := enters_of L.f19 (by kernel_rfl) rfl
  have hemp : t.toList.isEmpty = false := by
    rw [← decide_eq_emptyBytes]
    exact decide_eq_false (fun h => hne (by rw [h]; rfl))
  have hcv := Lib.run_convert_string_bytes (P := P) w (ρ.t 9) (ρ.t 37) (ρ.t 5) t (u := .string) L.t9 L.t37 L.t5
  have hB : ∀ j, j < t.size → (Lib.bytesWorld w (ρ.t 5) t).cell? ⟨w.heap.size, j, none⟩ = some (.int .u8 (t.data.toList.getD j 0).toNat) := fun j hj => Lib.bytesWorld_cell w (ρ.t 5) t j hj
  obtain ⟨W1, hW1⟩ : ∃ W1, W1 = Lib.bytesWorld w (ρ.t 5) t := ⟨_, rfl⟩
  rw [← hW1] at hcv hB ⊢
  clear hW1
  obtain ⟨bs, hL⟩ : ∃ bs, bs = t.data.toList := ⟨_, rfl⟩
  have hLn : bs.length = t.size := by rw [hL, Lib.size_eq]
  rw [← hL] at hB ⊢
  clear hL
  -- 'maxVal := uint64(1)<<uint(bitSize) - 1': its value, for the walk to take
  have hmv : IntKind.u64.wrap (IntKind.u64.wrap 9223372036854775808 - 1) = 9223372036854775807 := by
    rw [IntKind.wrap_u64, IntKind.wrap_u64]
    decide
  go_enter L.f16, BodyPu.n16_ntmps ρ
  go_wp2
  go_loop [12, 13, 101] (fun vu vn vi => ∃ (k acc : Nat) (a : Int), vu = .bool false ∧ vn = .int .u64 a ∧ vi = .int .i64 k ∧ k ≤ t.size ∧ Hid (a = (acc : Int) ∧ acc ≤ 9223372036854775807 ∧ Lib.parseUintM 9223372036854775807 0 bs = Lib.parseUintM 9223372036854775807 acc (bs.drop k)))
    (fun _ _ vi => t.size - (intOf vi).toNat)
  case atStart => exact ⟨0, 0, 0, rfl, rfl, rfl, by omega, rfl, by omega, rfl⟩
  case round =>
    obtain ⟨k, acc, a, rfl, rfl, rfl, hk, hh⟩ := hrel
    obtain ⟨ha, hacc, hdec⟩ := hh.out
    clear hh
    have a0 : 0 ≤ a := by omega
    have a1 : a ≤ 9223372036854775807 := by omega
    by_cases hkn : k < t.size
    · have hc := hB k hkn
      have hdrop : bs.drop k = bs[k]'(by omega) :: bs.drop (k + 1) := List.drop_eq_getElem_cons (by omega)
      have hget : bs.getD k 0 = bs[k]'(by omega) := by simp [List.getD, List.getElem?_eq_getElem (show k < bs.length by omega)]
      rw [hdrop] at hdec
      rw [hget] at hc
      generalize bs[k]'(by omega) = c at hc hdec
      have hc256 : c.toNat < 256 := c.toNat_lt
      clear hB hdrop hget
      by_cases hdig : 48 ≤ c.toNat ∧ c.toNat ≤ 57
      · obtain ⟨hd0, hd1⟩ := hdig
        by_cases hcut : 1844674407370955162 ≤ acc
        · have hF : Lib.parseUintM 9223372036854775807 acc (c :: bs.drop (k + 1)) = .range := by simp [Lib.parseUintM, hd0, hd1, hcut]
          rw [hF] at hdec
          have icut : 1844674407370955162 ≤ a := by omega
          clear hcut hacc hF ha
          go_wp2
          go_ret2
          exact ⟨rfl, rfl⟩
        by_cases hov2 : 18446744073709551616 ≤ acc * 10 + (c.toNat - 48)
        · have hov : 9223372036854775807 < acc * 10 + (c.toNat - 48) := by omega
          have hF : Lib.parseUintM 9223372036854775807 acc (c :: bs.drop (k + 1)) = .range := by simp [Lib.parseUintM, hd0, hd1, hcut, hov]
          rw [hF] at hdec
          have icut : a < 1844674407370955162 := by omega
          have iov : 18446744073709551616 ≤ a * 10 + ((c.toNat : Int) - 48) := by omega
          have hwr : IntKind.u64.wrap (a * 10 + ((c.toNat : Int) - 48)) = a * 10 + ((c.toNat : Int) - 48) - 18446744073709551616 := by
            rw [IntKind.wrap_u64]
            omega
          clear hcut hacc hF hov hov2 ha
          go_wp2
          go_ret2
          exact ⟨rfl, rfl⟩
        by_cases hov : 9223372036854775807 < acc * 10 + (c.toNat - 48)
        · -- OVER THE SIZE
          have hF : Lib.parseUintM 9223372036854775807 acc (c :: bs.drop (k + 1)) = .range := by simp [Lib.parseUintM, hd0, hd1, hcut, hov]
          rw [hF] at hdec
          have iov : 9223372036854775807 < a * 10 + ((c.toNat : Int) - 48) := by omega
          have iov2 : a * 10 + ((c.toNat : Int) - 48) < 18446744073709551616 := by omega
          have icut : a < 1844674407370955162 := by omega
          clear hcut hacc hF hov hov2 ha
          go_wp2
          go_ret2
          exact ⟨rfl, rfl⟩
        · have hF : Lib.parseUintM 9223372036854775807 acc (c :: bs.drop (k + 1)) = Lib.parseUintM 9223372036854775807 (acc * 10 + (c.toNat - 48)) (bs.drop (k + 1)) := by simp [Lib.parseUintM, hd0, hd1, hcut, hov]
          have HN : Hid (a * 10 + ((c.toNat : Int) - 48) = ((acc * 10 + (c.toNat - 48) : Nat) : Int) ∧ acc * 10 + (c.toNat - 48) ≤ 9223372036854775807 ∧ Lib.parseUintM 9223372036854775807 0 bs = Lib.parseUintM 9223372036854775807 (acc * 10 + (c.toNat - 48)) (bs.drop (k + 1))) := Lib.hid ⟨by omega, by omega, hdec.trans hF⟩
          have iov : a * 10 + ((c.toNat : Int) - 48) ≤ 9223372036854775807 := by omega
          have icut : a < 1844674407370955162 := by omega
          clear hcut hacc hF hov hov2 hdec ha
          go_wp2
          refine ⟨⟨k + 1, acc * 10 + (c.toNat - 48), a * 10 + ((c.toNat : Int) - 48), rfl, (by first | rfl | (congr 1; omega)), (by first | rfl | (congr 1; omega)), by omega, HN⟩, by simp [intOf]; omega⟩
      · -- NO DIGIT: whatever way the text goes: (0, ErrSyntax)
        have hF : Lib.parseUintM 9223372036854775807 acc (c :: bs.drop (k + 1)) = Lib.NumEnd.syntax := by simp [Lib.parseUintM, hdig]
        rw [hF] at hdec
        clear hacc hF ha
        have hv0 := bits_lo_u8 .or (c.toNat : Int) 32
        have hv1 := bits_hi_u8 .or (c.toNat : Int) 32
        have hu0 := bits_lo_u8 .or 95 32       -- at '_' the walk writes the byte out
        have hu1 := bits_hi_u8 .or 95 32
        go_wp2_with (go_at_fn (ρ.f 19); refine (AnyPu.internal_strconv_lower { L with } _ _).mono ?_; rintro e w' ⟨rfl, rfl⟩)
        all_goals go_ret2
        all_goals first | exact ⟨rfl, rfl⟩ | exact ⟨by rw [hdec]; rfl, rfl⟩
    · -- THE BYTES ARE AT AN END
      have hkk : k = t.size := by omega
      subst hkk
      have hF : Lib.parseUintM 9223372036854775807 acc (bs.drop t.size) = .ok acc := by rw [List.drop_eq_nil_of_le (by omega)]; rfl
      rw [hF] at hdec
      subst ha
      clear hacc hF a0 a1
      go_wp2
      go_ret2
      exact ⟨rfl, rfl⟩



theorem AnyPu.internal_strconv_ParseUint_10_at63 (L : LaysPu.n16 P ρ) (t : ByteArray) (hmax : t.size ≤ 9223372036854775806) (w : World) :
    Calls P (ρ.f 16) #[.string t, .int .i64 10, .int .i64 63] w fun e w' => e = .returned (Lib.uintTupleM (ρ.t 34) 9223372036854775807 (Lib.parseUintB 63 t.data.toList)) ∧ (w' = w ∨ w' = Lib.bytesWorld w (ρ.t 5) t) := by
  have eM : (2 : Nat) ^ 63 - 1 = 9223372036854775807 := by decide
  by_cases h0 : t.size = 0
  · have ht : t = ⟨#[]⟩ := by
      apply ByteArray.ext
      exact Array.eq_empty_of_size_eq_zero h0
    subst ht
    exact (AnyPu.internal_strconv_ParseUint_empty { L with } 10 63 w).mono fun e w' ⟨he, hw⟩ => ⟨he, Or.inl hw⟩
  · have hne : t.data.toList ≠ [] := fun h => h0 (by rw [Lib.size_eq, h]; rfl)
    refine (AnyPu.internal_strconv_ParseUint_10_b63 { L with } t h0 hmax w).mono fun e w' ⟨he, hw⟩ => ⟨?_, Or.inr hw⟩
    rw [he, Lib.parseUintB, if_neg hne, eM]


set_option maxHeartbeats 4000000 in
set_option maxRecDepth 100000 in
theorem Any.strconv_ParseUint_10_at63_ok (L : LaysPu.n14 P ρ) (s : ByteArray) (hmax : s.size ≤ 9223372036854775806) (u : Nat) (h : Lib.parseUintB 63 s.data.toList = .ok u) (w : World) :
    Calls P (ρ.f 14) #[.string s, .int .i64 10, .int .i64 63] w fun e w' => e = .returned (.tuple #[.int .u64 u, .nilIface]) ∧ (w' = w ∨ w' = Lib.bytesWorld w (ρ.t 5) s) := by
  have mixed := L.mixed
  have t9 := L.t9; have a9 := L.a9; have z9 := L.z9; have v9 := L.v9
  have t3 := L.t3; have a3 := L.a3; have z3 := L.z3; have v3 := L.v3
  have t22 := L.t22; have a22 := L.a22; have z22 := L.z22; have v22 := L.v22
  have t24 := L.t24; have a24 := L.a24; have z24 := L.z24; have v24 := L.v24
  have t25 := L.t25; have a25 := L.a25; have z25 := L.z25; have v25 := L.v25
  have t4 := L.t4; have a4 := L.a4; have z4 := L.z4; have v4 := L.v4
  have e16 : ∀ args w, (callFunc (ρ.f 16) args).run P w = .ok (.enter (ρ.f 16) args) w := enters_of L.f16 (by kernel_rfl) rfl
  have hI := AnyPu.internal_strconv_ParseUint_10_at63 { L with } s hmax w
  rw [h] at hI
  have hI : Calls P (ρ.f 16) #[.string s, .int .i64 10, .int .i64 63] w fun e w' => e = .returned (.tuple #[.int .u64 u, .nilIface]) ∧ (w' = w ∨ w' = Lib.bytesWorld w (ρ.t 5) s) := hI
  clear h
  go_enter L.f14, BodyPu.n14_ntmps ρ
  go_wp2_with (go_at_fn (ρ.f 16); refine hI.mono ?_; rintro e W1 ⟨rfl, hW⟩)
  go_wp2
  go_ret2
  exact ⟨rfl, hW⟩

set_option maxHeartbeats 4000000 in
set_option maxRecDepth 100000 in
theorem Any.strconv_ParseUint_10_at63_syntax (L : LaysPu.n14 P ρ) (s : ByteArray) (hlim : s.size ≤ 281474976710656) (h : Lib.parseUintB 63 s.data.toList = Lib.NumEnd.syntax) (ev : Value) (w : World) (hv : w.cell? ⟨(ρ.g 0), 0, none⟩ = some ev) (hev : ev = .nilIface ∨ ∃ te pe, ev = .iface te pe) :
    Calls P (ρ.f 14) #[.string s, .int .i64 10, .int .i64 63] w fun e w' => ∃ N, e = .returned (.tuple #[.int .u64 0, .iface (ρ.t 39) (.pointer (some ⟨N, 0, none⟩))]) ∧ w.heap.size ≤ N ∧ w'.heap[N]? = some (.cells #[.string ⟨#[80, 97, 114, 115, 101, 85, 105, 110, 116]⟩, .string s, ev] (ρ.t 44) (0, 0)) ∧ Below w.heap.size w w' := by
  have mixed := L.mixed
  have t9 := L.t9; have a9 := L.a9; have z9 := L.z9; have v9 := L.v9
  have t3 := L.t3; have a3 := L.a3; have z3 := L.z3; have v3 := L.v3
  have t22 := L.t22; have a22 := L.a22; have z22 := L.z22; have v22 := L.v22
  have t24 := L.t24; have a24 := L.a24; have z24 := L.z24; have v24 := L.v24
  have t25 := L.t25; have a25 := L.a25; have z25 := L.z25; have v25 := L.v25
  have t4 := L.t4; have a4 := L.a4; have z4 := L.z4; have v4 := L.v4
  have e16 : ∀ args w, (callFunc (ρ.f 16) args).run P w = .ok (.enter (ρ.f 16) args) w := enters_of L.f16 (by kernel_rfl) rfl
  have e17 : ∀ args w, (callFunc (ρ.f 17) args).run P w = .ok (.enter (ρ.f 17) args) w := enters_of L.f17 (by kernel_rfl) rfl
  have hG : (ρ.g 0) < w.heap.size := Lib.lt_of_cell hv
  have hI := AnyPu.internal_strconv_ParseUint_10_at63 { L with } s (by omega) w
  rw [h] at hI
  have hI : Calls P (ρ.f 16) #[.string s, .int .i64 10, .int .i64 63] w fun e w' => e = .returned (.tuple #[.int .u64 0, .iface (ρ.t 34) (.int .i64 2)]) ∧ (w' = w ∨ w' = Lib.bytesWorld w (ρ.t 5) s) := hI
  clear h
  go_enter L.f14, BodyPu.n14_ntmps ρ
  go_wp2_with (go_at_fn (ρ.f 16); refine hI.mono ?_)
  rintro e W1 ⟨rfl, hW⟩
  have hb1 : Below w.heap.size w W1 := by
    rcases hW with rfl | rfl
    · exact Below.refl _ _
    · exact Lib.bytesWorld_below _ _ _
  have hv1 : W1.cell? ⟨(ρ.g 0), 0, none⟩ = some ev := (hb1.cell (show (⟨(ρ.g 0), 0, none⟩ : Addr).block < w.heap.size from hG)).trans hv
  clear hW
  go_wp2_with (go_at_fn (ρ.f 17); refine (AnyPu.strconv_toError_syntax { L with } ⟨#[80, 97, 114, 115, 101, 85, 105, 110, 116]⟩ s 10 63 ev _ hlim ?_ hev).mono ?_)
  · exact hv1
  rintro e W2 ⟨N, rfl, h1, h2, h3⟩
  go_wp2
  go_ret2
  exact ⟨N, rfl, Nat.le_trans hb1.size h1, h2, hb1.trans (h3.mono hb1.size)⟩

set_option maxHeartbeats 4000000 in
set_option maxRecDepth 100000 in
theorem Any.strconv_ParseUint_10_at63_range (L : LaysPu.n14 P ρ) (s : ByteArray) (hlim : s.size ≤ 281474976710656) (h : Lib.parseUintB 63 s.data.toList = .range) (ev : Value) (w : World) (hv : w.cell? ⟨(ρ.g 1), 0, none⟩ = some ev) (hev : ev = .nilIface ∨ ∃ te pe, ev = .iface te pe) :
    Calls P (ρ.f 14) #[.string s, .int .i64 10, .int .i64 63] w fun e w' => ∃ N, e = .returned (.tuple #[.int .u64 9223372036854775807, .iface (ρ.t 39) (.pointer (some ⟨N, 0, none⟩))]) ∧ w.heap.size ≤ N ∧ w'.heap[N]? = some (.cells #[.string ⟨#[80, 97, 114, 115, 101, 85, 105, 110, 116]⟩, .string s, ev] (ρ.t 44) (0, 0)) ∧ Below w.heap.size w w' := by
  have mixed := L.mixed
  have t9 := L.t9; have a9 := L.a9; have z9 := L.z9; have v9 := L.v9
  have t3 := L.t3; have a3 := L.a3; have z3 := L.z3; have v3 := L.v3
  have t22 := L.t22; have a22 := L.a22; have z22 := L.z22; have v22 := L.v22
  have t24 := L.t24; have a24 := L.a24; have z24 := L.z24; have v24 := L.v24
  have t25 := L.t25; have a25 := L.a25; have z25 := L.z25; have v25 := L.v25
  have t4 := L.t4; have a4 := L.a4; have z4 := L.z4; have v4 := L.v4
  have e16 : ∀ args w, (callFunc (ρ.f 16) args).run P w = .ok (.enter (ρ.f 16) args) w := enters_of L.f16 (by kernel_rfl) rfl
  have e17 : ∀ args w, (callFunc (ρ.f 17) args).run P w = .ok (.enter (ρ.f 17) args) w := enters_of L.f17 (by kernel_rfl) rfl
  have hG : (ρ.g 1) < w.heap.size := Lib.lt_of_cell hv
  have hI := AnyPu.internal_strconv_ParseUint_10_at63 { L with } s (by omega) w
  rw [h] at hI
  have hI : Calls P (ρ.f 16) #[.string s, .int .i64 10, .int .i64 63] w fun e w' => e = .returned (.tuple #[.int .u64 9223372036854775807, .iface (ρ.t 34) (.int .i64 1)]) ∧ (w' = w ∨ w' = Lib.bytesWorld w (ρ.t 5) s) := hI
  clear h
  go_enter L.f14, BodyPu.n14_ntmps ρ
  go_wp2_with (go_at_fn (ρ.f 16); refine hI.mono ?_)
  rintro e W1 ⟨rfl, hW⟩
  have hb1 : Below w.heap.size w W1 := by
    rcases hW with rfl | rfl
    · exact Below.refl _ _
    · exact Lib.bytesWorld_below _ _ _
  have hv1 : W1.cell? ⟨(ρ.g 1), 0, none⟩ = some ev := (hb1.cell (show (⟨(ρ.g 1), 0, none⟩ : Addr).block < w.heap.size from hG)).trans hv
  clear hW
  go_wp2_with (go_at_fn (ρ.f 17); refine (AnyPu.strconv_toError_range { L with } ⟨#[80, 97, 114, 115, 101, 85, 105, 110, 116]⟩ s 10 63 ev _ hlim ?_ hev).mono ?_)
  · exact hv1
  rintro e W2 ⟨N, rfl, h1, h2, h3⟩
  go_wp2
  go_ret2
  exact ⟨N, rfl, Nat.le_trans hb1.size h1, h2, hb1.trans (h3.mono hb1.size)⟩


end Go.Proofs

namespace Go.Proofs.Zd
open Go Go.Zam Go.Proofs
set_option maxRecDepth 100000
theorem tcf26 : compF Tryd.prog [7] Tryd.f26 = some (irTkLex 40 41 42 89 28) := by kernel_rfl
theorem h26 : HasT Tryd.prog [7] 26 (irTkLex 40 41 42 89 28) := ⟨_, Tryd.func26, tcf26⟩
theorem tcf54 : compF Tryd.prog [] Tryd.f54 = some (irTkIsKey 63 62) := by kernel_rfl
theorem h54 : Has Tryd.prog 54 (irTkIsKey 63 62) := ⟨_, Tryd.func54, tcf54⟩
theorem tcf40 : compF Tryd.prog [] Tryd.f40 = some (irRnBad 47) := by kernel_rfl
theorem h40 : Has Tryd.prog 40 (irRnBad 47) := ⟨_, Tryd.func40, tcf40⟩
theorem tcf41 : compF Tryd.prog [] Tryd.f41 = some (irScLead 48 49 50 51) := by kernel_rfl
theorem h41 : Has Tryd.prog 41 (irScLead 48 49 50 51) := ⟨_, Tryd.func41, tcf41⟩
theorem tcf42 : compF Tryd.prog [] Tryd.f42 = some (irScNext 48 52 53 54 55 56 57 58 28) := by kernel_rfl
theorem h42 : Has Tryd.prog 42 (irScNext 48 52 53 54 55 56 57 58 28) := ⟨_, Tryd.func42, tcf42⟩
theorem tcf62 : compF Tryd.prog [] Tryd.f62 = some (irSlHas 68) := by kernel_rfl
theorem h62 : Has Tryd.prog 62 (irSlHas 68) := ⟨_, Tryd.func62, tcf62⟩
theorem tcf68 : compF Tryd.prog [] Tryd.f68 = some (irSlIdx) := by kernel_rfl
theorem h68 : Has Tryd.prog 68 (irSlIdx) := ⟨_, Tryd.func68, tcf68⟩
theorem tcf63 : compF Tryd.prog [] Tryd.f63 = some (irTkKeys) := by kernel_rfl
theorem h63 : Has Tryd.prog 63 (irTkKeys) := ⟨_, Tryd.func63, tcf63⟩
theorem tcf52 : compF Tryd.prog [] Tryd.f52 = some (irLetter) := by kernel_rfl
theorem h52 : Has Tryd.prog 52 (irLetter) := ⟨_, Tryd.func52, tcf52⟩
theorem tcf55 : compF Tryd.prog [] Tryd.f55 = some (irDigit) := by kernel_rfl
theorem h55 : Has Tryd.prog 55 (irDigit) := ⟨_, Tryd.func55, tcf55⟩
theorem tcf48 : compF Tryd.prog [] Tryd.f48 = some (irScMore) := by kernel_rfl
theorem h48 : Has Tryd.prog 48 (irScMore) := ⟨_, Tryd.func48, tcf48⟩
theorem tcf49 : compF Tryd.prog [] Tryd.f49 = some (irTkBlank) := by kernel_rfl
theorem h49 : Has Tryd.prog 49 (irTkBlank) := ⟨_, Tryd.func49, tcf49⟩
theorem tcf50 : compF Tryd.prog [] Tryd.f50 = some (irScHash) := by kernel_rfl
theorem h50 : Has Tryd.prog 50 (irScHash) := ⟨_, Tryd.func50, tcf50⟩
theorem tcf51 : compF Tryd.prog [] Tryd.f51 = some (irScNoNl) := by kernel_rfl
theorem h51 : Has Tryd.prog 51 (irScNoNl) := ⟨_, Tryd.func51, tcf51⟩
theorem tcf53 : compF Tryd.prog [] Tryd.f53 = some (irScWord 48 61) := by kernel_rfl
theorem h53 : Has Tryd.prog 53 (irScWord 48 61) := ⟨_, Tryd.func53, tcf53⟩
theorem tcf61 : compF Tryd.prog [] Tryd.f61 = some (irScWordB 52 55) := by kernel_rfl
theorem h61 : Has Tryd.prog 61 (irScWordB 52 55) := ⟨_, Tryd.func61, tcf61⟩
theorem tcf57 : compF Tryd.prog [] Tryd.f57 = some (irScStr 65) := by kernel_rfl
theorem h57 : Has Tryd.prog 57 (irScStr 65) := ⟨_, Tryd.func57, tcf57⟩
theorem tcf58 : compF Tryd.prog [] Tryd.f58 = some (irScSign 66 67) := by kernel_rfl
theorem h58 : Has Tryd.prog 58 (irScSign 66 67) := ⟨_, Tryd.func58, tcf58⟩
theorem tcf65 : compF Tryd.prog [4] Tryd.f65 = some (irRnUnquote 71 72 37 77 5) := by kernel_rfl
theorem h65 : HasT Tryd.prog [4] 65 (irRnUnquote 71 72 37 77 5) := ⟨_, Tryd.func65, tcf65⟩
theorem tcf66 : compF Tryd.prog [] Tryd.f66 = some (irTkSigns) := by kernel_rfl
theorem h66 : Has Tryd.prog 66 (irTkSigns) := ⟨_, Tryd.func66, tcf66⟩
theorem tcf23 : compF Tryd.prog [] Tryd.f23 = some (irIsKey) := by kernel_rfl
theorem tcf8 : compF Tryd.prog [] Tryd.f8 = some (irIsName 23 24 25) := by kernel_rfl
theorem h8 : Has Tryd.prog 8 (irIsName 23 24 25) := ⟨_, Tryd.func8, tcf8⟩
theorem tcf24 : compF Tryd.prog [] Tryd.f24 = some (irDigit) := by kernel_rfl
theorem h24 : Has Tryd.prog 24 (irDigit) := ⟨_, Tryd.func24, tcf24⟩
theorem tcf25 : compF Tryd.prog [] Tryd.f25 = some (irLetter) := by kernel_rfl
theorem h25 : Has Tryd.prog 25 (irLetter) := ⟨_, Tryd.func25, tcf25⟩
end Go.Proofs.Zd

namespace Go.Proofs.Zd
open Go Go.Zam Go.Proofs Go.Shelf
set_option maxRecDepth 100000
def bldRen : Ren := ⟨fun n => match n with | 240 => 45 | 276 => 59 | 169 => 37 | n => n, fun t => match t with | 0 => 0 | 3 => 3 | 4 => 4 | 5 => 5 | 9 => 9 | 20 => 20 | 37 => 75 | 70 => 74 | 72 => 77 | 127 => 95 | 164 => 101 | n => n, fun g => g⟩

theorem lay240 : Lays.n240 Tryd.prog bldRen where
  mixed := by kernel_rfl
  f240 := Tryd.func45.trans (congrArg some (by kernel_rfl))
  f276 := Tryd.func59.trans (congrArg some (by kernel_rfl))
  t0 := by kernel_rfl
  a0 := Tryd.isAgg0
  z0 := fun _ => by kernel_rfl
  v0 := Tryd.zeroValue0
  t4 := by kernel_rfl
  a4 := Tryd.isAgg4
  z4 := fun _ => by kernel_rfl
  v4 := Tryd.zeroValue4
  t9 := by kernel_rfl
  a9 := Tryd.isAgg9
  z9 := fun _ => by kernel_rfl
  v9 := Tryd.zeroValue9
  t20 := by kernel_rfl
  a20 := Tryd.isAgg20
  z20 := fun _ => by kernel_rfl
  v20 := Tryd.zeroValue20
  t70 := by kernel_rfl
  a70 := Tryd.isAgg74
  z70 := fun _ => by kernel_rfl
  v70 := Tryd.zeroValue74
  t72 := by kernel_rfl
  a72 := Tryd.isAgg77
  z72 := fun _ => by kernel_rfl
  v72 := Tryd.zeroValue77
  t164 := by kernel_rfl
  a164 := Tryd.isAgg101
  z164 := fun _ => by kernel_rfl
  v164 := Tryd.zeroValue101
theorem lay169 : Lays.n169 Tryd.prog bldRen where
  mixed := by kernel_rfl
  f169 := Tryd.func37.trans (congrArg some (by kernel_rfl))
  t0 := by kernel_rfl
  a0 := Tryd.isAgg0
  z0 := fun _ => by kernel_rfl
  v0 := Tryd.zeroValue0
  t3 := by kernel_rfl
  a3 := Tryd.isAgg3
  z3 := fun _ => by kernel_rfl
  v3 := Tryd.zeroValue3
  t9 := by kernel_rfl
  a9 := Tryd.isAgg9
  z9 := fun _ => by kernel_rfl
  v9 := Tryd.zeroValue9
  t37 := by kernel_rfl
  a37 := Tryd.isAgg75
  z37 := fun _ => by kernel_rfl
  v37 := Tryd.zeroValue75
  t70 := by kernel_rfl
  a70 := Tryd.isAgg74
  z70 := fun _ => by kernel_rfl
  v70 := Tryd.zeroValue74
  t72 := by kernel_rfl
  a72 := Tryd.isAgg77
  z72 := fun _ => by kernel_rfl
  v72 := Tryd.zeroValue77
  t127 := by kernel_rfl
  a127 := Tryd.isAgg95
  z127 := fun _ => by kernel_rfl
  v127 := Tryd.zeroValue95
theorem bldExtra : Builder.Extra Tryd.prog bldRen where
  sizeBuilder := by kernel_rfl
  liesBuilder := by kernel_rfl
  t5 := by kernel_rfl
  a5 := Tryd.isAgg5
  z5 := fun _ => by kernel_rfl
  v5 := Tryd.zeroValue5
  infoByte := by kernel_rfl
  cellsByte := by kernel_rfl
  sizeByte := by kernel_rfl
  neB5 := by decide

theorem copyCheckOk {H : Hp} {i : Nat} {x a : A} (hi : H[i]? = some (.box 77 [a, x])) (ha : a = .d .nilp ∨ a = .ptr i 0) :
    ACall Tryd.prog 45 [.ptr i 0] H (fun r H' => r = .tup [] ∧ H' = H.set i (.box 77 [.ptr i 0, x])) := copyCheck_acall lay240 bldExtra.toX72 hi ha

theorem stringOk {H : Hp} {i t : Nat} {a : A} {s : List UInt8} (hi : H[i]? = some (.box 77 [a, .osl true 1 (byteRows s) t])) (ht : H[t]? = some (.tok s.length 1 5)) (hlen : s.length ≤ 4611686018427387904) :
    ACall Tryd.prog 37 [.ptr i 0] H (fun r H' => r = .d (.str s) ∧ H' = H) := string_acall lay169 bldExtra hi ht hlen
end Go.Proofs.Zd

namespace Go.Proofs.Zd
open Go Go.Zam Go.Proofs
open Go.RowKit (Below)
set_option maxRecDepth 100000
set_option linter.all false
set_option maxHeartbeats 1000000

theorem indexOk : IndexOk Tryd.prog 71 := fun s c H => by
  refine leaf (args := [.str s, .int .u8 c.toNat]) (x := .int .i64 (Lib.indexByte s c)) (fun w σ vs _ hl hv => ?_) H
  match vs, hl with
  | [v0, v1], _ =>
  have e0 := (hv 0 v0 _ rfl rfl).str_inv
  have e1 := (hv 1 v1 _ rfl rfl).int_inv
  subst e0; subst e1
  refine (Tryd.strings_IndexByte ⟨s.toArray⟩ c.toNat w).mono ?_
  rintro e w' ⟨rfl, rfl⟩
  refine ⟨_, rfl, Below.refl _ _, fun σ => ?_⟩
  have : (Int.toNat (c.toNat : Int)).toUInt8 = c := by simp
  rw [this]
  exact .int _ _

theorem prefixOk : PrefixOk Tryd.prog 67 := fun s p H => by
  refine leaf (args := [.str s, .str p]) (x := .bool (p.isPrefixOf s)) (fun w σ vs _ hl hv => ?_) H
  match vs, hl with
  | [v0, v1], _ =>
  have e0 := (hv 0 v0 _ rfl rfl).str_inv
  have e1 := (hv 1 v1 _ rfl rfl).str_inv
  subst e0; subst e1
  refine (Tryd.strings_HasPrefix ⟨s.toArray⟩ ⟨p.toArray⟩ w).mono ?_
  rintro e w' ⟨rfl, rfl⟩
  exact ⟨_, rfl, Below.refl _ _, fun σ => .bool _⟩

theorem decodeOk {H0 : Hp} (hG : TabsG 0 1 2 3 H0) : DecodeOk Tryd.prog H0 47 := fun s H hp => by
  refine leafG (args := [.str s]) hG (fun w σ vs hT hl hv => ?_) H hp
  match vs, hl with
  | [v0], _ =>
  have e0 := (hv 0 v0 _ rfl rfl).str_inv
  subst e0
  refine (Tryd.utf8_DecodeRuneInString ⟨s.toArray⟩ w hT.1).mono ?_
  rintro e w' ⟨rfl, hb⟩
  refine ⟨_, rfl, hb, fun κ => ?_⟩
  rw [decodeGo_eq]
  refine VR.tup [_, _] [_, _] rfl fun i v a hi ha => ?_
  match i with
  | 0 => cases hi; cases ha; exact .d (.int _ _)
  | 1 => cases hi; cases ha; exact .d (.int _ _)
  | i + 2 => cases hi

theorem numberCalls (s : ByteArray) (hlim : s.size ≤ 1048576) (w : World) (h0 : ∃ te pe, w.cell? ⟨2, 0, none⟩ = some (.iface te pe)) (h1 : ∃ te pe, w.cell? ⟨3, 0, none⟩ = some (.iface te pe)) :
    Calls Tryd.prog 56 #[.string s] w fun e w' => e = .returned (.int .i64 (if numOk s.data.toList then 0 else 23)) ∧ Below w.heap.size w w' := by
  obtain ⟨t0, p0, h0⟩ := h0
  obtain ⟨t1, p1, h1⟩ := h1
  rcases h : Lib.parseUintB 63 s.data.toList with u | _ | _
  · have hr : numOk s.data.toList = true := by simp only [numOk, h]
    rw [hr]
    go_enter Tryd.func56, Tryd.ntmps56
    go_wp2_with (go_at_call 64; refine (Any.strconv_ParseUint_10_at63_ok Tryd.laysPu14 s (by omega) u h _).mono ?_; rintro e w' ⟨rfl, hw⟩)
    go_wp2
    go_ret
    refine ⟨by first | rfl | (congr 2; omega), ?_⟩
    rcases hw with rfl | rfl
    · exact Below.refl _ _
    · exact Lib.bytesWorld_below _ _ _
  · have hr : numOk s.data.toList = false := by simp only [numOk, h]
    rw [hr]
    go_enter Tryd.func56, Tryd.ntmps56
    go_wp2_with (go_at_call 64; refine (Any.strconv_ParseUint_10_at63_syntax Tryd.laysPu14 s (by omega) h (.iface t0 p0) _ ?_ (.inr ⟨_, _, rfl⟩)).mono ?_)
    · exact h0
    rintro e W1 ⟨N, rfl, -, -, hb⟩
    go_wp2
    go_ret
    exact ⟨rfl, hb⟩
  · have hr : numOk s.data.toList = false := by simp only [numOk, h]
    rw [hr]
    go_enter Tryd.func56, Tryd.ntmps56
    go_wp2_with (go_at_call 64; refine (Any.strconv_ParseUint_10_at63_range Tryd.laysPu14 s (by omega) h (.iface t1 p1) _ ?_ (.inr ⟨_, _, rfl⟩)).mono ?_)
    · exact h1
    rintro e W1 ⟨N, rfl, -, -, hb⟩
    go_wp2
    go_ret
    exact ⟨rfl, hb⟩

theorem numberOk {H0 : Hp} (hG : TabsG 0 1 2 3 H0) : NumOk Tryd.prog H0 56 := fun s H hp hl => by
  refine leafG (args := [.str s]) (x := .d _) hG (fun w σ vs hT hl' hv => ?_) H hp
  match vs, hl' with
  | [v0], _ =>
  have e0 := (hv 0 v0 _ rfl rfl).str_inv
  subst e0
  refine (numberCalls ⟨s.toArray⟩ (by simpa [ByteArray.size] using hl) w hT.2.1 hT.2.2).mono ?_
  rintro e w' ⟨rfl, hb⟩
  exact ⟨_, rfl, hb, fun κ => .d (.int _ _)⟩

theorem cfWB : compF Tryd.prog [] Tryd.f72 = some (irWriteByte 45 5) := by kernel_rfl
theorem copyOk : CopyOk Tryd.prog 45 77 := fun H i x a hi ha => copyCheckOk hi ha
theorem writeBOk : WriteBOk Tryd.prog 72 77 := fun H i t a bs c => writeByte_acall Tryd.func72 cfWB copyOk H i t a bs c
theorem stringOk' : StringOk Tryd.prog 37 77 := fun H i t a s hi ht hl => stringOk hi ht (by omega)
theorem unquoteOk (s : Bs) (H : Hp) (hs : s.length ≤ 1048576) : ACall Tryd.prog 65 [.d (.str s)] H (fun r H' => r = unqR (unqV s) ∧ H' = H) := h65.unquote indexOk writeBOk stringOk' s hs H

theorem letterOk : ByteOk Tryd.prog 52 letterB := h52.letter
theorem digitOk : ByteOk Tryd.prog 55 digitB := h55.digit
theorem isKeyOk (s : Bs) (H : Hp) : ACall Tryd.prog 54 [.d (.str s)] H (fun r H' => r = .d (.bool (decide (s ∈ keysL))) ∧ H' = H) := h54.isKey h63 h62 h68 s H
theorem wordOk {H : Hp} {i : Nat} {ts : TypeId} {text : Bs} {n : Nat} (hi : H[i]? = some (scan ts text n)) (hn : n ≤ text.length) (hl : text.length ≤ 1048576) :
    ACall Tryd.prog 53 [.ptr i 0] H (fun r H' => r = .d (.str ((text.drop n).take (Zam.runN Zam.wordB (text.drop n)))) ∧ H' = H.set i (scan ts text (n + Zam.runN Zam.wordB (text.drop n)))) :=
  h53.word h48 (by kernel_rfl) (h61.wordB letterOk digitOk) hi hn (by omega)
theorem leadOk {H : Hp} {i : Nat} {text : Bs} {n : Nat} (hi : H[i]? = some (scan 89 text n)) (hn : n ≤ text.length) (hl : text.length ≤ 1048576) :
    ACall Tryd.prog 41 [.ptr i 0] H (fun r H' => r = .d (.str ((text.drop n).take (leadS false (text.drop n)))) ∧ H' = H.set i (scan 89 text (n + leadS false (text.drop n)))) :=
  h41.lead h48 (by kernel_rfl) h49.blank (by kernel_rfl) h50.hash (by kernel_rfl) h51.noNl hi hn (by omega)
theorem nextOk {H0 : Hp} (hG : TabsG 0 1 2 3 H0) {H : Hp} {i : Nat} {text : Bs} {n : Nat} (hH : Pre0 H0 H) (h0i : H0.length ≤ i) (hi : H[i]? = some (scan 89 text n)) (hn : n ≤ text.length) (hl : text.length ≤ 1048576) :
    ACall Tryd.prog 42 [.ptr i 0] H (NextQ H i 89 text n (text.drop n) (tokN (text.drop n))) :=
  h42.next h48 (by kernel_rfl) letterOk (by kernel_rfl) digitOk wordOk isKeyOk (numberOk hG) (fun hi hn hl => h57.str unquoteOk hi hn hl) (fun hi hn hl => h58.sign h66 prefixOk hi hn (by omega)) hH h0i hi hn hl
theorem badOk {H0 : Hp} (hG : TabsG 0 1 2 3 H0) (s : Bs) (H : Hp) (hs : s.length ≤ 1048576) (hH : Pre0 H0 H) : ACall Tryd.prog 40 [.d (.str s)] H (fun r H' => r = .d (.int .i64 (badS s)) ∧ H' = H) := h40.bad (decodeOk hG) s hs H hH
theorem lexOk {H0 : Hp} (hG : TabsG 0 1 2 3 H0) (s : Bs) (hs : s.length ≤ 1048576) (H : Hp) (hH : Pre0 H0 H) :
    ACall Tryd.prog 26 [.d (.str s)] H (fun r H' => r = .tup [.d (.sl true 4 ((lexS s).1.map encTk)), .d (.int .i64 (lexS s).2.1), .d (.int .i64 (lexS s).2.2)] ∧ H' = H) :=
  h26.lex (badOk hG) leadOk (nextOk hG) s hs H hH
theorem rdigitOk : ByteOk Tryd.prog 24 digitB := h24.digit
theorem rletterOk : ByteOk Tryd.prog 25 letterB := h25.letter
theorem risKeyOk (s : Bs) (H : Hp) : ACall Tryd.prog 23 [.d (.str s)] H (fun r H' => r = .d (.bool (decide (s ∈ keysL))) ∧ H' = H) := isKey_acall Tryd.func23 tcf23 s H
theorem risNameOk (s : Bs) (H : Hp) : ACall Tryd.prog 8 [.d (.str s)] H (fun r H' => r = .d (.bool (isNameB s)) ∧ H' = H) := isName_acall Tryd.func8 tcf8 risKeyOk rdigitOk rletterOk s H
end Go.Proofs.Zd
