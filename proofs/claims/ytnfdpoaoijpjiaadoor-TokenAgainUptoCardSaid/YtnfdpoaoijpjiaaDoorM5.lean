/-
  Texts of one proof, one behind the other: An abstract machine over the model, fiftieth part: the next token of a text, over any program that has the functions. The lengths are bounded. An abstract machine over the model, fifty-first part: a text that is UTF-8, and its tokens, over any program that has the functions. The lengths are bounded. An abstract machine over the model, fifty-second part: tokens joined, tokens compared, over any program that has the functions. The lengths are bounded. An abstract machine over the model, fifty-fourth part: variables of the library that stay as they are laid: the tables of UTF-8, two errors; and functions that read them. No condition. An abstract machine over the model, fifty-ninth part: a world whose variables are laid, as the machine has them. No program in sight. No condition. Contracts of the library's functions at this program, out of the kit's shelf. No condition. What the rows of the statements on tokens share: how much they hold, the world that the witness starts in, the variables as they are laid. An abstract machine over the model, fifty-fifth part: plain facts on texts that are UTF-8. No program in sight. No condition. An abstract machine over the model, fifty-sixth part: plain facts on a text's tokens. No program in sight. No condition. An abstract machine over the model, fifty-seventh part: plain facts on tokens of texts put together. No program in sight. No condition. An abstract machine over the model, fifty-eighth part: tokens up to one of them, tokens of one text behind another one. No program in sight. No condition. strconv.ParseUint(s, 10, 63), over any program that has it: turned from the kit's worked proofs at 32 and 64 bits. No condition but on lengths. The functions of the layers of runes and tokens at this program. (Printed by mktok.py.) strings.Builder's copyCheck and String on the abstract machine, at this program. No condition. The layers of runes and tokens at this program: the library's functions, one by one, and what token.Lex answers. (Printed by mktok.py.) The lengths are bounded.  TokenJoins and TokenNames on the abstract machine: they answer true. How much comes in is bounded; the tables are as they are laid. TokenNames, TokenAhead and TokenAgain on the abstract machine: they answer true. How much comes in is bounded; the tables are as they are laid. TokenAgain on the abstract machine: it answers true. How much comes in is bounded; the tables are as they are laid.
-/
import Derived.Test.YtnfdpoaoijpjiaaDoorM4
import Derived.Shelf.Unicode.DecodeSlow
import Derived.Test.YtnfdpoaoijpjiaaDoorM3
import Derived.Shelf.Strings.Builder1
import Derived.Shelf.Small.Strs
import Derived.Shelf.Strings.BuilderF
import Derived.Shelf.Strings.BuilderK
import Derived.Shelf.Strconv.Itoa0
import Derived.Shelf.Strconv.Itoa1
import Derived.Shelf.LaysM
import Derived.Shelf.Strconv.Itoa2
import Derived.Shelf.Strconv.Itoa3
import Derived.Shelf.Strconv.Clone
import Derived.Shelf.Strconv.SyntaxError
import Derived.Shelf.Strconv.Lower
import Derived.Shelf.Strconv.ParseUint10
import Derived.Shelf.Strconv.ParseUint10Empty
import Derived.Shelf.Strconv.RangeError
import Derived.Shelf.Strconv.ParseUintEmpty
import Derived.Shelf.Strconv.ParseUint10b64
import Derived.Shelf.Strconv.ParseUint10b32
import Derived.Shelf.Strconv.ParseUint10b16
import Derived.Shelf.Strconv.ParseUint10b8
import Derived.Ground.MpProg
import Derived.Shelf.Pu.ParseUintPublic10
import Derived.Shelf.Pu.ErrVarParseUint
import Derived.Shelf.Strings.Search1
import Derived.Shelf.Strings.Prefix
import Derived.Shelf.Unicode.Decode
import Derived.Shelf.Unicode.DecodeAny
import Derived.Shelf.Slices.Turned
import Derived.Test.YtnfdpoaoijpjiaaDoorProg
import Derived.Test.YtnfdpoaoijpjiaaDoorRows
import Derived.Test.YtnfdpoaoijpjiaaDoorCards
import Derived.Test.YtnfdpoaoijpjiaaDoorTie
import Derived.ProofKit
import Derived.OpenShut
import Derived.Deep.DeepHandedRow
import Derived.Lib.LaidTab
import Derived.Lib.LaidU8
import Derived.Stop.LaidErr
import Derived.SevenTiedAt
import Derived.BigCall
import Derived.BigGuard
import Derived.Laws.Closers25
import Derived.Laws.Closers25b
import Derived.Laws.Strings3
import Derived.Lib.AtoiErrMem
import Derived.Lib.ConvBytes
import Derived.Lib.Hide
import Derived.Lib.ParseIntBMem
import Derived.Lib.Strings
import Derived.Lib.Walk
import Derived.Shelf.Pu.Lays
import Derived.Shelf.Pu.Lower
import Derived.Shelf.Pu.ParseUint10
import Derived.Shelf.Pu.ParseUint10At
import Derived.Shelf.Pu.ParseUint10b16
import Derived.Shelf.Pu.ParseUint10b32
import Derived.Shelf.Pu.ParseUint10b64
import Derived.Shelf.Pu.ParseUint10b8
import Derived.Shelf.Pu.ParseUintEmpty
import Derived.Shelf.Pu.ToError
import Derived.Shelf.Pu.ToErrorRange
import Derived.WalkKit
import Derived.KernelRfl
namespace Go.Zam
set_option linter.all false
set_option maxRecDepth 100000
set_option maxHeartbeats 1000000

/-- digits that are a number -/
def numOk (s : Bs) : Bool := match Lib.parseUintB 63 s with
  | .ok _ => true
  | _ => false

/-- what is wrong with the token that a text begins with, its kind, how long it is -/
def tokN : Bs → Int × Int × Nat
  | [] => (0, 0, 0)
  | b :: r =>
    if letterB b then
      if (b :: r).take (runN wordB (b :: r)) ∈ keysL then (0, 2, runN wordB (b :: r)) else if 40 < runN wordB (b :: r) then (26, 0, 0) else (0, 1, runN wordB (b :: r))
    else if digitB b then
      if numOk ((b :: r).take (runN wordB (b :: r))) then (0, 3, runN wordB (b :: r)) else (23, 0, 0)
    else if b = 34 then
      if (strV (b :: r)).2 = 0 then (0, 4, (strV (b :: r)).1.length) else (22, 0, 0)
    else if signV (b :: r) = [] then (21, 0, 0) else (0, 5, (signV (b :: r)).length)

theorem strV_err (s : Bs) : (strV s).2 = 0 ∨ (strV s).2 = 22 := by
  unfold strV
  split
  · exact .inr rfl
  · simp only
    split <;> simp

theorem strV_take (s : Bs) : (strV s).2 = 0 → s.take (strV s).1.length = (strV s).1 := by
  unfold strV
  split
  · simp
  · rename_i k hk
    have := strS_le hk
    intro _
    simp only [List.length_take]
    simp only [List.length_drop] at this
    rw [Nat.min_eq_left (by omega)]

theorem signV_take (s : Bs) : s.take (signV s).length = signV s := by
  unfold signV
  cases h : signsT.find? (fun x => x.isPrefixOf s) with
  | none => simp
  | some x =>
    have := List.find?_some h
    have hp : x <+: s := List.isPrefixOf_iff_prefix.1 (by simpa using this)
    simp only [Option.getD_some]
    exact (List.prefix_iff_eq_take.1 hp).symm

def NumOk (P : Program) (H0 : Hp) (f : FuncId) : Prop := ∀ (s : Bs) H, Pre0 H0 H → s.length ≤ 1048576 → ACall P f [.d (.str s)] H (fun r H' => r = .d (.int .i64 (if numOk s then 0 else 23)) ∧ H' = H)

/-- what the next token comes to -/
def NextQ (H : Hp) (i : Nat) (ts : TypeId) (text : Bs) (n : Nat) (S : Bs) (T : Int × Int × Nat) : A → Hp → Prop := fun r H' => ∃ (k : Int) (x : Bs) (m : Nat), r = .tup [.agg [.d (.int .i64 k), .d (.int .i64 (n : Int)), .d (.str []), .d (.str x)], .d (.int .i64 T.1)] ∧ H' = H.set i (scan ts text m) ∧ (T.1 = 0 → k = T.2.1 ∧ x = S.take T.2.2 ∧ m = n + T.2.2)

section
variable {P : Program}

theorem Has.next {H0 : Hp} {f fm fl fw fk fd fn fs fg tt} (h : Has P f (irScNext fm fl fw fk fd fn fs fg tt)) (hm : Has P fm irScMore) (kl : callOk P fl = true) (hl : ByteOk P fl letterB) (kd : callOk P fd = true) (hd' : ByteOk P fd digitB)
    (hw : ∀ {H : Hp} {i : Nat} {ts : TypeId} {text : Bs} {n : Nat}, H[i]? = some (scan ts text n) → n ≤ text.length → text.length ≤ 1048576 → ACall P fw [.ptr i 0] H (fun r H' => r = .d (.str ((text.drop n).take (runN Zam.wordB (text.drop n)))) ∧ H' = H.set i (scan ts text (n + runN Zam.wordB (text.drop n)))))
    (hk : ∀ s H, ACall P fk [.d (.str s)] H (fun r H' => r = .d (.bool (decide (s ∈ keysL))) ∧ H' = H)) (hn : NumOk P H0 fn)
    (hs : ∀ {H : Hp} {i : Nat} {ts : TypeId} {text : Bs} {n : Nat}, H[i]? = some (scan ts text n) → n < text.length → text.length ≤ 1048576 → ACall P fs [.ptr i 0] H (fun r H' => (∃ k : Nat, r = .tup [.d (.str (strV (text.drop n)).1), .d (.int .i64 (strV (text.drop n)).2)] ∧ H' = H.set i (scan ts text k) ∧ ((strV (text.drop n)).2 = 0 → k = n + (strV (text.drop n)).1.length))))
    (hg : ∀ {H : Hp} {i : Nat} {ts : TypeId} {text : Bs} {n : Nat}, H[i]? = some (scan ts text n) → n ≤ text.length → text.length ≤ 1048576 → ACall P fg [.ptr i 0] H (fun r H' => r = .d (.str (signV (text.drop n))) ∧ H' = H.set i (scan ts text (n + (signV (text.drop n)).length))))
    {H : Hp} {i : Nat} {ts : TypeId} {text : Bs} {n : Nat} (hH : Pre0 H0 H) (h0i : H0.length ≤ i) (hi : H[i]? = some (scan ts text n)) (hnl : n ≤ text.length) (htl : text.length ≤ 1048576) :
    ACall P f [.ptr i 0] H (NextQ H i ts text n (text.drop n) (tokN (text.drop n))) := by
  obtain ⟨fnn, hf, hcf⟩ := h
  have hil := scan_len hi
  have hpre : ∀ o X, Pre0 H0 (H.set i o ++ X) := fun o X => by
    obtain ⟨Y, rfl⟩ := hH
    rw [List.set_append_right _ _ h0i, List.append_assoc]
    exact ⟨_, rfl⟩
  refine acall_fin hf hcf (by simp [irScNext]) fun hcl _ => ?_
  have hgi : H[i] = Ob.box ts [.d (.str text), .d (.int .i64 (n : Int))] := (List.getElem?_eq_some_iff.1 hi).2
  have hil' : i < H.length + 1 := by omega
  have hset : ∀ (o o' : Ob) , (H.set i o ++ [o']).length = H.length + 1 := fun o o' => by simp
  have hhi : ∀ o', (H ++ [o'])[i]? = some (scan ts text n) := fun o' => by rw [List.getElem?_append_left hil]; exact hi
  have hset2 : ∀ o o', (H ++ [o']).set i o = H.set i o ++ [o'] := fun o o' => by rw [List.set_append_left _ _ hil]
  have hfin : ∀ (S : Bs) (T : Int × Int × Nat) (x : Bs) (k e : Int) (m : Nat) (HB : Hp), HB = H.set i (scan ts text m) ++ [Ob.box tt [.d (.int .i64 k), .d (.int .i64 (n : Int)), .d (.str []), .d (.str x)]] → e = T.1 → (T.1 = 0 → k = T.2.1 ∧ x = S.take T.2.2 ∧ m = n + T.2.2) →
      RetK (NextQ H i ts text n S T) .mk H.length (some (.tup [.agg [.d (.int .i64 k), .d (.int .i64 (n : Int)), .d (.str []), .d (.str x)], .d (.int .i64 e)])) HB := by
    intro S T x k e m HB hHB he hp
    subst he
    have hc : Hp.cut H.length HB = H.set i (scan ts text m) := by
      rw [hHB, ← hset2, Hp.cut_set, cut_app hcl]; simp [scan]
    have hq : NextQ H i ts text n S T (.tup [.agg [.d (.int .i64 k), .d (.int .i64 (n : Int)), .d (.str []), .d (.str x)], .d (.int .i64 T.1)]) (H.set i (scan ts text m)) := ⟨k, x, m, rfl, rfl, hp⟩
    have hl : H.length ≤ HB.length := by rw [hHB]; simp
    generalize NextQ H i ts text n S T = Q at hq ⊢
    simp [RetK, hc, hl]
    exact hq
  simp [irScNext, hil, hgi, hil', List.getElem_append_left]
  cases hd : text.drop n with
  | nil =>
    have hn0 : n = text.length := by
      have := List.drop_eq_nil_iff.1 hd
      omega
    have hn1 : decide ((n : Int) = text.length) = true := decide_eq_true (by omega)
    rw [hn1]
    simp
    exact hfin _ _ _ _ _ n _ (by rw [Hp.set_self hi]) rfl (by simp [tokN])
  | cons b r =>
  obtain ⟨hb, hlt⟩ := byteAt_drop hd
  have hn1 : ¬ ((n : Int) = text.length) := by omega
  have hT : tokN (b :: r) = if letterB b then
      if (b :: r).take (runN Zam.wordB (b :: r)) ∈ keysL then (0, 2, runN Zam.wordB (b :: r)) else if 40 < runN Zam.wordB (b :: r) then (26, 0, 0) else (0, 1, runN Zam.wordB (b :: r))
    else if digitB b then
      if numOk ((b :: r).take (runN Zam.wordB (b :: r))) then (0, 3, runN Zam.wordB (b :: r)) else (23, 0, 0)
    else if b = 34 then
      if (strV (b :: r)).2 = 0 then (0, 4, (strV (b :: r)).1.length) else (22, 0, 0)
    else if signV (b :: r) = [] then (21, 0, 0) else (0, 5, (signV (b :: r)).length) := rfl
  generalize tokN (b :: r) = T at hT
  have g1 := fun o' => hm.more kl hl (hhi o')
  have g2 := fun o' => hm.more kd hd' (hhi o')
  have g3 := fun o' => hw (hhi o') hnl htl
  have g4 := fun o' => hs (hhi o') hlt htl
  have g5 := fun o' => hg (hhi o') hnl htl
  rw [hd] at g1 g2
  simp only [hd, hset2] at g3 g4 g5
  have hrl := runN_le Zam.wordB (b :: r)
  have hbl : (b :: r).length = text.length - n := by rw [← hd]; simp
  have hrw : ((b :: r).take (runN Zam.wordB (b :: r))).length = runN Zam.wordB (b :: r) := by simp only [List.length_take]; omega
  simp only [moreB] at g1 g2
  simp [hn1]
  refine CallK_of' (g1 _) ?_
  cases hlb : letterB b with
  | true =>
    rw [hlb, if_pos rfl] at hT
    simp
    refine CallK_of' (g3 _) ?_
    generalize hWd : (b :: r).take (runN Zam.wordB (b :: r)) = W at hT hrw
    generalize runN Zam.wordB (b :: r) = w at hT hrw hWd
    simp
    refine CallK_of' (hk W _) ?_
    by_cases hkW : W ∈ keysL
    · rw [if_pos hkW] at hT
      simp [hkW]
      exact hfin _ _ _ _ _ (n + w) _ rfl (by rw [hT]) (by simp [hT, hWd])
    · rw [if_neg hkW] at hT
      by_cases h40 : 40 < w
      · rw [if_pos h40] at hT
        have h40' : (40 : Int) < w := by omega
        simp [hkW, hrw, h40']
        exact hfin _ _ _ _ _ (n + w) _ rfl (by rw [hT]) (by simp [hT])
      · rw [if_neg h40] at hT
        have h40' : ¬ (40 : Int) < w := by omega
        simp [hkW, hrw, h40']
        exact hfin _ _ _ _ _ (n + w) _ rfl (by rw [hT]) (by simp [hT, hWd])
  | false =>
    rw [hlb] at hT
    simp only [Bool.false_eq_true, if_false] at hT
    simp
    refine CallK_of' (g2 _) ?_
    cases hdb : digitB b with
    | true =>
      rw [hdb, if_pos rfl] at hT
      simp
      refine CallK_of' (g3 _) ?_
      generalize hWd : (b :: r).take (runN Zam.wordB (b :: r)) = W at hT hrw
      generalize runN Zam.wordB (b :: r) = w at hT hrw hWd hrl
      simp
      refine CallD_of (hn W _ (hpre _ _) (by omega)) ?_
      cases hnu : numOk W with
      | true =>
        rw [hnu, if_pos rfl] at hT
        simp
        exact hfin _ _ _ _ _ (n + w) _ rfl (by rw [hT]) (by simp [hT, hWd])
      | false =>
        rw [hnu] at hT
        simp only [Bool.false_eq_true, if_false] at hT
        simp
        exact hfin _ _ _ _ _ (n + w) _ rfl (by rw [hT]) (by simp [hT])
    | false =>
      rw [hdb] at hT
      simp only [Bool.false_eq_true, if_false] at hT
      simp [hil, hil', hgi, hb, List.getElem_append_left]
      by_cases h34 : b = 34
      · rw [if_pos h34] at hT
        have h34' : (b.toNat : Int) = 34 := (byte_eq b 34).2 h34
        simp [h34']
        refine CallK_of (g4 _) ?_
        rintro x H1 ⟨k, rfl, rfl, hk2⟩
        have hst := strV_take (b :: r)
        have hse := strV_err (b :: r)
        generalize strV (b :: r) = SV at hT hk2 hst hse
        obtain ⟨S, e⟩ := SV
        simp only at hT hk2 hst hse
        simp
        rcases hse with rfl | rfl
        · simp only [if_true] at hT
          exact hfin _ _ _ _ _ k _ rfl (by rw [hT]) (by simp [hT, hst rfl, hk2 rfl])
        · simp at hT
          exact hfin _ _ _ _ _ k _ rfl (by rw [hT]) (by simp [hT])
      · rw [if_neg h34] at hT
        have h34' : ¬ (b.toNat : Int) = 34 := fun e => h34 ((byte_eq b 34).1 e)
        simp [h34']
        refine CallK_of' (g5 _) ?_
        have hgt := signV_take (b :: r)
        generalize signV (b :: r) = G at hT hgt
        by_cases hG : G = []
        · rw [if_pos hG] at hT
          simp [hG]
          exact hfin _ _ _ _ _ n _ rfl (by rw [hT]) (by simp [hT])
        · rw [if_neg hG] at hT
          simp [hG]
          exact hfin _ _ _ _ _ (n + G.length) _ rfl (by rw [hT]) (by simp [hT, hgt])

end
end Go.Zam

namespace Go.Zam
set_option linter.all false
set_option maxRecDepth 100000
set_option maxHeartbeats 1000000

/-- the character that a text begins with, how many bytes it has -/
def decU (s : Bs) : Nat × Nat := if s = [] then (65533, 0) else Lib.decodeN s.length (s.getD 0 0).toNat (s.getD 1 0).toNat (s.getD 2 0).toNat (s.getD 3 0).toNat

theorem decU_len {s : Bs} (h : s ≠ []) : 1 ≤ (decU s).2 ∧ (decU s).2 ≤ s.length := by
  have hl : 1 ≤ s.length := by cases s with
    | nil => exact absurd rfl h
    | cons a r => simp
  unfold decU
  rw [if_neg h]
  generalize (s.getD 0 0).toNat = b0
  generalize (s.getD 1 0).toNat = b1
  generalize (s.getD 2 0).toNat = b2
  generalize (s.getD 3 0).toNat = b3
  unfold Lib.decodeN
  (repeat' split) <;> simp only <;> omega

theorem decU_le (s : Bs) : (decU s).1 ≤ 4294967295 := by
  unfold decU
  split
  · simp
  · have := (s.getD 0 0).toNat_lt
    generalize (s.getD 0 0).toNat = b0 at *
    generalize (s.getD 1 0).toNat = b1
    generalize (s.getD 2 0).toNat = b2
    generalize (s.getD 3 0).toNat = b3
    unfold Lib.decodeN
    (repeat' split) <;> simp only <;> omega

def badF : Nat → Bs → Nat → Int
  | 0, _, _ => -1
  | f + 1, s, n => if s = [] then -1 else if decU s = (65533, 1) then n else badF f (s.drop (decU s).2) (n + (decU s).2)
/-- where a text isn't UTF-8; -1: nowhere -/
def badS (s : Bs) : Int := badF s.length s 0

theorem badF_fuel : ∀ (f g : Nat) (s : Bs) (n : Nat), s.length ≤ f → s.length ≤ g → badF f s n = badF g s n
  | 0, 0, s, n, _, _ => rfl
  | 0, g + 1, s, n, h, _ => by
    have : s = [] := List.eq_nil_of_length_eq_zero (by omega)
    simp [badF, this]
  | f + 1, 0, s, n, _, h => by
    have : s = [] := List.eq_nil_of_length_eq_zero (by omega)
    simp [badF, this]
  | f + 1, g + 1, s, n, h1, h2 => by
    by_cases hs : s = []
    · simp [badF, hs]
    · simp only [badF, hs, if_false]
      split
      · rfl
      · have := decU_len hs
        exact badF_fuel f g _ _ (by simp; omega) (by simp; omega)

def DecodeOk (P : Program) (H0 : Hp) (f : FuncId) : Prop := ∀ (s : Bs) H, Pre0 H0 H → ACall P f [.d (.str s)] H (fun r H' => r = .tup [.d (.int .i32 ((decU s).1 : Int)), .d (.int .i64 ((decU s).2 : Int))] ∧ H' = H)

section
variable {P : Program}

theorem Has.bad {H0 : Hp} {f fd} (h : Has P f (irRnBad fd)) (hd : DecodeOk P H0 fd) (s : Bs) (hl : s.length ≤ 1048576) (H : Hp) (hH : Pre0 H0 H) : ACall P f [.d (.str s)] H (fun r H' => r = .d (.int .i64 (badS s)) ∧ H' = H) := by
  obtain ⟨fn, hf, hcf⟩ := h
  refine acall_fin hf hcf (by simp [irRnBad]) fun hcl _ => ?_
  simp [irRnBad]
  refine LoopK_outR 0 (fun fr H' => badS s = -1 ∧ H' = H) (fun fr H' => fr 2 = .d (.int .i64 (badS s)) ∧ H' = H) ?_ ?_ ?_
  · refine LoopM_of H.length (fun d fr H' => ∃ n : Nat, d = s.length - n ∧ n ≤ s.length ∧ badS s = badF (s.length - n) (s.drop n) n ∧ fr 0 = .d (.str s) ∧ fr 3 = .d (.int .i64 (n : Int)) ∧ H' = H) (s.length - 0) (by simp) ⟨0, rfl, by omega, rfl, ?_⟩ ?_
    · simp [cut_self hcl]
    rintro d fr H' ⟨n, rfl, hn, hb, f0, f3, rfl⟩
    simp [f0, f3]
    refine BrK_split (fun hlt => ?_) (fun hlt => ?_)
    · have hlt : n < s.length := by simpa using hlt
      have hne : s.drop n ≠ [] := fun e => by have := List.drop_eq_nil_iff.1 e; omega
      have hds := hd (s.drop n) H' hH
      have hdl := decU_len hne
      have hdr : ∀ k, (s.drop n).drop k = s.drop (n + k) := fun k => List.drop_drop ..
      have hfl : s.length - n = (s.length - n - 1) + 1 := by omega
      rw [hfl, badF, if_neg hne] at hb
      simp only [List.length_drop] at hdl
      simp [f0, f3, sub_end hn]
      refine CallK_of' hds ?_
      simp only [hdr] at hb
      generalize decU (s.drop n) = D at hb hdl
      obtain ⟨R, W⟩ := D
      simp only at hb hdl
      have hwr : IntKind.i64.wrap ((n : Int) + W) = ((n + W : Nat) : Int) := by rw [wrap_i64 (by omega) (by omega)]; omega
      simp
      by_cases hR : R = 65533
      · have hR' : (R : Int) = 65533 := by omega
        by_cases hW : W = 1
        · have hW' : (W : Int) = 1 := by omega
          rw [if_pos (by rw [hR, hW])] at hb
          simp [hR', hW', f3, hb]
        · have hW' : ¬ (W : Int) = 1 := by omega
          rw [if_neg (by simp [hW])] at hb
          simp [hR', hW', f3, hwr]
          refine NextM_of H'.length (s.length - (n + W)) (Nat.le_refl _) (by simp) (by omega) ⟨n + W, rfl, by omega, ?_, ?_⟩
          · rw [hb]; exact badF_fuel _ _ _ _ (by simp; omega) (by simp)
          · simp [f0, cut_self hcl]
      · have hR' : ¬ (R : Int) = 65533 := by omega
        rw [if_neg (by simp [hR])] at hb
        simp [hR', f3, hwr]
        refine NextM_of H'.length (s.length - (n + W)) (Nat.le_refl _) (by simp) (by omega) ⟨n + W, rfl, by omega, ?_, ?_⟩
        · rw [hb]; exact badF_fuel _ _ _ _ (by simp; omega) (by simp)
        · simp [f0, cut_self hcl]
    · have hge : n = s.length := by have : ¬ (n < s.length) := by simpa using hlt
                                    omega
      have : badS s = -1 := by rw [hb, hge]; simp [badF]
      simp [this]
  · rintro fr H' ⟨f2, rfl⟩
    simp
    simp [RetK, cut_self hcl, f2]
  · rintro fr H' ⟨hb, rfl⟩
    simp
    simp [RetK, cut_self hcl, hb]

end

/-- a token -/
structure Tk where
  k : Int
  a : Nat
  l : Bs
  x : Bs
def encTk (t : Tk) : List D := [.int .i64 t.k, .int .i64 (t.a : Int), .str t.l, .str t.x]

def lexF : Nat → Bs → Nat → Nat → List Tk × Int × Int
  | 0, _, _, _ => ([], 0, 0)
  | f + 1, s, n, c =>
    if (tokN (s.drop (leadS false s))).1 ≠ 0 then ([], (tokN (s.drop (leadS false s))).1, ((n + leadS false s : Nat) : Int))
    else if 4000 ≤ c then ([], 5, ((n + leadS false s : Nat) : Int))
    else if (tokN (s.drop (leadS false s))).2.1 = 0 then ([⟨(tokN (s.drop (leadS false s))).2.1, n + leadS false s, s.take (leadS false s), (s.drop (leadS false s)).take (tokN (s.drop (leadS false s))).2.2⟩], 0, 0)
    else if (lexF f ((s.drop (leadS false s)).drop (tokN (s.drop (leadS false s))).2.2) (n + leadS false s + (tokN (s.drop (leadS false s))).2.2) (c + 1)).2.1 = 0 then
      (⟨(tokN (s.drop (leadS false s))).2.1, n + leadS false s, s.take (leadS false s), (s.drop (leadS false s)).take (tokN (s.drop (leadS false s))).2.2⟩ :: (lexF f ((s.drop (leadS false s)).drop (tokN (s.drop (leadS false s))).2.2) (n + leadS false s + (tokN (s.drop (leadS false s))).2.2) (c + 1)).1, 0, 0)
    else ([], (lexF f ((s.drop (leadS false s)).drop (tokN (s.drop (leadS false s))).2.2) (n + leadS false s + (tokN (s.drop (leadS false s))).2.2) (c + 1)).2)

/-- a text's tokens; or what is wrong, and where -/
def lexS (s : Bs) : List Tk × Int × Int := if 16384 < s.length then ([], 5, 16384) else if 0 ≤ badS s then ([], 20, badS s) else lexF (s.length + 1) s 0 0


theorem strV_len (s : Bs) : (strV s).2 = 0 → 2 ≤ (strV s).1.length := by
  unfold strV
  split
  · simp
  · rename_i k hk
    have := strS_le hk
    intro _
    simp only [List.length_take]
    simp only [List.length_drop] at this
    omega

theorem runN_pos {p : UInt8 → Bool} {b : UInt8} {r : Bs} (h : p b = true) : 1 ≤ runN p (b :: r) := by simp [runN, h]

theorem tokN_len : ∀ (s : Bs), (tokN s).2.2 ≤ s.length ∧ ((tokN s).1 = 0 → (tokN s).2.1 = 0 → s = []) ∧ ((tokN s).1 = 0 → s ≠ [] → 1 ≤ (tokN s).2.2) ∧ (s = [] → (tokN s).2.1 = 0)
  | [] => by simp [tokN]
  | b :: r => by
    have h1 := runN_le wordB (b :: r)
    have h2 := strV_take (b :: r)
    have h3 := signV_take (b :: r)
    have h4 := strV_len (b :: r)
    have h5 : letterB b = true → 1 ≤ runN wordB (b :: r) := fun h => runN_pos (by simp [wordB, h])
    have h6 : digitB b = true → 1 ≤ runN wordB (b :: r) := fun h => runN_pos (by simp [wordB, h])
    have h7 : (strV (b :: r)).2 = 0 → (strV (b :: r)).1.length ≤ (b :: r).length := fun h => by
      rw [← h2 h]; simp only [List.length_take]; omega
    have h8 : (signV (b :: r)).length ≤ (b :: r).length := by
      have := congrArg List.length h3
      simp only [List.length_take] at this
      omega
    have h9 : signV (b :: r) ≠ [] → 1 ≤ (signV (b :: r)).length := fun h => by
      cases hq : signV (b :: r) with
      | nil => exact absurd hq h
      | cons a t => simp
    rw [tokN]
    generalize runN wordB (b :: r) = w at *
    generalize strV (b :: r) = S at *
    generalize signV (b :: r) = G at *
    (repeat' split) <;> simp_all <;> omega

def combL (acc : List Tk) (r : List Tk × Int × Int) : List Tk × Int × Int := if r.2.1 = 0 then (acc ++ r.1, 0, 0) else ([], r.2)

theorem lexF_norm : ∀ (f : Nat) (s : Bs) (n c : Nat), ((lexF f s n c).2.1 = 0 → (lexF f s n c).2.2 = 0) ∧ ((lexF f s n c).2.1 ≠ 0 → (lexF f s n c).1 = [])
  | 0, s, n, c => by simp [lexF]
  | f + 1, s, n, c => by
    rw [lexF]
    split
    · rename_i h; exact ⟨fun e => absurd e h, fun _ => rfl⟩
    split
    · exact ⟨fun e => absurd e (by simp), fun _ => rfl⟩
    split
    · exact ⟨fun _ => rfl, fun e => absurd rfl e⟩
    split
    · exact ⟨fun _ => rfl, fun e => absurd rfl e⟩
    · rename_i h; exact ⟨fun e => absurd e h, fun _ => rfl⟩

theorem combL_nil (f : Nat) (s : Bs) (n c : Nat) : combL [] (lexF f s n c) = lexF f s n c := by
  obtain ⟨h1, h2⟩ := lexF_norm f s n c
  generalize lexF f s n c = R at h1 h2
  obtain ⟨l, e, a⟩ := R
  unfold combL
  split
  · rename_i h
    simp only at h h1
    simp [h, h1 h]
  · rename_i h
    simp only at h h2
    simp [h2 h]

theorem combL_snoc (acc : List Tk) (t : Tk) (R : List Tk × Int × Int) : combL (acc ++ [t]) R = combL acc (if R.2.1 = 0 then (t :: R.1, 0, 0) else ([], R.2)) := by
  unfold combL
  by_cases h : R.2.1 = 0 <;> simp [h]

section
variable {P : Program}

theorem HasT.lex {H0 : Hp} {f fb fl fn ts tt} (h : HasT P [7] f (irTkLex fb fl fn ts tt)) (hb : ∀ (s : Bs) H, s.length ≤ 1048576 → Pre0 H0 H → ACall P fb [.d (.str s)] H (fun r H' => r = .d (.int .i64 (badS s)) ∧ H' = H))
    (hl : ∀ {H : Hp} {i : Nat} {text : Bs} {n : Nat}, H[i]? = some (scan ts text n) → n ≤ text.length → text.length ≤ 1048576 → ACall P fl [.ptr i 0] H (fun r H' => r = .d (.str ((text.drop n).take (leadS false (text.drop n)))) ∧ H' = H.set i (scan ts text (n + leadS false (text.drop n)))))
    (hn : ∀ {H : Hp} {i : Nat} {text : Bs} {n : Nat}, Pre0 H0 H → H0.length ≤ i → H[i]? = some (scan ts text n) → n ≤ text.length → text.length ≤ 1048576 → ACall P fn [.ptr i 0] H (NextQ H i ts text n (text.drop n) (tokN (text.drop n))))
    (s : Bs) (hs : s.length ≤ 1048576) (H : Hp) (hH : Pre0 H0 H) :
    ACall P f [.d (.str s)] H (fun r H' => r = .tup [.d (.sl true 4 ((lexS s).1.map encTk)), .d (.int .i64 (lexS s).2.1), .d (.int .i64 (lexS s).2.2)] ∧ H' = H) := by
  obtain ⟨fnn, hf, hcf⟩ := h
  refine acall_fin hf hcf (by simp [irTkLex]) fun hcl _ => ?_
  by_cases h1 : 16384 < s.length
  case pos =>
    have h1' : (16384 : Int) < s.length := by omega
    simp [irTkLex, h1']
    simp [RetK, cut_self hcl, lexS, h1]
  have h1' : ¬ (16384 : Int) < s.length := by omega
  have hbs := hb s H hs hH
  have hL : lexS s = if 0 ≤ badS s then ([], 20, badS s) else lexF (s.length + 1) s 0 0 := by rw [lexS, if_neg h1]
  generalize lexS s = LS at hL
  generalize badS s = bs at hL hbs
  simp [irTkLex, h1']
  refine CallK_of' hbs ?_
  simp
  refine BrK_split (fun h2 => ?_) (fun h2 => ?_)
  · have h2 : 0 ≤ bs := by simpa using h2
    rw [if_pos h2] at hL
    subst hL
    simp
    simp [RetK, cut_self hcl]
  have h2 : ¬ 0 ≤ bs := by simpa using h2
  rw [if_neg h2] at hL
  simp
  have hH0 : H0.length ≤ H.length := by obtain ⟨X, rfl⟩ := hH; simp
  refine LoopM_of (H.length + 2) (fun d fr H' => ∃ (p : Nat) (acc : List Tk), p ≤ s.length ∧ s.length - p < d ∧ LS = combL acc (lexF d (s.drop p) p acc.length) ∧ acc.length ≤ 4000 ∧ fr 6 = .ptr H.length 0 ∧ fr 7 = .osl true 4 (acc.map encTk) (H.length + 1) ∧ H' = H ++ [scan ts s p, .tok acc.length 4 tt]) (s.length + 1) (by simp) ⟨0, [], by omega, by omega, ?_, by simp, ?_⟩ ?_
  · simp only [List.drop_zero, List.length_nil]
    rw [hL]
    exact (combL_nil _ _ _ _).symm
  · simp [cut_appk hcl, scan]
  rintro d fr H' ⟨p, acc, hp, hd, hLS, hacc, f6, f7, rfl⟩
  obtain ⟨d', rfl⟩ : ∃ d', d = d' + 1 := ⟨d - 1, by omega⟩
  have g1 := hl (H := H ++ [scan ts s p, .tok acc.length 4 tt]) (i := H.length) (text := s) (n := p) (by simp) hp hs
  simp at g1
  simp [f6]
  refine CallK_of' g1 ?_
  have hll := lead_le false (s.drop p)
  simp only [List.length_drop] at hll
  rw [lexF] at hLS
  simp only [drop_add'] at hLS
  have g2 := hn (H := H ++ [scan ts s (p + leadS false (s.drop p)), .tok acc.length 4 tt]) (i := H.length) (text := s) (n := p + leadS false (s.drop p)) (hH.app _) hH0 (by simp) (by omega) hs
  have htl := tokN_len (s.drop (p + leadS false (s.drop p)))
  have hdn : s.drop (p + leadS false (s.drop p)) ≠ [] → p + leadS false (s.drop p) < s.length := fun h => by
    rcases Nat.lt_or_ge (p + leadS false (s.drop p)) s.length with h' | h'
    · exact h'
    · exact absurd (List.drop_eq_nil_of_le h') h
  simp only [List.length_drop] at htl
  generalize leadS false (s.drop p) = n at hLS hll g2 htl hdn
  generalize tokN (s.drop (p + n)) = T at hLS g2 htl
  obtain ⟨e, k, m⟩ := T
  simp only at hLS htl
  obtain ⟨t1, t2, t3, t4⟩ := htl
  simp [f6, scan]
  simp [scan] at g2
  refine CallK_of g2 ?_
  rintro x H1 ⟨k', x', m', rfl, rfl, hx⟩
  simp only at hx
  simp
  by_cases he : e = 0
  case neg =>
    rw [if_pos he] at hLS
    simp [he]
    have : LS = ([], e, ((p + n : Nat) : Int)) := by rw [hLS]; simp [combL, he]
    simp [RetK, cut_app hcl, this]
  obtain ⟨rfl, rfl, rfl⟩ := hx he
  rw [if_neg (by simp [he])] at hLS
  subst he
  have hap : (acc.map encTk).length = acc.length := by simp
  simp [f7]
  by_cases h4 : 4000 ≤ acc.length
  case pos =>
    have h4' : (4000 : Int) ≤ acc.length := by omega
    rw [if_pos h4] at hLS
    have : LS = ([], 5, ((p + n : Nat) : Int)) := by rw [hLS]; simp [combL]
    simp [h4']
    simp [RetK, cut_app hcl, this]
  have h4' : ¬ (4000 : Int) ≤ acc.length := by omega
  rw [if_neg h4] at hLS
  simp [h4', f7, appA]
  rw [if_pos (by omega)]
  simp
  obtain ⟨t, ht⟩ : ∃ t : Tk, t = ⟨k', p + n, (s.drop p).take n, (s.drop (p + n)).take m⟩ := ⟨_, rfl⟩
  have hbt : acc.map encTk ++ [[.int .i64 k', .int .i64 ((p : Int) + n), .str ((s.drop p).take n), .str ((s.drop (p + n)).take m)]] = (acc ++ [t]).map encTk := by
    simp [encTk, ht]
  rw [← ht] at hLS
  by_cases hk : k' = 0
  · rw [if_pos hk] at hLS
    have hLS' : LS = (acc ++ [t], 0, 0) := by rw [hLS]; simp [combL]
    subst hk
    simp [hbt]
    simp [RetK, cut_app hcl, hLS']
  · rw [if_neg hk, ← combL_snoc] at hLS
    simp [hk, hbt]
    have hne : s.drop (p + n) ≠ [] := fun e => hk (t4 e)
    have hm1 := t3 rfl hne
    have hlt := hdn hne
    refine NextM_of (H.length + 2) d' (Nat.le_refl _) (by simp) (by omega) ⟨p + n + m, acc ++ [t], by omega, by omega, ?_, by simp; omega, ?_⟩
    · simpa using hLS
    · simp [f6, cut_appk hcl, scan]

end
end Go.Zam

namespace Go.Zam
set_option linter.all false
set_option maxRecDepth 100000
set_option maxHeartbeats 1000000

/-- the text of some tokens -/
def joinS (l : List Tk) : Bs := l.flatMap fun t => t.l ++ t.x

/-- strings.Builder's WriteString, at a program -/
def WriteSOk (P : Program) (f : FuncId) (bt : TypeId) : Prop := ∀ (H : Hp) (i t : Nat) (a : A) (bs s : List UInt8), H[i]? = some (.box bt [a, .osl true 1 (byteRows bs) t]) → (a = .d .nilp ∨ a = .ptr i 0) → H[t]? = some (.tok bs.length 1 5) → bs.length + s.length ≤ 140737488355328 →
    ACall P f [.ptr i 0, .d (.str s)] H (fun r H' => r = .tup [.d (.int .i64 s.length), .d .nili] ∧ H' = (H.set i (.box bt [.ptr i 0, .osl true 1 (byteRows (bs ++ s)) t])).set t (.tok (bs ++ s).length 1 5))

section
variable {P : Program}

theorem joinS_app (a b : List Tk) : joinS (a ++ b) = joinS a ++ joinS b := by simp [joinS]
theorem joinS_one (t : Tk) : joinS [t] = t.l ++ t.x := by simp [joinS]

theorem joinS_take (l : List Tk) (i : Nat) : (joinS (l.take i)).length ≤ (joinS l).length := by
  have : joinS l = joinS (l.take i) ++ joinS (l.drop i) := by
    rw [joinS, joinS, joinS, ← List.flatMap_append, List.take_append_drop]
  rw [this]; simp

theorem HasT.join {f fw fs bt tt} (h : HasT P [3] f (irTkJoin fw fs bt 5 tt)) (hw : WriteSOk P fw bt) (hs : StringOk P fs bt) (z : Bool) (l : List Tk) (hl : l.length ≤ 1048576) (hj : (joinS l).length ≤ 1048576) (H : Hp) :
    ACall P f [.d (.sl z 4 (l.map encTk))] H (fun r H' => r = .d (.str (joinS l)) ∧ H' = H) := by
  obtain ⟨fn, hf, hcf⟩ := h
  refine acall_fin hf hcf (by simp [irTkJoin]) fun hcl _ => ?_
  simp [irTkJoin]
  refine LoopK_outR 0 (fun fr H' => ∃ a, fr 3 = .ptr (H.length + 1) 0 ∧ H' = H ++ [.tok (joinS l).length 1 5, .box bt [a, .osl true 1 (byteRows (joinS l)) H.length]]) (fun _ _ => False) ?_ (fun _ _ h => h.elim) ?_
  · refine RangeK_of (H.length + 2) l.length (fun i fr H' => ∃ a, (a = .d .nilp ∨ a = .ptr (H.length + 1) 0) ∧ fr 3 = .ptr (H.length + 1) 0 ∧ fr 6 = .d (.sl z 4 (l.map encTk)) ∧ H' = H ++ [.tok (joinS (l.take i)).length 1 5, .box bt [a, .osl true 1 (byteRows (joinS (l.take i))) H.length]]) (by omega) (by decide) (by simp) (by simp) ?_ ?_ ?_
    · simp [cut_appk hcl, joinS, byteRows]
    · rintro i fr H' hi f8 f7 ⟨a, ha, f3, f6, rfl⟩
      have hr := rowAt_map encTk hi
      have ht : l.take (i + 1) = l.take i ++ [l[i]] := List.take_succ_eq_append_getElem hi
      have hjt : joinS (l.take (i + 1)) = joinS (l.take i) ++ (l[i].l ++ l[i].x) := by rw [ht, joinS_app, joinS_one]
      have hb := joinS_take l (i + 1)
      rw [hjt] at hb
      simp only [encTk] at hr
      generalize l[i] = t at hr ht hjt hb
      generalize joinS (l.take i) = X at hjt hb
      simp only [List.length_append] at hb
      have w1 := hw (H ++ [.tok X.length 1 5, .box bt [a, .osl true 1 (byteRows X) H.length], .box tt [.d (.int .i64 t.k), .d (.int .i64 (t.a : Int)), .d (.str t.l), .d (.str t.x)]]) (H.length + 1) H.length a X t.l (by simp) ha (by simp) (by omega)
      simp at w1
      have w2 := hw (H ++ [.tok (X.length + t.l.length) 1 5, .box bt [.ptr (H.length + 1) 0, .osl true 1 (byteRows (X ++ t.l)) H.length], .box tt [.d (.int .i64 t.k), .d (.int .i64 (t.a : Int)), .d (.str t.l), .d (.str t.x)]]) (H.length + 1) H.length (.ptr (H.length + 1) 0) (X ++ t.l) t.x (by simp) (.inr rfl) (by simp) (by simp; omega)
      simp at w2
      simp [f8, f6, f3, hr]
      refine CallK_of' w1 ?_
      simp [f3]
      refine CallK_of' w2 ?_
      simp
      refine NextK_of (H.length + 2) (by omega) (by simp [f8, f7]) ?_
      simp [f3, f6, cut_appk hcl, hjt]
    · rintro fr H' f8 f7 ⟨a, ha, f3, f6, rfl⟩
      simp [f3, List.take_of_length_le (Nat.le_refl _)]
  rintro fr H' ⟨a, f3, rfl⟩
  simp [f3]
  have w3 := hs (H ++ [.tok (joinS l).length 1 5, .box bt [a, .osl true 1 (byteRows (joinS l)) H.length]]) (H.length + 1) H.length a (joinS l) (by simp) (by simp) (by omega)
  refine CallK_of' w3 ?_
  simp
  simp [RetK, cut_app hcl]

theorem Tk.eq_iff (a b : Tk) : a = b ↔ a.k = b.k ∧ a.a = b.a ∧ a.l = b.l ∧ a.x = b.x := by
  cases a; cases b; simp

theorem Has.same4 {f} (h : Has P f irR4Same) (z y : Bool) (a b : List Tk) (ha : a.length ≤ 1048576) (H : Hp) :
    ACall P f [.d (.sl z 4 (a.map encTk)), .d (.sl y 4 (b.map encTk))] H (fun r H' => r = .d (.bool (@decide (a = b) (Classical.propDecidable _))) ∧ H' = H) := by
  obtain ⟨fn, hf, hcf⟩ := h
  refine acall_fin hf hcf (by simp [irR4Same]) fun hcl _ => ?_
  by_cases hl : a.length = b.length
  case neg =>
    have hne : ¬ a = b := fun e => hl (by rw [e])
    have hl' : ¬ ((a.length : Int) = b.length) := by omega
    simp [irR4Same, hl', hl]
    simp [RetK, cut_self hcl, hne]
  simp [irR4Same, hl]
  refine LoopK_outR 0 (fun fr H' => a = b ∧ H' = H) (fun fr H' => fr 4 = .d (.bool false) ∧ a ≠ b ∧ H' = H) ?_ ?_ ?_
  · refine ForK_of H.length a.length (fun i fr H' => fr 0 = .d (.sl z 4 (a.map encTk)) ∧ fr 1 = .d (.sl y 4 (b.map encTk)) ∧ a.take i = b.take i ∧ H' = H) (by omega) (by decide) (by simp) (by simp) ?_ ?_
    · simp [cut_self hcl]
    rintro i fr H' hi f5 ⟨f0, f1, he, rfl⟩
    simp [f5, f0]
    refine BrK_split (fun h => ?_) (fun h => ?_)
    · have hia : i < a.length := by simpa using h
      have hib : i < b.length := by omega
      have ra := rowAt_map encTk hia
      have rb := rowAt_map encTk hib
      have ta : a.take (i + 1) = a.take i ++ [a[i]] := List.take_succ_eq_append_getElem hia
      have tb : b.take (i + 1) = b.take i ++ [b[i]] := List.take_succ_eq_append_getElem hib
      have hne : a[i] ≠ b[i] → a ≠ b := fun h e => h (by subst e; rfl)
      have hq := Tk.eq_iff a[i] b[i]
      simp only [encTk] at ra rb
      generalize a[i] = u at ra ta hne hq
      generalize b[i] = w at rb tb hne hq
      simp [f0, f1, f5, ra, rb]
      have hD : eqDs [.int .i64 0, .int .i64 0, .str [], .str []] [.d (.int .i64 u.k), .d (.int .i64 (u.a : Int)), .d (.str u.l), .d (.str u.x)] [.d (.int .i64 w.k), .d (.int .i64 (w.a : Int)), .d (.str w.l), .d (.str w.x)] = some (@decide (u = w) (Classical.propDecidable _)) := by
        simp [eqDs, eqD]
        by_cases e : u = w
        · simp [e]
        · have : ¬ (u.k = w.k ∧ u.a = w.a ∧ u.l = w.l ∧ u.x = w.x) := fun q => e (hq.2 q)
          simp [e]
          intro a1 a2 a3 a4
          exact this ⟨a1, by omega, a3, a4⟩
      rw [hD]
      by_cases e : u = w
      · simp [e]
        refine NextF_of H'.length (Nat.le_refl _) hia (by simp [f5]) ?_
        simp [f0, f1, cut_self hcl, ta, tb, he, e]
      · simp [e]
        exact hne e
    · have hia : i = a.length := by have : ¬ i < a.length := by simpa using h
                                    omega
      rw [hia, List.take_of_length_le (Nat.le_refl _), hl, List.take_of_length_le (Nat.le_refl _)] at he
      simp [he]
  · rintro fr H' ⟨f4, hne, rfl⟩
    simp
    simp [RetK, cut_self hcl, f4, hne]
  · rintro fr H' ⟨he, rfl⟩
    simp
    simp [RetK, cut_self hcl, he]

end
end Go.Zam

namespace Go.Zam
open Go.RowKit (Below)
set_option linter.all false

/-- a heap whose first objects are the tables of UTF-8 and two errors -/
def TabsG (g3 g4 g0 g1 : Nat) (H0 : Hp) : Prop := ∀ w : World, (∀ (i : Nat) (g : Nat) (cs : List Value), H0[i]? = some (.glob g cs) → ∃ ty fr, w.heap[g]? = some (.cells cs.toArray ty fr)) →
  Lib.Utf8Tabs g3 g4 w ∧ (∃ te pe, w.cell? ⟨g0, 0, none⟩ = some (.iface te pe)) ∧ (∃ te pe, w.cell? ⟨g1, 0, none⟩ = some (.iface te pe))

theorem tabs_of {κ : K} {H H0 : Hp} {w : World} {g3 g4 g0 g1 : Nat} (hr : HR κ H w) (hp : Pre0 H0 H) (hG : TabsG g3 g4 g0 g1 H0) :
    Lib.Utf8Tabs g3 g4 w ∧ (∃ te pe, w.cell? ⟨g0, 0, none⟩ = some (.iface te pe)) ∧ (∃ te pe, w.cell? ⟨g1, 0, none⟩ = some (.iface te pe)) := by
  obtain ⟨X, rfl⟩ := hp
  refine hG w fun i g cs hi => ?_
  have hlt := (List.getElem?_eq_some_iff.1 hi).1
  obtain ⟨ty, fr, h⟩ := hr.ob i _ (by rw [List.getElem?_append_left hlt]; exact hi)
  exact ⟨ty, fr, by rw [hr.below.block g (Array.getElem?_eq_some_iff.1 h).1]; exact h⟩

/-- A LEAF that reads variables -/
theorem leafG {P : Program} {f : FuncId} {args : List D} {x : A} {H0 : Hp} {g3 g4 g0 g1 : Nat} (hG : TabsG g3 g4 g0 g1 H0)
    (h : ∀ (w : World) (σ : St) (vs : List Value), (Lib.Utf8Tabs g3 g4 w ∧ (∃ te pe, w.cell? ⟨g0, 0, none⟩ = some (.iface te pe)) ∧ (∃ te pe, w.cell? ⟨g1, 0, none⟩ = some (.iface te pe))) → vs.length = args.length → (∀ (i : Nat) (v : Value) (d : D), vs[i]? = some v → args[i]? = some d → DR σ v d) →
      Calls P f vs.toArray w fun e w' => ∃ v, e = .returned v ∧ Below w.heap.size w w' ∧ ∀ κ : K, VR κ v x) (H : Hp) (hp : Pre0 H0 H) : ACall P f (args.map .d) H (fun r H' => r = x ∧ H' = H) := by
  intro κ w vs hr hl hv
  refine (h w κ.σ vs (tabs_of hr hp hG) (by simpa using hl) (fun i v d hi hd => (hv i v (.d d) hi (by simp [hd])).d_inv)).mono ?_
  rintro e w' ⟨v, rfl, hb, hd⟩
  exact ⟨v, κ, _, H, rfl, K.le_refl κ, hr.later hb, hd κ, rfl, rfl⟩

/-- what Go's decoder hands back is what a text begins with -/
theorem decodeGo_eq (s : Bs) : Lib.decodeGo ⟨s.toArray⟩ = decU s := by
  unfold Lib.decodeGo decU
  have hsz : (⟨s.toArray⟩ : ByteArray).size = s.length := by simp [ByteArray.size]
  rw [hsz]
  by_cases h : s = []
  · simp [h]
  · have hl : ¬ s.length = 0 := fun e => h (List.eq_nil_of_length_eq_zero e)
    rw [if_neg hl, if_neg h, Lib.decode_at, hsz]
    have hg : ∀ i, (⟨s.toArray⟩ : ByteArray).get! i = s.getD i 0 := fun i => by
      show s.toArray[i]! = _
      by_cases hi : i < s.length
      · rw [getElem!_pos s.toArray i (by simpa using hi)]; simp [List.getD, hi]
      · rw [getElem!_neg s.toArray i (by simpa using hi)]; simp [List.getD, hi]; rfl
    simp only [hg, Nat.sub_zero, Nat.zero_add]

end Go.Zam

namespace Go.Zam
set_option linter.all false

theorem cells_of_cell {w : World} {g o : Nat} {v : Value} (h : w.cell? ⟨g, o, none⟩ = some v) : ∃ cs ty fr, w.heap[g]? = some (.cells cs ty fr) := by
  unfold World.cell? at h
  split at h
  · rename_i c t fr hb
    exact ⟨c, t, fr, hb⟩
  · cases h

theorem cell_same {w w' : World} {g o : Nat} {v : Value} {cs : Array Value} {ty ty' : TypeId} {fr fr' : Nat × Nat} (h : w.cell? ⟨g, o, none⟩ = some v) (h1 : w.heap[g]? = some (.cells cs ty fr)) (h2 : w'.heap[g]? = some (.cells cs ty' fr')) : w'.cell? ⟨g, o, none⟩ = some v := by
  unfold World.cell? at h ⊢
  rw [h1] at h
  rw [h2]
  exact h

theorem laid_heap {W : World} {g3 g4 g0 g1 : Nat} (hU : Lib.Utf8Tabs g3 g4 W) (h0 : ∃ te pe, W.cell? ⟨g0, 0, none⟩ = some (.iface te pe)) (h1 : ∃ te pe, W.cell? ⟨g1, 0, none⟩ = some (.iface te pe)) :
    ∃ H0, LaidOb W H0 ∧ TabsG g3 g4 g0 g1 H0 := by
  obtain ⟨u1, u2⟩ := hU
  obtain ⟨t0, p0, h0⟩ := h0
  obtain ⟨t1, p1, h1⟩ := h1
  obtain ⟨c3, y3, f3, b3⟩ := cells_of_cell (u1 0 (by omega))
  obtain ⟨c4, y4, f4, b4⟩ := cells_of_cell (u2 0 (by omega)).1
  obtain ⟨c0, y0, f0, b0⟩ := cells_of_cell h0
  obtain ⟨c1, y1, f1, b1⟩ := cells_of_cell h1
  refine ⟨[.glob g3 c3.toList, .glob g4 c4.toList, .glob g0 c0.toList, .glob g1 c1.toList], ?_, ?_⟩
  · intro i x hx
    match i with
    | 0 => simp at hx; subst hx; exact ⟨g3, _, y3, f3, rfl, by simpa using b3⟩
    | 1 => simp at hx; subst hx; exact ⟨g4, _, y4, f4, rfl, by simpa using b4⟩
    | 2 => simp at hx; subst hx; exact ⟨g0, _, y0, f0, rfl, by simpa using b0⟩
    | 3 => simp at hx; subst hx; exact ⟨g1, _, y1, f1, rfl, by simpa using b1⟩
    | i + 4 => simp at hx
  · intro w hw
    obtain ⟨y3', f3', b3'⟩ := hw 0 g3 _ rfl
    obtain ⟨y4', f4', b4'⟩ := hw 1 g4 _ rfl
    obtain ⟨y0', f0', b0'⟩ := hw 2 g0 _ rfl
    obtain ⟨y1', f1', b1'⟩ := hw 3 g1 _ rfl
    simp only [Array.toArray_toList] at b3' b4' b0' b1'
    refine ⟨⟨fun c hc => cell_same (u1 c hc) b3 b3', fun i hi => ⟨cell_same (u2 i hi).1 b4 b4', cell_same (u2 i hi).2 b4 b4'⟩⟩, ⟨t0, p0, cell_same h0 b0 b0'⟩, ⟨t1, p1, cell_same h1 b1 b1'⟩⟩

end Go.Zam

namespace Go.Proofs
open Go.Shelf
set_option maxRecDepth 100000
def Tryd.lays137_ren : Go.Shelf.Ren := ⟨fun | 137 => 46 | 217 => 55 | 266 => 59 | n => n, fun | 9 => 9 | 5 => 5 | 3 => 3 | n => n, fun | n => n⟩
theorem Tryd.lays137 : Go.Proofs.Lays.n137 Tryd.prog Tryd.lays137_ren := {
  mixed := by kernel_rfl
  f137 := Tryd.func46.trans (congrArg some (by kernel_rfl))
  f217 := Tryd.func55.trans (congrArg some (by kernel_rfl))
  f266 := Tryd.func59.trans (congrArg some (by kernel_rfl))
  t3 := Tryd.underlying3
  a3 := Tryd.isAgg3
  z3 := Tryd.sizeOf3
  v3 := Tryd.zeroValue3
  t5 := Tryd.underlying5
  a5 := Tryd.isAgg5
  z5 := Tryd.sizeOf5
  v5 := Tryd.zeroValue5
  t9 := Tryd.underlying9
  a9 := Tryd.isAgg9
  z9 := Tryd.sizeOf9
  v9 := Tryd.zeroValue9 }
open Go.RowKit in
theorem Tryd.strings_IndexByte (s : ByteArray) (c : Int) (w : World) :
    Calls Tryd.prog 46 #[.string s, .int .u8 c] w fun e w' => e = .returned (.int .i64 (Lib.indexByte s.data.toList c.toNat.toUInt8)) ∧ w' = w := Any.strings_IndexByte Tryd.lays137 s c w
def Tryd.laysPu14_ren : Go.Shelf.Ren := ⟨fun | 14 => 39 | 16 => 44 | 17 => 45 | 19 => 49 | 20 => 50 | 21 => 51 | 22 => 52 | 23 => 53 | 24 => 54 | 25 => 56 | 27 => 58 | 26 => 57 | 28 => 60 | 29 => 61 | 30 => 62 | 31 => 63 | 32 => 64 | 33 => 65 | 35 => 67 | 34 => 66 | 36 => 68 | 37 => 69 | 38 => 70 | 39 => 71 | 40 => 72 | n => n, fun | 9 => 9 | 3 => 3 | 22 => 62 | 24 => 51 | 25 => 63 | 4 => 4 | 34 => 76 | 5 => 5 | 36 => 69 | 37 => 47 | 0 => 0 | 39 => 78 | 21 => 21 | 44 => 83 | 47 => 61 | 50 => 88 | 48 => 86 | 2 => 2 | 52 => 90 | 55 => 93 | 59 => 97 | 60 => 98 | 20 => 20 | 61 => 99 | 65 => 103 | 66 => 104 | 67 => 39 | n => n, fun | 0 => 2 | 1 => 3 | 2 => 5 | 3 => 6 | 4 => 7 | n => n⟩
theorem Tryd.laysPu14 : Go.Proofs.LaysPu.n14 Tryd.prog Tryd.laysPu14_ren := {
  mixed := by kernel_rfl
  f14 := Tryd.func39.trans (congrArg some (by kernel_rfl))
  f16 := Tryd.func44.trans (congrArg some (by kernel_rfl))
  f17 := Tryd.func45.trans (congrArg some (by kernel_rfl))
  f19 := Tryd.func49.trans (congrArg some (by kernel_rfl))
  f20 := Tryd.func50.trans (congrArg some (by kernel_rfl))
  f21 := Tryd.func51.trans (congrArg some (by kernel_rfl))
  f22 := Tryd.func52.trans (congrArg some (by kernel_rfl))
  f23 := Tryd.func53.trans (congrArg some (by kernel_rfl))
  f24 := Tryd.func54.trans (congrArg some (by kernel_rfl))
  f25 := Tryd.func56.trans (congrArg some (by kernel_rfl))
  f26 := Tryd.func57.trans (congrArg some (by kernel_rfl))
  f27 := Tryd.func58.trans (congrArg some (by kernel_rfl))
  f28 := Tryd.func60.trans (congrArg some (by kernel_rfl))
  f29 := Tryd.func61.trans (congrArg some (by kernel_rfl))
  f30 := Tryd.func62.trans (congrArg some (by kernel_rfl))
  f31 := Tryd.func63.trans (congrArg some (by kernel_rfl))
  f32 := Tryd.func64.trans (congrArg some (by kernel_rfl))
  f33 := Tryd.func65.trans (congrArg some (by kernel_rfl))
  f34 := Tryd.func66.trans (congrArg some (by kernel_rfl))
  f35 := Tryd.func67.trans (congrArg some (by kernel_rfl))
  f36 := Tryd.func68.trans (congrArg some (by kernel_rfl))
  f37 := Tryd.func69.trans (congrArg some (by kernel_rfl))
  f38 := Tryd.func70.trans (congrArg some (by kernel_rfl))
  f39 := Tryd.func71.trans (congrArg some (by kernel_rfl))
  f40 := Tryd.func72.trans (congrArg some (by kernel_rfl))
  t0 := Tryd.underlying0
  a0 := Tryd.isAgg0
  z0 := Tryd.sizeOf0
  v0 := Tryd.zeroValue0
  i0 := by kernel_rfl
  t2 := Tryd.underlying2
  a2 := Tryd.isAgg2
  z2 := Tryd.sizeOf2
  v2 := Tryd.zeroValue2
  i2 := by kernel_rfl
  t3 := Tryd.underlying3
  a3 := Tryd.isAgg3
  z3 := Tryd.sizeOf3
  v3 := Tryd.zeroValue3
  i3 := by kernel_rfl
  t4 := Tryd.underlying4
  a4 := Tryd.isAgg4
  z4 := Tryd.sizeOf4
  v4 := Tryd.zeroValue4
  i4 := by kernel_rfl
  t5 := Tryd.underlying5
  a5 := Tryd.isAgg5
  z5 := Tryd.sizeOf5
  v5 := Tryd.zeroValue5
  i5 := by kernel_rfl
  t9 := Tryd.underlying9
  a9 := Tryd.isAgg9
  z9 := Tryd.sizeOf9
  v9 := Tryd.zeroValue9
  i9 := by kernel_rfl
  t20 := Tryd.underlying20
  a20 := Tryd.isAgg20
  z20 := Tryd.sizeOf20
  v20 := Tryd.zeroValue20
  i20 := by kernel_rfl
  t21 := Tryd.underlying21
  a21 := Tryd.isAgg21
  z21 := Tryd.sizeOf21
  v21 := Tryd.zeroValue21
  i21 := by kernel_rfl
  t22 := Tryd.underlying62
  a22 := Tryd.isAgg62
  z22 := Tryd.sizeOf62
  v22 := Tryd.zeroValue62
  i22 := by kernel_rfl
  t24 := Tryd.underlying51
  a24 := Tryd.isAgg51
  z24 := Tryd.sizeOf51
  v24 := Tryd.zeroValue51
  i24 := by kernel_rfl
  t25 := Tryd.underlying63
  a25 := Tryd.isAgg63
  z25 := Tryd.sizeOf63
  v25 := Tryd.zeroValue63
  i25 := by kernel_rfl
  t34 := Tryd.underlying76
  a34 := Tryd.isAgg76
  z34 := Tryd.sizeOf76
  v34 := Tryd.zeroValue76
  i34 := by kernel_rfl
  c34 := by kernel_rfl
  t36 := Tryd.underlying69
  a36 := Tryd.isAgg69
  z36 := Tryd.sizeOf69
  v36 := Tryd.zeroValue69
  i36 := by kernel_rfl
  t37 := Tryd.underlying47
  a37 := Tryd.isAgg47
  z37 := Tryd.sizeOf47
  v37 := Tryd.zeroValue47
  i37 := by kernel_rfl
  t39 := Tryd.underlying78
  a39 := Tryd.isAgg78
  z39 := Tryd.sizeOf78
  v39 := Tryd.zeroValue78
  i39 := by kernel_rfl
  t44 := Tryd.underlying83
  a44 := Tryd.isAgg83
  z44 := Tryd.sizeOf83
  v44 := Tryd.zeroValue83
  i44 := by kernel_rfl
  t47 := Tryd.underlying61
  a47 := Tryd.isAgg61
  z47 := Tryd.sizeOf61
  v47 := Tryd.zeroValue61
  i47 := by kernel_rfl
  t48 := Tryd.underlying86
  a48 := Tryd.isAgg86
  z48 := Tryd.sizeOf86
  v48 := Tryd.zeroValue86
  i48 := by kernel_rfl
  t50 := Tryd.underlying88
  a50 := Tryd.isAgg88
  z50 := Tryd.sizeOf88
  v50 := Tryd.zeroValue88
  i50 := by kernel_rfl
  t52 := Tryd.underlying90
  a52 := Tryd.isAgg90
  z52 := Tryd.sizeOf90
  v52 := Tryd.zeroValue90
  i52 := by kernel_rfl
  t55 := Tryd.underlying93
  a55 := Tryd.isAgg93
  z55 := Tryd.sizeOf93
  v55 := Tryd.zeroValue93
  i55 := by kernel_rfl
  t59 := Tryd.underlying97
  a59 := Tryd.isAgg97
  z59 := Tryd.sizeOf97
  v59 := Tryd.zeroValue97
  i59 := by kernel_rfl
  t60 := Tryd.underlying98
  a60 := Tryd.isAgg98
  z60 := Tryd.sizeOf98
  v60 := Tryd.zeroValue98
  i60 := by kernel_rfl
  t61 := Tryd.underlying99
  a61 := Tryd.isAgg99
  z61 := Tryd.sizeOf99
  t65 := Tryd.underlying103
  a65 := Tryd.isAgg103
  z65 := Tryd.sizeOf103
  v65 := Tryd.zeroValue103
  i65 := by kernel_rfl
  t66 := Tryd.underlying104
  a66 := Tryd.isAgg104
  z66 := Tryd.sizeOf104
  v66 := Tryd.zeroValue104
  i66 := by kernel_rfl
  t67 := Tryd.underlying39
  a67 := Tryd.isAgg39
  z67 := Tryd.sizeOf39
  v67 := Tryd.zeroValue39
  i67 := by kernel_rfl
  g0 := by kernel_rfl
  m0 := by kernel_rfl
  g1 := by kernel_rfl
  m1 := by kernel_rfl
  g2 := by kernel_rfl
  m2 := by kernel_rfl
  g3 := by kernel_rfl
  m3 := by kernel_rfl
  g4 := by kernel_rfl
  m4 := by kernel_rfl }
def Tryd.lays99_ren : Go.Shelf.Ren := ⟨fun | 99 => 42 | 206 => 48 | n => n, fun | 9 => 9 | 4 => 4 | 3 => 3 | n => n, fun | n => n⟩
theorem Tryd.lays99 : Go.Proofs.Lays.n99 Tryd.prog Tryd.lays99_ren := {
  mixed := by kernel_rfl
  f99 := Tryd.func42.trans (congrArg some (by kernel_rfl))
  f206 := Tryd.func48.trans (congrArg some (by kernel_rfl))
  t3 := Tryd.underlying3
  a3 := Tryd.isAgg3
  z3 := Tryd.sizeOf3
  v3 := Tryd.zeroValue3
  t4 := Tryd.underlying4
  a4 := Tryd.isAgg4
  z4 := Tryd.sizeOf4
  v4 := Tryd.zeroValue4
  t9 := Tryd.underlying9
  a9 := Tryd.isAgg9
  z9 := Tryd.sizeOf9
  v9 := Tryd.zeroValue9 }
open Go.RowKit Go.Lib in
theorem Tryd.strings_HasPrefix (s p : ByteArray) (w : World) :
    Calls Tryd.prog 42 #[.string s, .string p] w fun e w' => e = .returned (.bool (Lib.hasPrefix s.data.toList p.data.toList)) ∧ w' = w := Any.strings_HasPrefix Tryd.lays99 s p w
def Tryd.lays197_ren : Go.Shelf.Ren := ⟨fun | 197 => 26 | 260 => 37 | n => n, fun | 9 => 9 | 21 => 21 | 3 => 3 | 4 => 4 | 5 => 5 | 105 => 54 | 119 => 68 | 0 => 0 | 46 => 69 | 139 => 72 | 138 => 71 | n => n, fun | 3 => 0 | 4 => 1 | n => n⟩
theorem Tryd.lays197 : Go.Proofs.Lays.n197 Tryd.prog Tryd.lays197_ren := {
  mixed := by kernel_rfl
  f197 := Tryd.func26.trans (congrArg some (by kernel_rfl))
  f260 := Tryd.func37.trans (congrArg some (by kernel_rfl))
  t0 := Tryd.underlying0
  a0 := Tryd.isAgg0
  z0 := Tryd.sizeOf0
  v0 := Tryd.zeroValue0
  t3 := Tryd.underlying3
  a3 := Tryd.isAgg3
  z3 := Tryd.sizeOf3
  v3 := Tryd.zeroValue3
  t4 := Tryd.underlying4
  a4 := Tryd.isAgg4
  z4 := Tryd.sizeOf4
  v4 := Tryd.zeroValue4
  t5 := Tryd.underlying5
  a5 := Tryd.isAgg5
  z5 := Tryd.sizeOf5
  v5 := Tryd.zeroValue5
  t9 := Tryd.underlying9
  a9 := Tryd.isAgg9
  z9 := Tryd.sizeOf9
  v9 := Tryd.zeroValue9
  t21 := Tryd.underlying21
  a21 := Tryd.isAgg21
  z21 := Tryd.sizeOf21
  v21 := Tryd.zeroValue21
  t46 := Tryd.underlying69
  a46 := Tryd.isAgg69
  z46 := Tryd.sizeOf69
  v46 := Tryd.zeroValue69
  t105 := Tryd.underlying54
  a105 := Tryd.isAgg54
  z105 := Tryd.sizeOf54
  v105 := Tryd.zeroValue54
  t119 := Tryd.underlying68
  a119 := Tryd.isAgg68
  z119 := Tryd.sizeOf68
  t138 := Tryd.underlying71
  a138 := Tryd.isAgg71
  z138 := Tryd.sizeOf71
  v138 := Tryd.zeroValue71
  t139 := Tryd.underlying72
  a139 := Tryd.isAgg72
  z139 := Tryd.sizeOf72
  v139 := Tryd.zeroValue72
  g3 := by kernel_rfl
  g4 := by kernel_rfl }
def Tryd.lays260_ren : Go.Shelf.Ren := ⟨fun | 260 => 37 | n => n, fun | 9 => 9 | 21 => 21 | 3 => 3 | 4 => 4 | 5 => 5 | 119 => 68 | 0 => 0 | 46 => 69 | 139 => 72 | 138 => 71 | n => n, fun | 3 => 0 | 4 => 1 | n => n⟩
theorem Tryd.lays260 : Go.Proofs.Lays.n260 Tryd.prog Tryd.lays260_ren := {
  mixed := by kernel_rfl
  f260 := Tryd.func37.trans (congrArg some (by kernel_rfl))
  t0 := Tryd.underlying0
  a0 := Tryd.isAgg0
  z0 := Tryd.sizeOf0
  v0 := Tryd.zeroValue0
  t3 := Tryd.underlying3
  a3 := Tryd.isAgg3
  z3 := Tryd.sizeOf3
  v3 := Tryd.zeroValue3
  t4 := Tryd.underlying4
  a4 := Tryd.isAgg4
  z4 := Tryd.sizeOf4
  v4 := Tryd.zeroValue4
  t5 := Tryd.underlying5
  a5 := Tryd.isAgg5
  z5 := Tryd.sizeOf5
  v5 := Tryd.zeroValue5
  t9 := Tryd.underlying9
  a9 := Tryd.isAgg9
  z9 := Tryd.sizeOf9
  v9 := Tryd.zeroValue9
  t21 := Tryd.underlying21
  a21 := Tryd.isAgg21
  z21 := Tryd.sizeOf21
  v21 := Tryd.zeroValue21
  t46 := Tryd.underlying69
  a46 := Tryd.isAgg69
  z46 := Tryd.sizeOf69
  v46 := Tryd.zeroValue69
  t119 := Tryd.underlying68
  a119 := Tryd.isAgg68
  z119 := Tryd.sizeOf68
  t138 := Tryd.underlying71
  a138 := Tryd.isAgg71
  z138 := Tryd.sizeOf71
  v138 := Tryd.zeroValue71
  t139 := Tryd.underlying72
  a139 := Tryd.isAgg72
  z139 := Tryd.sizeOf72
  v139 := Tryd.zeroValue72
  g3 := by kernel_rfl
  g4 := by kernel_rfl }
open Go.RowKit Go.Lib in
theorem Tryd.utf8_DecodeRuneInString (s : ByteArray) (w : World) (hT : Lib.Utf8Tabs 0 1 w) :
    Calls Tryd.prog 26 #[.string s] w fun e w' => e = .returned (.tuple #[.int .i32 (Lib.decodeGo s).1, .int .i64 (Lib.decodeGo s).2]) ∧ Below w.heap.size w w' := Any.utf8_DecodeRuneInString Tryd.lays197 s w hT
end Go.Proofs

namespace Go.Proofs.YtnfdpoaoijpjiaaDoor
open Go Go.Zam
open Go.ChangeShapes Go.WideShapes Go.ChangeAt Go.RowKit
set_option linter.all false

theorem isBulk (H : Type) : IsBulk (X := H) Rows.uptoBulk Rows.uptoBulkAll where
  str := fun b => by simp [Rows.uptoBulk]
  bool := fun b => by simp [Rows.uptoBulk]
  int := fun k n => by simp [Rows.uptoBulk]
  nil := by simp [Rows.uptoBulk]
  slice := fun e s => by simp only [Rows.uptoBulk]; omega
  agg := fun p => by simp only [Rows.uptoBulk]; omega
  cons := fun d r => by simp only [Rows.uptoBulkAll]; omega

theorem own : ownKnob Tryd.prog.godebug = none := by kernel_rfl
theorem laidOut : laidOutB Tryd.prog = true := by kernel_rfl

/-- a datum's cells, where it is data -/
def litCell : DataW Unit → Value
  | .lit (.int k n) => .int k n
  | _ => .tuple #[]
def litCells : DataW Unit → List Value
  | .agg l => l.map litCell
  | x => [litCell x]
def tabCells : DataW Unit → Array Value
  | .agg l => (l.flatMap litCells).toArray
  | _ => #[]
def put (g : Nat) (cs : Array Value) (h : Array Obj) : Array Obj := h.modify g fun
  | .cells _ t frozen => .cells cs t frozen
  | o => o

/-- a world for the witness: the settled one, the variables as their initialisers lay them -/
noncomputable def laidWorld (os : Os) : World :=
  let w0 := World.holding Tryd.prog os ⟨#[.cells #[.string ⟨#[118, 97, 108, 117, 101, 32, 111, 117, 116, 32, 111, 102, 32, 114, 97, 110, 103, 101]⟩] 88, .cells #[.string ⟨#[105, 110, 118, 97, 108, 105, 100, 32, 115, 121, 110, 116, 97, 120]⟩] 88], #[], []⟩
  let N := (World.settled Tryd.prog os).heap.size
  { w0 with heap := put 3 #[.iface 86 (.pointer (some ⟨N, 0, none⟩))] (put 2 #[.iface 86 (.pointer (some ⟨N + 1, 0, none⟩))] (put 0 (tabCells Rows.laid_unicode_utf8_first) (put 1 (tabCells Rows.laid_unicode_utf8_acceptRanges)
      (put 7 (tabCells Rows.laid_math_bits_deBruijn64tab) (put 6 (tabCells Rows.laid_math_bits_deBruijn32tab) (put 5 (tabCells Rows.laid_internal_strconv_uint64pow10) w0.heap)))))) }

theorem star : "*" ++ "errors.errorString" = "*errors.errorString" := by decide
theorem row86 (u : TypeId) (h : Tryd.prog.typeName? 3 u = some "*errors.errorString") : u = 86 :=
  typeName_ptr_named (nm := "errors.errorString") (by rw [star]; kernel_rfl) (by kernel_rfl) (by decide) u (by rw [star]; exact h)

theorem laidOb {W : World} (h : laidMetH Tryd.prog Rows.tokenAgainUptoRow.laid W) : ∃ H0, LaidOb W H0 ∧ TabsG 0 1 2 3 H0 := by
  have h' : laidMet Tryd.prog Rows.tokenAgainUptoRow.laid W := by
    rw [MakeChecks.laidMetH_plain _ _ _ (by kernel_rfl)] at h
    exact h
  have e1 : Rows.laid_unicode_utf8_first = Lib.firstData := by kernel_rfl
  have e2 : Rows.laid_unicode_utf8_acceptRanges = Lib.acceptData := by kernel_rfl
  have hU : Lib.Utf8Tabs 0 1 W :=
    utf8Tabs_of_reads (ρ := Tryd.lays260_ren) { Tryd.lays260 with } ⟨by kernel_rfl, by kernel_rfl, by kernel_rfl, by kernel_rfl, by kernel_rfl, by kernel_rfl, by kernel_rfl⟩
      (e1 ▸ Lib.laidMet.reads h' (.tail _ (.tail _ (.tail _ (.tail _ (.tail _ (.tail _ (.head _)))))))) (e2 ▸ Lib.laidMet.reads h' (.tail _ (.tail _ (.tail _ (.head _)))))
  obtain ⟨a1, t1, hv1, -⟩ := laid_sentinel (g := 3) h'.tail.tail.tail.tail (by kernel_rfl) (by kernel_rfl) Tryd.underlying51 row86 Tryd.underlying86 Tryd.underlying88 rfl rfl Tryd.underlying9 (by kernel_rfl) (by kernel_rfl)
  obtain ⟨a0, t0, hv0, -⟩ := laid_sentinel (g := 2) h'.tail.tail.tail.tail.tail (by kernel_rfl) (by kernel_rfl) Tryd.underlying51 row86 Tryd.underlying86 Tryd.underlying88 rfl rfl Tryd.underlying9 (by kernel_rfl) (by kernel_rfl)
  exact laid_heap hU ⟨_, _, by rw [World.var?_cell (show Tryd.prog.globalNamed "strconv.ErrSyntax" = some 2 by kernel_rfl) hv0 0]; rfl⟩ ⟨_, _, by rw [World.var?_cell (show Tryd.prog.globalNamed "strconv.ErrRange" = some 3 by kernel_rfl) hv1 0]; rfl⟩

theorem met (os : Os) (args : Array Value) : laidMet Tryd.prog Rows.tokenAgainUptoRow.laid ((laidWorld os).forCall (fun _ _ => 0) ⟨#[], args, []⟩).memory := laidMet_of_run' 8 (by kernel_rfl) (by kernel_rfl)

theorem arg_str {n : Nat} {ds : List D} {a : A} (h : Typed Tryd.prog n 9 ds) (ha : ArgOf Tryd.prog 9 ds a) : ∃ s : List UInt8, a = .d (.str s) ∧ s.length ≤ D.bulkC ds := by
  obtain ⟨x, rfl⟩ := typed_str Tryd.underlying9 h
  exact ⟨x, argOf_one (by rw [Tryd.underlying9]; simp) ha, by simp only [D.bulkC, D.bulk]; omega⟩

theorem arg_u16 {n : Nat} {ds : List D} {a : A} (h : Typed Tryd.prog n 32 ds) (ha : ArgOf Tryd.prog 32 ds a) : ∃ k : Nat, a = .d (.int .u16 (k : Int)) ∧ k ≤ 65535 := by
  cases n with
  | zero => exact h.elim
  | succ n =>
    simp only [Typed, Tryd.underlying32] at h
    obtain ⟨x, rfl, hw⟩ := h
    simp only [Lit.wf, IntKind.min, IntKind.max, IntKind.bits, IntKind.signed] at hw
    simp at hw
    refine ⟨x.toNat, ?_, by omega⟩
    have e : ((x.toNat : Nat) : Int) = x := by omega
    rw [e]
    exact argOf_one (by rw [Tryd.underlying32]; simp) ha

end Go.Proofs.YtnfdpoaoijpjiaaDoor

namespace Go.Zam
set_option linter.all false
set_option maxRecDepth 100000
set_option maxHeartbeats 2000000

inductive Utf : Bs → Prop
  | nil : Utf []
  | step {s : Bs} (h : s ≠ []) (hd : decU s ≠ (65533, 1)) (hr : Utf (s.drop (decU s).2)) : Utf s

theorem badF_ge : ∀ (f : Nat) (s : Bs) (n : Nat), badF f s n = -1 ∨ 0 ≤ badF f s n
  | 0, _, _ => .inl rfl
  | f + 1, s, n => by
    rw [badF]
    split
    · exact .inl rfl
    · split
      · exact .inr (by omega)
      · exact badF_ge f _ _

theorem badF_utf : ∀ (f : Nat) (s : Bs) (n : Nat), s.length ≤ f → (badF f s n = -1 ↔ Utf s)
  | 0, s, n, h => by
    have : s = [] := List.eq_nil_of_length_eq_zero (by omega)
    subst this
    exact ⟨fun _ => .nil, fun _ => rfl⟩
  | f + 1, s, n, h => by
    rw [badF]
    by_cases hs : s = []
    · rw [if_pos hs]; subst hs; exact ⟨fun _ => .nil, fun _ => rfl⟩
    rw [if_neg hs]
    by_cases hd : decU s = (65533, 1)
    · rw [if_pos hd]
      constructor
      · intro e; omega
      · intro hu
        cases hu with
        | nil => exact absurd rfl hs
        | step _ h2 _ => exact absurd hd h2
    · rw [if_neg hd]
      have hl := decU_len hs
      rw [badF_utf f _ _ (by simp; omega)]
      constructor
      · exact fun h => .step hs hd h
      · intro hu
        cases hu with
        | nil => exact absurd rfl hs
        | step _ _ h3 => exact h3

theorem badS_utf (s : Bs) : ¬ 0 ≤ badS s ↔ Utf s := by
  rw [← badF_utf s.length s 0 (Nat.le_refl _)]
  have := badF_ge s.length s 0
  unfold badS
  omega

theorem decodeN_w (n b0 b1 b2 b3 : Nat) (hn : 1 ≤ n) : Lib.decodeN n b0 b1 b2 b3 = (65533, 1) ∨ ((Lib.decodeN n b0 b1 b2 b3).2 = 1 ∧ b0 < 128) ∨ ((Lib.decodeN n b0 b1 b2 b3).2 = 2 ∧ 2 ≤ n ∧ 128 ≤ b0 ∧ 128 ≤ b1) ∨ ((Lib.decodeN n b0 b1 b2 b3).2 = 3 ∧ 3 ≤ n ∧ 128 ≤ b0 ∧ 128 ≤ b1 ∧ 128 ≤ b2) ∨ ((Lib.decodeN n b0 b1 b2 b3).2 = 4 ∧ 4 ≤ n ∧ 128 ≤ b0 ∧ 128 ≤ b1 ∧ 128 ≤ b2 ∧ 128 ≤ b3) := by
  unfold Lib.decodeN
  (repeat' split) <;> simp <;> omega

theorem decodeN_1 (n n' b0 b1 b2 b3 c1 c2 c3 : Nat) (h : b0 < 128) : Lib.decodeN n' b0 c1 c2 c3 = Lib.decodeN n b0 b1 b2 b3 := by simp [Lib.decodeN, h]
theorem decodeN_2 (n n' b0 b1 b2 b3 c2 c3 : Nat) (hn : 2 ≤ n) (hn' : 2 ≤ n') (h : (Lib.decodeN n b0 b1 b2 b3).2 = 2) : Lib.decodeN n' b0 b1 c2 c3 = Lib.decodeN n b0 b1 b2 b3 := by
  unfold Lib.decodeN at *
  (repeat' split at h) <;> simp only at h <;> try omega
  all_goals (repeat' split) <;> first | rfl | (exfalso; omega)
theorem decodeN_3 (n n' b0 b1 b2 b3 c3 : Nat) (hn : 3 ≤ n) (hn' : 3 ≤ n') (h : (Lib.decodeN n b0 b1 b2 b3).2 = 3) : Lib.decodeN n' b0 b1 b2 c3 = Lib.decodeN n b0 b1 b2 b3 := by
  unfold Lib.decodeN at *
  (repeat' split at h) <;> simp only at h <;> try omega
  all_goals (repeat' split) <;> first | rfl | (exfalso; omega)
theorem decodeN_4 (n n' b0 b1 b2 b3 : Nat) (hn : 4 ≤ n) (hn' : 4 ≤ n') (h : (Lib.decodeN n b0 b1 b2 b3).2 = 4) : Lib.decodeN n' b0 b1 b2 b3 = Lib.decodeN n b0 b1 b2 b3 := by
  unfold Lib.decodeN at *
  (repeat' split at h) <;> simp only at h <;> try omega
  all_goals (repeat' split) <;> first | rfl | (exfalso; omega)

theorem getD_take_app (s r : Bs) (w i : Nat) (h : i < w) (hw : w ≤ s.length) : (s.take w ++ r).getD i 0 = s.getD i 0 := by
  have h1 : i < s.length := by omega
  simp [List.getD, List.getElem?_append, h, h1, Nat.min_eq_left hw]

theorem decU_ne {s : Bs} (h : s ≠ []) : decU s = Lib.decodeN s.length (s.getD 0 0).toNat (s.getD 1 0).toNat (s.getD 2 0).toNat (s.getD 3 0).toNat := by unfold decU; rw [if_neg h]

theorem Utf.inv {s : Bs} (hu : Utf s) (h : s ≠ []) : decU s ≠ (65533, 1) ∧ Utf (s.drop (decU s).2) := by
  cases hu with
  | nil => exact absurd rfl h
  | step h1 h2 h3 => exact ⟨h2, h3⟩

/-- a character stays what it is, whatever follows -/
theorem decU_loc {s : Bs} (hs : s ≠ []) (hd : decU s ≠ (65533, 1)) (r : Bs) : decU (s.take (decU s).2 ++ r) = decU s ∧ (2 ≤ (decU s).2 → ∀ i, i < (decU s).2 → 128 ≤ (s.getD i 0).toNat) := by
  have hl := decU_len hs
  have hn : 1 ≤ s.length := by omega
  have hE : decU s = Lib.decodeN s.length (s.getD 0 0).toNat (s.getD 1 0).toNat (s.getD 2 0).toNat (s.getD 3 0).toNat := decU_ne hs
  have hne : s.take (decU s).2 ++ r ≠ [] := fun e => by
    have := congrArg List.length e
    simp only [List.length_append, List.length_take, List.length_nil] at this
    omega
  have hlen : (s.take (decU s).2 ++ r).length = (decU s).2 + r.length := by simp only [List.length_append, List.length_take]; omega
  have hF : decU (s.take (decU s).2 ++ r) = Lib.decodeN ((decU s).2 + r.length) ((s.take (decU s).2 ++ r).getD 0 0).toNat ((s.take (decU s).2 ++ r).getD 1 0).toNat ((s.take (decU s).2 ++ r).getD 2 0).toNat ((s.take (decU s).2 ++ r).getD 3 0).toNat := by
    rw [← hlen]; exact decU_ne hne
  have hg := fun i h => getD_take_app s r (decU s).2 i h hl.2
  rw [hF]
  rw [hE] at hd
  rcases decodeN_w s.length (s.getD 0 0).toNat (s.getD 1 0).toNat (s.getD 2 0).toNat (s.getD 3 0).toNat hn with h | ⟨h1, h2⟩ | ⟨h1, h2, h3, h4⟩ | ⟨h1, h2, h3, h4, h5⟩ | ⟨h1, h2, h3, h4, h5, h6⟩
  · exact absurd h hd
  · rw [← hE] at h1
    refine ⟨?_, fun h => by omega⟩
    rw [hg 0 (by omega), hE]
    exact decodeN_1 _ _ _ _ _ _ _ _ _ h2
  · have h1' := h1
    rw [← hE] at h1
    refine ⟨?_, fun _ i hi => ?_⟩
    · rw [hg 0 (by omega), hg 1 (by omega), hE]
      rw [hE] at h1 
      exact decodeN_2 _ _ _ _ _ _ _ _ h2 (by omega) h1'
    · match i, (show i < 2 by omega) with
      | 0, _ => exact h3
      | 1, _ => exact h4
  · have h1' := h1
    rw [← hE] at h1
    refine ⟨?_, fun _ i hi => ?_⟩
    · rw [hg 0 (by omega), hg 1 (by omega), hg 2 (by omega), hE]
      rw [hE] at h1 
      exact decodeN_3 _ _ _ _ _ _ _ h2 (by omega) h1'
    · match i, (show i < 3 by omega) with
      | 0, _ => exact h3
      | 1, _ => exact h4
      | 2, _ => exact h5
  · have h1' := h1
    rw [← hE] at h1
    refine ⟨?_, fun _ i hi => ?_⟩
    · rw [hg 0 (by omega), hg 1 (by omega), hg 2 (by omega), hg 3 (by omega), hE]
      rw [hE] at h1 
      exact decodeN_4 _ _ _ _ _ _ h2 (by omega) h1'
    · match i, (show i < 4 by omega) with
      | 0, _ => exact h3
      | 1, _ => exact h4
      | 2, _ => exact h5
      | 3, _ => exact h6

theorem Utf.app {s t : Bs} (hs : Utf s) (ht : Utf t) : Utf (s ++ t) := by
  induction hs with
  | nil => exact ht
  | @step s h hd hr ih =>
    have hl := decU_len h
    have hloc := (decU_loc h hd (s.drop (decU s).2 ++ t)).1
    rw [← List.append_assoc, List.take_append_drop] at hloc
    refine .step (by simp [h]) (by rw [hloc]; exact hd) ?_
    rw [hloc, List.drop_append_of_le_length hl.2]
    exact ih

theorem Utf.ahead : ∀ (m : Nat) {a b : Bs}, a.length ≤ m → Utf (a ++ b) → (∀ x, a.getLast? = some x → x.toNat < 128) → Utf a
  | m, [], b, _, _, _ => .nil
  | 0, x :: a, b, h, _, _ => by simp at h
  | m + 1, x :: a, b, h, hu, hlast => by
    generalize hA : x :: a = A at *
    have hne : A ≠ [] := by rw [← hA]; simp
    have h1 : A ++ b ≠ [] := by simp [hne]
    obtain ⟨hd, hr⟩ := hu.inv h1
    · have hl := decU_len h1
      have hloc := decU_loc h1 hd
      rcases Nat.lt_or_ge A.length (decU (A ++ b)).2 with hw | hw
      · exfalso
        have hA1 : 1 ≤ A.length := by rw [← hA]; simp
        have := (hloc []).2 (by omega) (A.length - 1) (by omega)
        have hg : A.getLast? = some (A[A.length - 1]'(by omega)) := by rw [List.getLast?_eq_getElem?, List.getElem?_eq_getElem]
        have h2 := hlast _ hg
        have h3 : (A ++ b).getD (A.length - 1) 0 = A[A.length - 1]'(by omega) := by
          simp [List.getD, List.getElem?_append, show A.length - 1 < A.length by omega]
        rw [h3] at this
        omega
      · have e1 : (A ++ b).take (decU (A ++ b)).2 = A.take (decU (A ++ b)).2 := List.take_append_of_le_length hw
        have h3 := (hloc (A.drop (decU (A ++ b)).2)).1
        rw [e1, List.take_append_drop] at h3
        have hA1 := decU_len hne
        refine .step hne (by rw [h3]; exact hd) ?_
        rw [h3]
        rw [List.drop_append_of_le_length hw] at hr
        refine Utf.ahead m (by simp; omega) hr fun y hy => hlast y ?_
        rw [List.getLast?_drop] at hy
        split at hy
        · cases hy
        · exact hy

theorem Utf.ascii : ∀ {s : Bs}, (∀ c ∈ s, c.toNat < 128) → Utf s
  | [], _ => .nil
  | b :: r, h => by
    have hb := h b (by simp)
    have hd : decU (b :: r) = (b.toNat, 1) := by
      have : decU (b :: r) = Lib.decodeN (b :: r).length b.toNat ((b :: r).getD 1 0).toNat ((b :: r).getD 2 0).toNat ((b :: r).getD 3 0).toNat := rfl
      rw [this]; simp [Lib.decodeN, hb]
    refine .step (by simp) (by rw [hd]; simp; omega) ?_
    rw [hd]
    show Utf r
    exact Utf.ascii fun c hc => h c (by simp [hc])

end Go.Zam

namespace Go.Zam
set_option linter.all false
set_option maxRecDepth 100000
set_option maxHeartbeats 2000000

/-- the tokens of a text that begins at a place -/
inductive Toks : Bs → Nat → List Tk → Prop
  | fin {s : Bs} {n : Nat} (h : (tokN (s.drop (leadS false s))).1 = 0) (h0 : s.drop (leadS false s) = []) : Toks s n [⟨0, n + leadS false s, s.take (leadS false s), []⟩]
  | tok {s : Bs} {n : Nat} {l : List Tk} (h : (tokN (s.drop (leadS false s))).1 = 0) (h0 : s.drop (leadS false s) ≠ []) (hr : Toks ((s.drop (leadS false s)).drop (tokN (s.drop (leadS false s))).2.2) (n + leadS false s + (tokN (s.drop (leadS false s))).2.2) l) :
      Toks s n (⟨(tokN (s.drop (leadS false s))).2.1, n + leadS false s, s.take (leadS false s), (s.drop (leadS false s)).take (tokN (s.drop (leadS false s))).2.2⟩ :: l)

theorem tokN_nil : tokN [] = (0, 0, 0) := rfl

theorem lexF_toks : ∀ (f : Nat) (s : Bs) (n c : Nat), s.length < f → ((lexF f s n c).2.1 = 0 ↔ ∃ l, Toks s n l ∧ c + l.length ≤ 4000) ∧ ((lexF f s n c).2.1 = 0 → Toks s n (lexF f s n c).1 ∧ c + (lexF f s n c).1.length ≤ 4000)
  | 0, s, n, c, h => by omega
  | f + 1, s, n, c, h => by
    have htl := tokN_len (s.drop (leadS false s))
    obtain ⟨t1, t2, t3, t4⟩ := htl
    rw [lexF]
    by_cases he : (tokN (s.drop (leadS false s))).1 = 0
    case neg =>
      rw [if_pos he]
      refine ⟨⟨fun e => absurd e he, ?_⟩, fun e => absurd e he⟩
      rintro ⟨l, hl, -⟩
      cases hl with
      | fin h1 h2 => exact absurd h1 he
      | tok h1 h2 h3 => exact absurd h1 he
    rw [if_neg (by simp [he])]
    by_cases hc : 4000 ≤ c
    case pos =>
      rw [if_pos hc]
      refine ⟨⟨fun e => absurd e (by simp), ?_⟩, fun e => absurd e (by simp)⟩
      rintro ⟨l, hl, hlc⟩
      cases hl with
      | fin h1 h2 => simp at hlc; omega
      | tok h1 h2 h3 => simp at hlc; omega
    rw [if_neg hc]
    by_cases hk : (tokN (s.drop (leadS false s))).2.1 = 0
    · rw [if_pos hk]
      have hnil := t2 he hk
      have hT : Toks s n [⟨(tokN (s.drop (leadS false s))).2.1, n + leadS false s, s.take (leadS false s), (s.drop (leadS false s)).take (tokN (s.drop (leadS false s))).2.2⟩] := by
        have := Toks.fin (n := n) he hnil
        rw [hk, hnil]
        simpa using this
      exact ⟨⟨fun _ => ⟨_, hT, by simp; omega⟩, fun _ => rfl⟩, fun _ => ⟨hT, by simp; omega⟩⟩
    · rw [if_neg hk]
      have hne : s.drop (leadS false s) ≠ [] := fun e => hk (t4 e)
      have hm := t3 he hne
      have hlen : ((s.drop (leadS false s)).drop (tokN (s.drop (leadS false s))).2.2).length < f := by
        simp only [List.length_drop] at t1 ⊢
        have : leadS false s < s.length := by
          rcases Nat.lt_or_ge (leadS false s) s.length with h' | h'
          · exact h'
          · exact absurd (List.drop_eq_nil_of_le h') hne
        omega
      obtain ⟨i1, i2⟩ := lexF_toks f _ (n + leadS false s + (tokN (s.drop (leadS false s))).2.2) (c + 1) hlen
      generalize lexF f ((s.drop (leadS false s)).drop (tokN (s.drop (leadS false s))).2.2) (n + leadS false s + (tokN (s.drop (leadS false s))).2.2) (c + 1) = R at i1 i2
      by_cases hR : R.2.1 = 0
      · rw [if_pos hR]
        obtain ⟨j1, j2⟩ := i2 hR
        have hT := Toks.tok (n := n) he hne j1
        exact ⟨⟨fun _ => ⟨_, hT, by simp; omega⟩, fun _ => rfl⟩, fun _ => ⟨hT, by simp; omega⟩⟩
      · rw [if_neg hR]
        refine ⟨⟨fun e => absurd e hR, ?_⟩, fun e => absurd e hR⟩
        rintro ⟨l, hl, hlc⟩
        exfalso
        cases hl with
        | fin h1 h2 => exact hne h2
        | tok h1 h2 h3 => exact hR (i1.2 ⟨_, h3, by simp at hlc; omega⟩)

theorem Toks.uniq : ∀ {s : Bs} {n : Nat} {l l' : List Tk}, Toks s n l → Toks s n l' → l = l' := by
  intro s n l l' h
  induction h generalizing l' with
  | fin h1 h2 =>
    intro h'
    cases h' with
    | fin h3 h4 => rfl
    | tok h3 h4 h5 => exact absurd h2 h4
  | tok h1 h2 h3 ih =>
    intro h'
    cases h' with
    | fin h4 h5 => exact absurd h5 h2
    | tok h4 h5 h6 => rw [ih h6]

/-- what token.Lex answers, where nothing is wrong -/
theorem lexS_ok (s : Bs) : ((lexS s).2.1 = 0 ↔ s.length ≤ 16384 ∧ Utf s ∧ ∃ l, Toks s 0 l ∧ l.length ≤ 4000) ∧ ((lexS s).2.1 = 0 → Toks s 0 (lexS s).1 ∧ (lexS s).1.length ≤ 4000) := by
  have hu := badS_utf s
  unfold lexS
  by_cases h1 : 16384 < s.length
  · rw [if_pos h1]
    exact ⟨⟨fun e => absurd e (by simp), fun e => by omega⟩, fun e => absurd e (by simp)⟩
  rw [if_neg h1]
  by_cases h2 : 0 ≤ badS s
  · rw [if_pos h2]
    exact ⟨⟨fun e => absurd e (by simp), fun e => absurd e.2.1 fun q => hu.2 q h2⟩, fun e => absurd e (by simp)⟩
  rw [if_neg h2]
  obtain ⟨i1, i2⟩ := lexF_toks (s.length + 1) s 0 0 (by omega)
  refine ⟨?_, fun e => by simpa using i2 e⟩
  rw [i1]
  simp only [Nat.zero_add]
  exact ⟨fun ⟨l, a, b⟩ => ⟨by omega, hu.1 h2, l, a, b⟩, fun ⟨_, _, q⟩ => q⟩

theorem lexS_err (s : Bs) : (lexS s).2.1 ≠ 0 → (lexS s).1 = [] := by
  unfold lexS
  split
  · exact fun _ => rfl
  split
  · exact fun _ => rfl
  · exact (lexF_norm _ _ _ _).2

/-- what one token is -/
def TkAt (p : Nat) (last : Prop) (t : Tk) : Prop := t.a = p + t.l.length ∧ (t.k = 0 ↔ last) ∧ (t.x = [] ↔ t.k = 0)

theorem Toks.join {s : Bs} {n : Nat} {l : List Tk} (h : Toks s n l) : joinS l = s ∧ (∃ t, l.getLast? = some t ∧ t.k = 0) ∧ ∀ (i : Nat) (t : Tk), l[i]? = some t → TkAt (n + (joinS (l.take i)).length) (i + 1 = l.length) t := by
  induction h with
  | @fin s n h1 h2 =>
    refine ⟨?_, ⟨_, rfl, rfl⟩, fun i t hi => ?_⟩
    · simp only [joinS, List.flatMap_cons, List.flatMap_nil, List.append_nil]
      have := List.take_append_drop (leadS false s) s
      rw [h2, List.append_nil] at this
      exact this
    · cases i with
      | zero =>
        simp at hi; subst hi
        have := lead_le false s
        refine ⟨by simp [joinS]; omega, by simp, by simp⟩
      | succ i => simp at hi
  | @tok s n l h1 h2 h3 ih =>
    obtain ⟨j1, ⟨t0, j2, j3⟩, j4⟩ := ih
    have hl := lead_le false s
    obtain ⟨m1, m2, m3, m4⟩ := tokN_len (s.drop (leadS false s))
    have hne : l ≠ [] := fun e => by subst e; simp at j2
    have hm := m3 h1 h2
    have hx : (s.drop (leadS false s)).take (tokN (s.drop (leadS false s))).2.2 ≠ [] := fun e => by
      have := congrArg List.length e
      simp only [List.length_take, List.length_nil] at this
      omega
    have hk : ¬ (tokN (s.drop (leadS false s))).2.1 = 0 := fun e => h2 (m2 h1 e)
    have hlx : ((s.drop (leadS false s)).take (tokN (s.drop (leadS false s))).2.2).length = (tokN (s.drop (leadS false s))).2.2 := by simp only [List.length_take]; omega
    refine ⟨?_, ⟨t0, ?_, j3⟩, fun i t hi => ?_⟩
    · have e : joinS (⟨(tokN (s.drop (leadS false s))).2.1, n + leadS false s, s.take (leadS false s), (s.drop (leadS false s)).take (tokN (s.drop (leadS false s))).2.2⟩ :: l) = (s.take (leadS false s) ++ (s.drop (leadS false s)).take (tokN (s.drop (leadS false s))).2.2) ++ joinS l := rfl
      rw [e, j1, List.append_assoc, List.take_append_drop, List.take_append_drop]
    · rw [List.getLast?_cons, j2]; rfl
    · cases i with
      | zero =>
        simp at hi; subst hi
        refine ⟨by simp [joinS]; omega, ?_, ?_⟩
        · simp [hk]; exact hne
        · simp only; exact ⟨fun e => absurd e hx, fun e => absurd e hk⟩
      | succ i =>
        simp at hi
        obtain ⟨q1, q2, q3⟩ := j4 i t hi
        refine ⟨?_, ?_, q3⟩
        · rw [q1, List.take_succ_cons]
          have e : joinS (⟨(tokN (s.drop (leadS false s))).2.1, n + leadS false s, s.take (leadS false s), (s.drop (leadS false s)).take (tokN (s.drop (leadS false s))).2.2⟩ :: l.take i) = (s.take (leadS false s) ++ (s.drop (leadS false s)).take (tokN (s.drop (leadS false s))).2.2) ++ joinS (l.take i) := rfl
          rw [e]
          simp only [List.length_append, hlx, List.length_take]
          omega
        · rw [q2]; simp

end Go.Zam

namespace Go.Zam
set_option linter.all false
set_option maxRecDepth 100000
set_option maxHeartbeats 2000000

theorem letter_ne {b : UInt8} (h : letterB b = true) : blankB b = false ∧ hashB b = false ∧ digitB b = false ∧ b.toNat < 128 := by
  simp only [letterB, Bool.or_eq_true, Bool.and_eq_true, decide_eq_true_eq] at h
  refine ⟨?_, ?_, ?_, ?_⟩
  · simp only [blankB, Bool.or_eq_false_iff, decide_eq_false_iff_not]; omega
  · simp only [hashB, decide_eq_false_iff_not]; omega
  · simp only [digitB, Bool.and_eq_false_iff, decide_eq_false_iff_not]; omega
  · omega
theorem digit_ne {b : UInt8} (h : digitB b = true) : blankB b = false ∧ hashB b = false ∧ letterB b = false ∧ b.toNat < 128 := by
  simp only [digitB, Bool.and_eq_true, decide_eq_true_eq] at h
  refine ⟨?_, ?_, ?_, ?_⟩
  · simp only [blankB, Bool.or_eq_false_iff, decide_eq_false_iff_not]; omega
  · simp only [hashB, decide_eq_false_iff_not]; omega
  · simp only [letterB, Bool.or_eq_false_iff, Bool.and_eq_false_iff, decide_eq_false_iff_not]; omega
  · omega
theorem word_ascii {b : UInt8} (h : wordB b = true) : b.toNat < 128 := by
  simp only [wordB, Bool.or_eq_true] at h
  rcases h with h | h
  · exact (letter_ne h).2.2.2
  · exact (digit_ne h).2.2.2

theorem runN_all {p : UInt8 → Bool} : ∀ {s : Bs}, (∀ c ∈ s, p c = true) → runN p s = s.length
  | [], _ => rfl
  | b :: r, h => by
    have := runN_all (s := r) fun c hc => h c (by simp [hc])
    simp only [runN] at this ⊢
    simp [h b (by simp), this]

/-- a name is a text's only token -/
theorem name_lex {s : Bs} (h : isNameB s = true) : (lexS s).2.1 = 0 ∧ (lexS s).1 = [⟨1, 0, [], s⟩, ⟨0, s.length, [], []⟩] := by
  cases s with
  | nil => simp [isNameB] at h
  | cons b r =>
  have hN : isNameB (b :: r) = (decide ((b :: r).length ≤ 40) && !decide ((b :: r) ∈ keysL) && !digitB b && (b :: r).all fun c => letterB c || digitB c) := rfl
  rw [hN] at h
  simp only [Bool.and_eq_true, decide_eq_true_eq, Bool.not_eq_true', decide_eq_false_iff_not] at h
  obtain ⟨⟨⟨h1, h2⟩, h3⟩, h4⟩ := h
  have hall : ∀ c ∈ b :: r, wordB c = true := fun c hc => List.all_eq_true.1 h4 c hc
  have hlb : letterB b = true := by
    have := hall b (by simp)
    simpa [wordB, h3] using this
  obtain ⟨n1, n2, n3, n4⟩ := letter_ne hlb
  have hl0 : leadS false (b :: r) = 0 := by simp [leadS, n1, n2]
  have hw := runN_all hall
  have ht : tokN (b :: r) = (0, 1, (b :: r).length) := by
    rw [tokN, hw, List.take_length, if_pos hlb, if_neg h2, if_neg (by omega)]
  have hT : Toks (b :: r) 0 [⟨1, 0, [], b :: r⟩, ⟨0, (b :: r).length, [], []⟩] := by
    have e1 : (b :: r).drop (leadS false (b :: r)) = b :: r := by rw [hl0]; rfl
    have e2 : ((b :: r).drop (leadS false (b :: r))).drop (tokN ((b :: r).drop (leadS false (b :: r)))).2.2 = [] := by rw [e1, ht]; exact List.drop_length
    have := Toks.tok (s := b :: r) (n := 0) (l := [⟨0, (b :: r).length, [], []⟩]) (by rw [e1, ht]) (by rw [e1]; simp) (by
      rw [e2, e1, ht, hl0]
      have := Toks.fin (s := []) (n := (b :: r).length) rfl rfl
      simpa [leadS] using this)
    rw [e1, ht, hl0] at this
    simpa using this
  have hu : Utf (b :: r) := Utf.ascii fun c hc => word_ascii (hall c hc)
  obtain ⟨l1, l2⟩ := lexS_ok (b :: r)
  have he := l1.2 ⟨by omega, hu, _, hT, by simp⟩
  exact ⟨he, (l2 he).1.uniq hT⟩

/-- what may come behind a token: nothing, what came, or what ends all tokens -/
def Sep (rest r' : Bs) : Prop := r' = [] ∨ ∃ b t, r' = b :: t ∧ ((∃ u, rest = b :: u) ∨ (wordB b = false ∧ b ≠ 61))

theorem runN_split (p : UInt8 → Bool) (s r' : Bs) (h : r' = [] ∨ ∃ b t, r' = b :: t ∧ p b = false) : runN p (s.take (runN p s) ++ r') = runN p s := by
  have hr : ∀ r' : Bs, (r' = [] ∨ ∃ b t, r' = b :: t ∧ p b = false) → runN p r' = 0 := by
    rintro r' (rfl | ⟨b, t, rfl, hb⟩)
    · rfl
    · simp [runN, hb]
  induction s with
  | nil => exact hr r' h
  | cons b s ih =>
    cases hb : p b with
    | false =>
      have e : runN p (b :: s) = 0 := by simp [runN, hb]
      rw [e]
      simpa using hr r' h
    | true =>
      have e : runN p (b :: s) = runN p s + 1 := by simp [runN, hb]
      rw [e, List.take_succ_cons, List.cons_append]
      have e2 : runN p (b :: (s.take (runN p s) ++ r')) = runN p (s.take (runN p s) ++ r') + 1 := by simp [runN, hb]
      rw [e2, ih]

theorem runN_rest (p : UInt8 → Bool) : ∀ (s : Bs), s.drop (runN p s) = [] ∨ ∃ b t, s.drop (runN p s) = b :: t ∧ p b = false
  | [] => .inl (by simp [runN])
  | b :: s => by
    cases hb : p b with
    | false => exact .inr ⟨b, s, by simp [runN, hb], hb⟩
    | true =>
      have e : runN p (b :: s) = runN p s + 1 := by simp [runN, hb]
      rw [e, List.drop_succ_cons]
      exact runN_rest p s

theorem strS_app : ∀ {s : Bs} {k : Nat}, strS s = some k → ∀ r', strS (s.take k ++ r') = some k
  | [], k, h, r' => by simp [strS] at h
  | [b], k, h, r' => by
    simp only [strS] at h
    split at h
    · rename_i hb
      cases h
      subst hb
      cases r' <;> simp [strS]
    · cases h
  | b :: c :: r, k, h, r' => by
    simp only [strS] at h
    split at h
    · rename_i hb
      cases h
      subst hb
      cases r' <;> simp [strS]
    rename_i hb
    split at h
    · rename_i h92
      cases e : strS r with
      | none => simp [e] at h
      | some q =>
        have i := strS_app e r'
        simp [e] at h
        subst h
        have : (b :: c :: r).take (q + 2) ++ r' = b :: c :: (r.take q ++ r') := rfl
        rw [this, strS, if_neg hb, if_pos h92, i]; rfl
    rename_i h92
    split at h
    · cases h
    · rename_i h10
      cases e : strS (c :: r) with
      | none => simp [e] at h
      | some q =>
        have i := strS_app e r'
        have hq := strS_le e
        simp [e] at h
        subst h
        obtain ⟨q', rfl⟩ : ∃ q', q = q' + 1 := ⟨q - 1, by omega⟩
        have e2 : (b :: c :: r).take (q' + 1 + 1) ++ r' = b :: c :: (r.take q' ++ r') := rfl
        have e3 : (c :: r).take (q' + 1) ++ r' = c :: (r.take q' ++ r') := rfl
        rw [e3] at i
        rw [e2, strS, if_neg hb, if_neg h92, if_neg h10, i]; rfl

theorem strV_app {s : Bs} (hs : s ≠ []) (h : (strV s).2 = 0) (r' : Bs) : strV (s.take (strV s).1.length ++ r') = strV s := by
  cases s with
  | nil => exact absurd rfl hs
  | cons b s =>
  unfold strV at h ⊢
  simp only [List.drop_succ_cons, List.drop_zero] at h ⊢
  cases e : strS s with
  | none => rw [e] at h; simp at h
  | some k =>
    have hk := strS_le e
    rw [e] at h
    simp only at h ⊢
    have hlen : ((b :: s).take (k + 1)).length = k + 1 := by simp; omega
    rw [hlen, List.take_succ_cons, List.cons_append, List.drop_succ_cons, List.drop_zero, strS_app e r']
    simp only
    have e2 : (b :: (s.take k ++ r')).take (k + 1) = b :: s.take k := by
      rw [List.take_succ_cons, List.take_append_of_le_length (by simp; omega), List.take_take, Nat.min_self]
    rw [e2]

theorem prefix_take {x s : Bs} (h : x.isPrefixOf s = true) : s.take x.length = x := by
  have : x <+: s := List.isPrefixOf_iff_prefix.1 h
  exact (List.prefix_iff_eq_take.1 this).symm

/-- the sign that a text begins with, by its first two bytes -/
theorem signV_two : ∀ (s : Bs), signV s = match s with
    | [] => []
    | [b] => if b ∈ ([40, 41, 123, 125, 44, 59, 58, 46, 61, 43, 45, 42, 60] : List UInt8) then [b] else []
    | b :: c :: _ => if b = 61 ∧ c = 61 then [61, 61] else if b ∈ ([40, 41, 123, 125, 44, 59, 58, 46, 61, 43, 45, 42, 60] : List UInt8) then [b] else [] := by
  intro s
  match s with
  | [] => rfl
  | [b] =>
    simp only [signV, signsT, List.find?, List.isPrefixOf]
    by_cases h : b ∈ ([40, 41, 123, 125, 44, 59, 58, 46, 61, 43, 45, 42, 60] : List UInt8)
    · simp only [List.mem_cons, List.not_mem_nil, or_false] at h
      rcases h with rfl | rfl | rfl | rfl | rfl | rfl | rfl | rfl | rfl | rfl | rfl | rfl | rfl <;> rfl
    · simp only [List.mem_cons, List.not_mem_nil, or_false, not_or] at h
      obtain ⟨h1, h2, h3, h4, h5, h6, h7, h8, h9, h10, h11, h12, h13⟩ := h
      have g : ∀ x : UInt8, b ≠ x → (x == b) = false := fun x h => by simpa using Ne.symm h
      simp [g _ h1, g _ h2, g _ h3, g _ h4, g _ h5, g _ h6, g _ h7, g _ h8, g _ h9, g _ h10, g _ h11, g _ h12, g _ h13, h1, h2, h3, h4, h5, h6, h7, h8, h9, h10, h11, h12, h13]
  | b :: c :: r =>
    simp only [signV, signsT, List.find?, List.isPrefixOf]
    by_cases h : b ∈ ([40, 41, 123, 125, 44, 59, 58, 46, 61, 43, 45, 42, 60] : List UInt8)
    · by_cases hc : c = 61
      · subst hc
        simp only [List.mem_cons, List.not_mem_nil, or_false] at h
        rcases h with rfl | rfl | rfl | rfl | rfl | rfl | rfl | rfl | rfl | rfl | rfl | rfl | rfl <;> rfl
      · have gc : ((61 : UInt8) == c) = false := by simpa using Ne.symm hc
        simp only [List.mem_cons, List.not_mem_nil, or_false] at h
        rcases h with rfl | rfl | rfl | rfl | rfl | rfl | rfl | rfl | rfl | rfl | rfl | rfl | rfl <;> simp [gc, hc]
    · simp only [List.mem_cons, List.not_mem_nil, or_false, not_or] at h
      obtain ⟨h1, h2, h3, h4, h5, h6, h7, h8, h9, h10, h11, h12, h13⟩ := h
      have g : ∀ x : UInt8, b ≠ x → (x == b) = false := fun x h => by simpa using Ne.symm h
      simp [g _ h1, g _ h2, g _ h3, g _ h4, g _ h5, g _ h6, g _ h7, g _ h8, g _ h9, g _ h10, g _ h11, g _ h12, g _ h13, h1, h2, h3, h4, h5, h6, h7, h8, h9, h10, h11, h12, h13]

theorem signV_1 (b : UInt8) : signV [b] = if b ∈ ([40, 41, 123, 125, 44, 59, 58, 46, 61, 43, 45, 42, 60] : List UInt8) then [b] else [] := signV_two [b]
theorem signV_cc (b c : UInt8) (r : Bs) : signV (b :: c :: r) = if b = 61 ∧ c = 61 then [61, 61] else if b ∈ ([40, 41, 123, 125, 44, 59, 58, 46, 61, 43, 45, 42, 60] : List UInt8) then [b] else [] := signV_two (b :: c :: r)

theorem signV_app {s : Bs} (h : signV s ≠ []) {r' : Bs} (hr : Sep (s.drop (signV s).length) r') : signV (s.take (signV s).length ++ r') = signV s := by
  match s with
  | [] => exact absurd rfl h
  | [b] =>
    rw [signV_1] at h hr ⊢
    by_cases hb : b ∈ ([40, 41, 123, 125, 44, 59, 58, 46, 61, 43, 45, 42, 60] : List UInt8)
    · rw [if_pos hb] at hr ⊢
      simp only [List.length_cons, List.length_nil, List.take_succ_cons, List.take_zero, List.cons_append, List.nil_append, List.drop_succ_cons, List.drop_zero, Nat.zero_add] at hr ⊢
      rcases hr with rfl | ⟨d, t, rfl, ⟨u, hu⟩ | ⟨h1, h2⟩⟩
      · rw [signV_1, if_pos hb]
      · cases hu
      · rw [signV_cc, if_neg (fun q => h2 q.2), if_pos hb]
    · rw [if_neg hb] at h; exact absurd rfl h
  | b :: c :: r =>
    rw [signV_cc] at h hr ⊢
    by_cases h2 : b = 61 ∧ c = 61
    · obtain ⟨rfl, rfl⟩ := h2
      rw [if_pos ⟨rfl, rfl⟩]
      show signV (61 :: 61 :: ([] ++ r')) = _
      rw [signV_cc]; rfl
    · rw [if_neg h2] at h hr ⊢
      by_cases hb : b ∈ ([40, 41, 123, 125, 44, 59, 58, 46, 61, 43, 45, 42, 60] : List UInt8)
      · rw [if_pos hb] at hr ⊢
        simp only [List.length_cons, List.length_nil, List.take_succ_cons, List.take_zero, List.cons_append, List.nil_append, List.drop_succ_cons, List.drop_zero, Nat.zero_add] at hr ⊢
        rcases hr with rfl | ⟨d, t, rfl, ⟨u, hu⟩ | ⟨h3, h4⟩⟩
        · rw [signV_1, if_pos hb]
        · cases hu
          rw [signV_cc, if_neg h2, if_pos hb]
        · rw [signV_cc, if_neg (fun q => h4 q.2), if_pos hb]
      · rw [if_neg hb] at h; exact absurd rfl h

end Go.Zam

namespace Go.Zam
set_option linter.all false
set_option maxRecDepth 100000
set_option maxHeartbeats 2000000

theorem tokN_cons (b : UInt8) (r : Bs) : tokN (b :: r) = if letterB b then
      if (b :: r).take (runN wordB (b :: r)) ∈ keysL then (0, 2, runN wordB (b :: r)) else if 40 < runN wordB (b :: r) then (26, 0, 0) else (0, 1, runN wordB (b :: r))
    else if digitB b then
      if numOk ((b :: r).take (runN wordB (b :: r))) then (0, 3, runN wordB (b :: r)) else (23, 0, 0)
    else if b = 34 then
      if (strV (b :: r)).2 = 0 then (0, 4, (strV (b :: r)).1.length) else (22, 0, 0)
    else if signV (b :: r) = [] then (21, 0, 0) else (0, 5, (signV (b :: r)).length) := rfl

theorem take_app_take (s r' : Bs) (m : Nat) (h : m ≤ s.length) : (s.take m ++ r').take m = s.take m := by
  rw [List.take_append_of_le_length (by simp; omega), List.take_take, Nat.min_self]

/-- a token stays what it is -/
theorem tok_loc {s : Bs} (hs : s ≠ []) (h0 : (tokN s).1 = 0) {r' : Bs} (hr : Sep (s.drop (tokN s).2.2) r') : tokN (s.take (tokN s).2.2 ++ r') = tokN s := by
  cases s with
  | nil => exact absurd rfl hs
  | cons b r =>
  have hm := (tokN_len (b :: r)).2.2.1 h0 hs
  have hml := (tokN_len (b :: r)).1
  have hS : ∀ m, 1 ≤ m → ∃ t, (b :: r).take m ++ r' = b :: t := fun m hm => by
    obtain ⟨m', rfl⟩ : ∃ m', m = m' + 1 := ⟨m - 1, by omega⟩
    exact ⟨r.take m' ++ r', rfl⟩
  have hword : runN wordB (b :: r) = (tokN (b :: r)).2.2 → runN wordB ((b :: r).take (tokN (b :: r)).2.2 ++ r') = (tokN (b :: r)).2.2 := fun e => by
    rw [← e] at hr ⊢
    refine runN_split wordB (b :: r) r' ?_
    rcases hr with rfl | ⟨d, t, rfl, ⟨u, hu⟩ | ⟨h1, h2⟩⟩
    · exact .inl rfl
    · rcases runN_rest wordB (b :: r) with h | ⟨d', t', h, hd⟩
      · rw [h] at hu; cases hu
      · rw [h] at hu; cases hu
        exact .inr ⟨_, t, rfl, hd⟩
    · exact .inr ⟨d, t, rfl, h1⟩
  have hT := tokN_cons b r
  obtain ⟨t, ht⟩ := hS _ hm
  have hT' := tokN_cons b t
  rw [← ht] at hT'
  have htk := take_app_take (b :: r) r' _ hml
  by_cases c1 : letterB b = true
  · rw [if_pos c1] at hT hT'
    have e : runN wordB (b :: r) = (tokN (b :: r)).2.2 := by
      rw [hT] at h0 ⊢
      split at h0
      · rename_i h; rw [if_pos h]
      · rename_i h; rw [if_neg h]; split at h0
        · cases h0
        · rename_i h'; rw [if_neg h']
    have hw := hword e
    rw [hT', hw, htk]
    rw [e] at hT
    exact hT.symm
  rw [if_neg c1] at hT hT'
  by_cases c2 : digitB b = true
  · rw [if_pos c2] at hT hT'
    have e : runN wordB (b :: r) = (tokN (b :: r)).2.2 := by
      rw [hT] at h0 ⊢
      split at h0
      · rename_i h; rw [if_pos h]
      · cases h0
    have hw := hword e
    rw [hT', hw, htk]
    rw [e] at hT
    exact hT.symm
  rw [if_neg c2] at hT hT'
  by_cases c3 : b = 34
  · rw [if_pos c3] at hT hT'
    by_cases c4 : (strV (b :: r)).2 = 0
    · rw [if_pos c4] at hT
      have e : (tokN (b :: r)).2.2 = (strV (b :: r)).1.length := by rw [hT]
      have := strV_app (by simp) c4 r'
      rw [← e] at this
      rw [hT', this, if_pos c4, hT]
    · rw [if_neg c4] at hT
      rw [hT] at h0; cases h0
  rw [if_neg c3] at hT hT'
  by_cases c4 : signV (b :: r) = []
  · rw [if_pos c4] at hT
    rw [hT] at h0; cases h0
  · rw [if_neg c4] at hT
    have e : (tokN (b :: r)).2.2 = (signV (b :: r)).length := by rw [hT]
    have := signV_app c4 (r' := r') (by rw [← e]; exact hr)
    rw [← e] at this
    rw [hT', this, if_neg c4, hT]

theorem lead_app : ∀ (c : Bool) (s : Bs) {b : UInt8} {u : Bs}, s.drop (leadS c s) = b :: u → blankB b = false ∧ hashB b = false ∧ ∀ r' : Bs, moreB blankB r' = false → moreB hashB r' = false → leadS c (s.take (leadS c s) ++ r') = leadS c s
  | c, [], b, u, h => by cases c <;> simp at h
  | false, x :: s, b, u, h => by
    rw [leadS] at h ⊢
    by_cases h1 : blankB x = true
    · rw [if_pos h1] at h ⊢
      rw [List.drop_succ_cons] at h
      obtain ⟨i1, i2, i3⟩ := lead_app false s h
      refine ⟨i1, i2, fun r' q1 q2 => ?_⟩
      rw [List.take_succ_cons, List.cons_append, leadS, if_pos h1, i3 r' q1 q2]
    rw [if_neg h1] at h ⊢
    by_cases h2 : hashB x = true
    · rw [if_pos h2] at h ⊢
      rw [List.drop_succ_cons] at h
      obtain ⟨i1, i2, i3⟩ := lead_app true s h
      refine ⟨i1, i2, fun r' q1 q2 => ?_⟩
      rw [List.take_succ_cons, List.cons_append, leadS, if_neg h1, if_pos h2, i3 r' q1 q2]
    rw [if_neg h2] at h ⊢
    cases h
    exact ⟨by simpa using h1, by simpa using h2, fun r' q1 q2 => lead_none q1 q2⟩
  | true, x :: s, b, u, h => by
    rw [leadS] at h ⊢
    by_cases h1 : noNlB x = true
    · rw [if_pos h1] at h ⊢
      rw [List.drop_succ_cons] at h
      obtain ⟨i1, i2, i3⟩ := lead_app true s h
      refine ⟨i1, i2, fun r' q1 q2 => ?_⟩
      rw [List.take_succ_cons, List.cons_append, leadS, if_pos h1, i3 r' q1 q2]
    · rw [if_neg h1] at h ⊢
      rw [List.drop_succ_cons] at h
      obtain ⟨i1, i2, i3⟩ := lead_app false s h
      refine ⟨i1, i2, fun r' q1 q2 => ?_⟩
      rw [List.take_succ_cons, List.cons_append, leadS, if_neg h1, i3 r' q1 q2]

theorem lead_end (t : Bs) : ∀ (c : Bool) (s : Bs), s.drop (leadS c s) = [] → leadS c (s ++ 10 :: t) = s.length + 1 + leadS false t
  | false, [], _ => by
    have : blankB 10 = true := by decide
    simp [leadS, this]; omega
  | true, [], _ => by
    have : noNlB 10 = false := by decide
    simp [leadS, this]; omega
  | false, x :: s, h => by
    rw [leadS] at h
    by_cases h1 : blankB x = true
    · rw [if_pos h1, List.drop_succ_cons] at h
      rw [List.cons_append, leadS, if_pos h1, lead_end t false s h]; simp; omega
    rw [if_neg h1] at h
    by_cases h2 : hashB x = true
    · rw [if_pos h2, List.drop_succ_cons] at h
      rw [List.cons_append, leadS, if_neg h1, if_pos h2, lead_end t true s h]; simp; omega
    rw [if_neg h2] at h
    cases h
  | true, x :: s, h => by
    rw [leadS] at h
    by_cases h1 : noNlB x = true
    · rw [if_pos h1, List.drop_succ_cons] at h
      rw [List.cons_append, leadS, if_pos h1, lead_end t true s h]; simp; omega
    · rw [if_neg h1, List.drop_succ_cons] at h
      rw [List.cons_append, leadS, if_neg h1, lead_end t false s h]; simp; omega

/-- one token more, whatever follows -/
theorem Toks.more {s : Bs} {n : Nat} {r' : Bs} {l : List Tk} (h : (tokN (s.drop (leadS false s))).1 = 0) (h0 : s.drop (leadS false s) ≠ []) (hr : Sep ((s.drop (leadS false s)).drop (tokN (s.drop (leadS false s))).2.2) r')
    (hl : Toks r' (n + leadS false s + (tokN (s.drop (leadS false s))).2.2) l) :
    Toks (s.take (leadS false s) ++ ((s.drop (leadS false s)).take (tokN (s.drop (leadS false s))).2.2 ++ r')) n (⟨(tokN (s.drop (leadS false s))).2.1, n + leadS false s, s.take (leadS false s), (s.drop (leadS false s)).take (tokN (s.drop (leadS false s))).2.2⟩ :: l) := by
  have hloc := tok_loc h0 h hr
  obtain ⟨m1, m2, m3, m4⟩ := tokN_len (s.drop (leadS false s))
  have hm := m3 h h0
  have hll := lead_le false s
  obtain ⟨b, u, hbu⟩ : ∃ b u, s.drop (leadS false s) = b :: u := by
    cases e : s.drop (leadS false s) with
    | nil => exact absurd e h0
    | cons b u => exact ⟨b, u, rfl⟩
  obtain ⟨g1, g2, g3⟩ := lead_app false s hbu
  have hlen : (s.take (leadS false s)).length = leadS false s := by simp; omega
  have hxl : ((s.drop (leadS false s)).take (tokN (s.drop (leadS false s))).2.2).length = (tokN (s.drop (leadS false s))).2.2 := by simp only [List.length_take]; omega
  have hL := g3 ((s.drop (leadS false s)).take (tokN (s.drop (leadS false s))).2.2 ++ r') (by
      rw [hbu] at hm ⊢
      obtain ⟨m', e⟩ : ∃ m', (tokN (b :: u)).2.2 = m' + 1 := ⟨(tokN (b :: u)).2.2 - 1, by omega⟩
      rw [e]; exact g1) (by
      rw [hbu] at hm ⊢
      obtain ⟨m', e⟩ : ∃ m', (tokN (b :: u)).2.2 = m' + 1 := ⟨(tokN (b :: u)).2.2 - 1, by omega⟩
      rw [e]; exact g2)
  generalize hX : (s.drop (leadS false s)).take (tokN (s.drop (leadS false s))).2.2 = X at *
  generalize hD : s.take (leadS false s) = D at *
  generalize leadS false s = L at *
  have e1 : (D ++ (X ++ r')).drop L = X ++ r' := by rw [← hlen, List.drop_left]
  have e2 : (D ++ (X ++ r')).take L = D := by rw [← hlen, List.take_left]
  generalize hTT : tokN (s.drop L) = T at *
  have e3 : (X ++ r').drop T.2.2 = r' := by rw [← hxl, List.drop_left]
  have e4 : (X ++ r').take T.2.2 = X := by rw [← hxl, List.take_left]
  have := Toks.tok (s := D ++ (X ++ r')) (n := n) (l := l) (by rw [hL, e1, hloc]; exact h) (by
      rw [hL, e1]; intro e; rw [List.append_eq_nil_iff] at e
      rw [e.1] at hxl; simp at hxl; omega) (by rw [hL, e1, hloc, e3]; exact hl)
  rw [hL, e1, hloc, e2, e4] at this
  exact this

theorem Toks.ahead {s : Bs} {n : Nat} {l : List Tk} (h : Toks s n l) : ∀ k, k < l.length → Toks (joinS (l.take k)) n (l.take k ++ [⟨0, n + (joinS (l.take k)).length, [], []⟩]) := by
  have hz : ∀ n, Toks [] n [⟨0, n, [], []⟩] := fun n => by
    have := Toks.fin (s := []) (n := n) rfl rfl
    simpa [leadS] using this
  induction h with
  | @fin s n h1 h2 =>
    intro k hk
    have : k = 0 := by simp at hk; omega
    subst this
    exact hz n
  | @tok s n l h1 h2 h3 ih =>
    intro k hk
    cases k with
    | zero => exact hz n
    | succ k =>
      have hk' : k < l.length := by simpa using hk
      have i := ih k hk'
      have hj := h3.join.1
      have hsep : Sep ((s.drop (leadS false s)).drop (tokN (s.drop (leadS false s))).2.2) (joinS (l.take k)) := by
        rw [← hj]
        have e : joinS l = joinS (l.take k) ++ joinS (l.drop k) := by rw [← joinS_app, List.take_append_drop]
        rw [e]
        cases joinS (l.take k) with
        | nil => exact .inl rfl
        | cons b t => exact .inr ⟨b, t, rfl, .inl ⟨t ++ joinS (l.drop k), rfl⟩⟩
      have := Toks.more h1 h2 hsep i
      have e1 : joinS (⟨(tokN (s.drop (leadS false s))).2.1, n + leadS false s, s.take (leadS false s), (s.drop (leadS false s)).take (tokN (s.drop (leadS false s))).2.2⟩ :: l.take k) = s.take (leadS false s) ++ ((s.drop (leadS false s)).take (tokN (s.drop (leadS false s))).2.2 ++ joinS (l.take k)) := by
        simp [joinS]
      have hl := lead_le false s
      obtain ⟨m1, m2, m3, m4⟩ := tokN_len (s.drop (leadS false s))
      rw [List.take_succ_cons, e1, List.cons_append]
      have e2 : n + (s.take (leadS false s) ++ ((s.drop (leadS false s)).take (tokN (s.drop (leadS false s))).2.2 ++ joinS (l.take k))).length = n + leadS false s + (tokN (s.drop (leadS false s))).2.2 + (joinS (l.take k)).length := by
        simp only [List.length_append, List.length_take]; omega
      rw [e2]
      exact this

def kx (t : Tk) : Int × Bs := (t.k, t.x)

theorem Toks.shift {s : Bs} {n : Nat} {l : List Tk} (h : Toks s n l) : ∀ n', ∃ l', Toks s n' l' ∧ l'.map kx = l.map kx := by
  induction h with
  | fin h1 h2 => exact fun n' => ⟨_, .fin h1 h2, rfl⟩
  | tok h1 h2 h3 ih =>
    intro n'
    obtain ⟨l', i1, i2⟩ := ih _
    exact ⟨_, .tok h1 h2 i1, by simp only [List.map_cons, i2]; rfl⟩

theorem Toks.again {s : Bs} {n : Nat} {a : List Tk} (h : Toks s n a) {t : Bs} {p : Nat} {b : List Tk} (hb : Toks t p b) : ∃ c, Toks (s ++ 10 :: t) n c ∧ c.map kx = (a.map kx).dropLast ++ b.map kx := by
  induction h with
  | @fin s n h1 h2 =>
    have hL := lead_end t false s h2
    have hdr : (s ++ 10 :: t).drop (leadS false (s ++ 10 :: t)) = t.drop (leadS false t) := by
      rw [hL]
      have : s ++ 10 :: t = (s ++ [10]) ++ t := by simp
      rw [this, Nat.add_comm, ← List.drop_drop]
      have e : ((s ++ [10]) ++ t).drop (leadS false t + (s.length + 1)) = t.drop (leadS false t) := by
        rw [Nat.add_comm, ← List.drop_drop, show s.length + 1 = (s ++ [10]).length by simp, List.drop_left]
      rw [List.drop_drop, Nat.add_comm]
      rw [Nat.add_comm] at e
      first | exact e | (rw [Nat.add_comm]; exact e)
    cases hb with
    | fin g1 g2 =>
      exact ⟨_, .fin (by rw [hdr]; exact g1) (by rw [hdr]; exact g2), rfl⟩
    | tok g1 g2 g3 =>
      obtain ⟨l', i1, i2⟩ := g3.shift (n + leadS false (s ++ 10 :: t) + (tokN ((s ++ 10 :: t).drop (leadS false (s ++ 10 :: t)))).2.2)
      refine ⟨_, .tok (by rw [hdr]; exact g1) (by rw [hdr]; exact g2) (by rw [hdr] at i1 ⊢; exact i1), ?_⟩
      simp only [List.map_cons, i2, List.map_nil, List.dropLast_singleton, List.nil_append, kx, hdr]
  | @tok s n l h1 h2 h3 ih =>
    obtain ⟨c, i1, i2⟩ := ih
    have hsep : Sep ((s.drop (leadS false s)).drop (tokN (s.drop (leadS false s))).2.2) ((s.drop (leadS false s)).drop (tokN (s.drop (leadS false s))).2.2 ++ 10 :: t) := by
      cases (s.drop (leadS false s)).drop (tokN (s.drop (leadS false s))).2.2 with
      | nil => exact .inr ⟨10, t, rfl, .inr ⟨by decide, by decide⟩⟩
      | cons d u => exact .inr ⟨d, u ++ 10 :: t, rfl, .inl ⟨u, rfl⟩⟩
    have := Toks.more h1 h2 hsep i1
    rw [← List.append_assoc ((s.drop (leadS false s)).take _), List.take_append_drop, ← List.append_assoc, List.take_append_drop] at this
    refine ⟨_, this, ?_⟩
    have hne : l.map kx ≠ [] := fun e => by
      obtain ⟨t0, j, -⟩ := h3.join.2.1
      have : l = [] := List.map_eq_nil_iff.1 e
      rw [this] at j; simp at j
    rw [List.map_cons, List.map_cons, i2, List.dropLast_cons_of_ne_nil hne]
    rfl

theorem strS_last : ∀ {s : Bs} {k : Nat}, strS s = some k → s[k - 1]? = some 34
  | [], k, h => by simp [strS] at h
  | [b], k, h => by
    simp only [strS] at h
    split at h
    · rename_i hb; cases h; subst hb; rfl
    · cases h
  | b :: c :: r, k, h => by
    simp only [strS] at h
    split at h
    · rename_i hb; cases h; subst hb; rfl
    split at h
    · cases e : strS r with
      | none => simp [e] at h
      | some q =>
        have i := strS_last e
        have hq := strS_le e
        simp [e] at h
        subst h
        obtain ⟨q', rfl⟩ : ∃ q', q = q' + 1 := ⟨q - 1, by omega⟩
        simpa using i
    split at h
    · cases h
    · cases e : strS (c :: r) with
      | none => simp [e] at h
      | some q =>
        have i := strS_last e
        have hq := strS_le e
        simp [e] at h
        subst h
        obtain ⟨q', rfl⟩ : ∃ q', q = q' + 1 := ⟨q - 1, by omega⟩
        simpa using i

theorem takeWhile_all (p : UInt8 → Bool) (s : Bs) : ∀ c ∈ s.take (runN p s), p c = true := by
  induction s with
  | nil => simp
  | cons b s ih =>
    cases hb : p b with
    | false => simp [runN, hb]
    | true =>
      have e : runN p (b :: s) = runN p s + 1 := by simp [runN, hb]
      rw [e, List.take_succ_cons]
      intro c hc
      rcases List.mem_cons.1 hc with rfl | hc
      · exact hb
      · exact ih c hc

/-- a token ends with a byte of its own -/
theorem tok_last {s : Bs} (hs : s ≠ []) (h0 : (tokN s).1 = 0) {b : UInt8} (hb : (s.take (tokN s).2.2).getLast? = some b) : b.toNat < 128 := by
  cases s with
  | nil => exact absurd rfl hs
  | cons x r =>
  have hT := tokN_cons x r
  have hmem := List.mem_of_getLast? hb
  by_cases c1 : letterB x = true
  · rw [if_pos c1] at hT
    have e : runN wordB (x :: r) = (tokN (x :: r)).2.2 := by
      rw [hT] at h0 ⊢
      split at h0
      · rename_i h; rw [if_pos h]
      · rename_i h; rw [if_neg h]; split at h0
        · cases h0
        · rename_i h'; rw [if_neg h']
    rw [← e] at hmem
    exact word_ascii (takeWhile_all wordB _ b hmem)
  rw [if_neg c1] at hT
  by_cases c2 : digitB x = true
  · rw [if_pos c2] at hT
    have e : runN wordB (x :: r) = (tokN (x :: r)).2.2 := by
      rw [hT] at h0 ⊢
      split at h0
      · rename_i h; rw [if_pos h]
      · cases h0
    rw [← e] at hmem
    exact word_ascii (takeWhile_all wordB _ b hmem)
  rw [if_neg c2] at hT
  by_cases c3 : x = 34
  · rw [if_pos c3] at hT
    by_cases c4 : (strV (x :: r)).2 = 0
    · rw [if_pos c4] at hT
      have e : (tokN (x :: r)).2.2 = (strV (x :: r)).1.length := by rw [hT]
      rw [e, strV_take _ c4] at hb
      unfold strV at hb c4
      simp only [List.drop_succ_cons, List.drop_zero] at hb c4
      cases hk : strS r with
      | none => rw [hk] at hb; simp at hb
      | some k =>
        rw [hk] at hb
        have hl := strS_last hk
        have hle := strS_le hk
        simp only at hb
        rw [List.getLast?_eq_getElem?, List.length_take, List.getElem?_take] at hb
        have e1 : min (k + 1) (x :: r).length - 1 = k := by simp; omega
        rw [e1, if_pos (by omega)] at hb
        obtain ⟨k', rfl⟩ : ∃ k', k = k' + 1 := ⟨k - 1, by omega⟩
        simp at hb hl
        rw [hl] at hb
        cases hb
        decide
    · rw [if_neg c4] at hT
      rw [hT] at h0; cases h0
  rw [if_neg c3] at hT
  by_cases c4 : signV (x :: r) = []
  · rw [if_pos c4] at hT
    rw [hT] at h0; cases h0
  · rw [if_neg c4] at hT
    have e : (tokN (x :: r)).2.2 = (signV (x :: r)).length := by rw [hT]
    rw [e, signV_take] at hmem
    have hall : ∀ y ∈ signsT, ∀ c ∈ y, c.toNat < 128 := by decide
    unfold signV at hmem
    cases hf : signsT.find? (fun y => y.isPrefixOf (x :: r)) with
    | none => rw [hf] at hmem; simp at hmem
    | some y =>
      rw [hf] at hmem
      exact hall y (List.mem_of_find?_eq_some hf) b hmem

theorem Toks.last {s : Bs} {n : Nat} {l : List Tk} (h : Toks s n l) : ∀ (k : Nat) (b : UInt8), k < l.length → (joinS (l.take k)).getLast? = some b → b.toNat < 128 := by
  induction h with
  | @fin s n h1 h2 =>
    intro k b hk hb
    have : k = 0 := by simp at hk; omega
    subst this
    simp [joinS] at hb
  | @tok s n l h1 h2 h3 ih =>
    intro k b hk hb
    cases k with
    | zero => simp [joinS] at hb
    | succ k =>
      have e1 : joinS (⟨(tokN (s.drop (leadS false s))).2.1, n + leadS false s, s.take (leadS false s), (s.drop (leadS false s)).take (tokN (s.drop (leadS false s))).2.2⟩ :: l.take k) = s.take (leadS false s) ++ ((s.drop (leadS false s)).take (tokN (s.drop (leadS false s))).2.2 ++ joinS (l.take k)) := by
        simp [joinS]
      rw [List.take_succ_cons, e1, List.getLast?_append, List.getLast?_append] at hb
      cases hJ : (joinS (l.take k)).getLast? with
      | some c =>
        rw [hJ] at hb
        simp at hb
        subst hb
        exact ih k c (by simpa using hk) hJ
      | none =>
        rw [hJ] at hb
        have hm := (tokN_len (s.drop (leadS false s))).2.2.1 h1 h2
        cases hx : ((s.drop (leadS false s)).take (tokN (s.drop (leadS false s))).2.2).getLast? with
        | none =>
          have := List.getLast?_eq_none_iff.1 hx
          have hl := congrArg List.length this
          have := (tokN_len (s.drop (leadS false s))).1
          simp only [List.length_take, List.length_nil] at hl
          omega
        | some c =>
          rw [hx] at hb
          simp at hb
          subst hb
          exact tok_last h2 h1 hx

end Go.Zam

set_option linter.all false
namespace Go.Proofs
open Go.Shelf Go.RowKit
variable {P : Program} {ρ : Ren}

set_option maxHeartbeats 32000000 in
set_option maxRecDepth 100000 in
theorem AnyPu.internal_strconv_ParseUint_10_b63 (L : LaysPu.n16 P ρ) (t : ByteArray) (hne : t.size ≠ 0) (hmax : t.size ≤ 9223372036854775806) (w : World) :
    Calls P (ρ.f 16) #[.string t, .int .i64 10, .int .i64 63] w fun e w' => e = .returned (Lib.uintTupleM (ρ.t 34) 9223372036854775807 (Lib.parseUintM 9223372036854775807 0 t.data.toList)) ∧ w' = Lib.bytesWorld w (ρ.t 5) t := by
  have mixed := L.mixed
  have t9 := L.t9; have a9 := L.a9; have z9 := L.z9; have v9 := L.v9
  have t3 := L.t3; have a3 := L.a3; have z3 := L.z3; have v3 := L.v3
  have t22 := L.t22; have a22 := L.a22; have z22 := L.z22; have v22 := L.v22
  have t24 := L.t24; have a24 := L.a24; have z24 := L.z24; have v24 := L.v24
  have t4 := L.t4; have a4 := L.a4; have z4 := L.z4; have v4 := L.v4
  have t34 := L.t34; have a34 := L.a34; have z34 := L.z34; have v34 := L.v34
  have t5 := L.t5; have a5 := L.a5; have z5 := L.z5; have v5 := L.v5
  have t36 := L.t36; have a36 := L.a36; have z36 := L.z36; have v36 := L.v36
  have t37 := L.t37; have a37 := L.a37; have z37 := L.z37; have v37 := L.v37
  have t0 := L.t0; have a0 := L.a0; have z0 := L.z0; have v0 := L.v0
  have e19 : ∀ args w, (callFunc (ρ.f 19) args).run P w = .ok (.enter (ρ.f 19) args) w := enters_of L.f19 (by kernel_rfl) rfl
  have hemp : t.toList.isEmpty = false := by
    rw [← decide_eq_emptyBytes]
    exact decide_eq_false (fun h => hne (by rw [h]; rfl))
  have hcv := Lib.run_convert_string_bytes (P := P) w (ρ.t 9) (ρ.t 37) (ρ.t 5) t (u := .string) L.t9 L.t37 L.t5
  have hB : ∀ j, j < t.size → (Lib.bytesWorld w (ρ.t 5) t).cell? ⟨w.heap.size, j, none⟩ = some (.int .u8 (t.data.toList.getD j 0).toNat) := fun j hj => Lib.bytesWorld_cell w (ρ.t 5) t j hj
  obtain ⟨W1, hW1⟩ : ∃ W1, W1 = Lib.bytesWorld w (ρ.t 5) t := ⟨_, rfl⟩
  rw [← hW1] at hcv hB ⊢
  clear hW1
  obtain ⟨bs, hL⟩ : ∃ bs, bs = t.data.toList := ⟨_, rfl⟩
  have hLn : bs.length = t.size := by rw [hL, Lib.size_eq]
  rw [← hL] at hB ⊢
  clear hL
  -- 'maxVal := uint64(1)<<uint(bitSize) - 1': its value, for the walk to take
  have hmv : IntKind.u64.wrap (IntKind.u64.wrap 9223372036854775808 - 1) = 9223372036854775807 := by
    rw [IntKind.wrap_u64, IntKind.wrap_u64]
    decide
  go_enter L.f16, BodyPu.n16_ntmps ρ
  go_wp2
  go_loop [12, 13, 101] (fun vu vn vi => ∃ (k acc : Nat) (a : Int), vu = .bool false ∧ vn = .int .u64 a ∧ vi = .int .i64 k ∧ k ≤ t.size ∧ Hid (a = (acc : Int) ∧ acc ≤ 9223372036854775807 ∧ Lib.parseUintM 9223372036854775807 0 bs = Lib.parseUintM 9223372036854775807 acc (bs.drop k)))
    (fun _ _ vi => t.size - (intOf vi).toNat)
  case atStart => exact ⟨0, 0, 0, rfl, rfl, rfl, by omega, rfl, by omega, rfl⟩
  case round =>
    obtain ⟨k, acc, a, rfl, rfl, rfl, hk, hh⟩ := hrel
    obtain ⟨ha, hacc, hdec⟩ := hh.out
    clear hh
    have a0 : 0 ≤ a := by omega
    have a1 : a ≤ 9223372036854775807 := by omega
    by_cases hkn : k < t.size
    · have hc := hB k hkn
      have hdrop : bs.drop k = bs[k]'(by omega) :: bs.drop (k + 1) := List.drop_eq_getElem_cons (by omega)
      have hget : bs.getD k 0 = bs[k]'(by omega) := by simp [List.getD, List.getElem?_eq_getElem (show k < bs.length by omega)]
      rw [hdrop] at hdec
      rw [hget] at hc
      generalize bs[k]'(by omega) = c at hc hdec
      have hc256 : c.toNat < 256 := c.toNat_lt
      clear hB hdrop hget
      by_cases hdig : 48 ≤ c.toNat ∧ c.toNat ≤ 57
      · obtain ⟨hd0, hd1⟩ := hdig
        by_cases hcut : 1844674407370955162 ≤ acc
        · have hF : Lib.parseUintM 9223372036854775807 acc (c :: bs.drop (k + 1)) = .range := by simp [Lib.parseUintM, hd0, hd1, hcut]
          rw [hF] at hdec
          have icut : 1844674407370955162 ≤ a := by omega
          clear hcut hacc hF ha
          go_wp2
          go_ret2
          exact ⟨rfl, rfl⟩
        by_cases hov2 : 18446744073709551616 ≤ acc * 10 + (c.toNat - 48)
        · have hov : 9223372036854775807 < acc * 10 + (c.toNat - 48) := by omega
          have hF : Lib.parseUintM 9223372036854775807 acc (c :: bs.drop (k + 1)) = .range := by simp [Lib.parseUintM, hd0, hd1, hcut, hov]
          rw [hF] at hdec
          have icut : a < 1844674407370955162 := by omega
          have iov : 18446744073709551616 ≤ a * 10 + ((c.toNat : Int) - 48) := by omega
          have hwr : IntKind.u64.wrap (a * 10 + ((c.toNat : Int) - 48)) = a * 10 + ((c.toNat : Int) - 48) - 18446744073709551616 := by
            rw [IntKind.wrap_u64]
            omega
          clear hcut hacc hF hov hov2 ha
          go_wp2
          go_ret2
          exact ⟨rfl, rfl⟩
        by_cases hov : 9223372036854775807 < acc * 10 + (c.toNat - 48)
        · -- OVER THE SIZE
          have hF : Lib.parseUintM 9223372036854775807 acc (c :: bs.drop (k + 1)) = .range := by simp [Lib.parseUintM, hd0, hd1, hcut, hov]
          rw [hF] at hdec
          have iov : 9223372036854775807 < a * 10 + ((c.toNat : Int) - 48) := by omega
          have iov2 : a * 10 + ((c.toNat : Int) - 48) < 18446744073709551616 := by omega
          have icut : a < 1844674407370955162 := by omega
          clear hcut hacc hF hov hov2 ha
          go_wp2
          go_ret2
          exact ⟨rfl, rfl⟩
        · have hF : Lib.parseUintM 9223372036854775807 acc (c :: bs.drop (k + 1)) = Lib.parseUintM 9223372036854775807 (acc * 10 + (c.toNat - 48)) (bs.drop (k + 1)) := by simp [Lib.parseUintM, hd0, hd1, hcut, hov]
          have HN : Hid (a * 10 + ((c.toNat : Int) - 48) = ((acc * 10 + (c.toNat - 48) : Nat) : Int) ∧ acc * 10 + (c.toNat - 48) ≤ 9223372036854775807 ∧ Lib.parseUintM 9223372036854775807 0 bs = Lib.parseUintM 9223372036854775807 (acc * 10 + (c.toNat - 48)) (bs.drop (k + 1))) := Lib.hid ⟨by omega, by omega, hdec.trans hF⟩
          have iov : a * 10 + ((c.toNat : Int) - 48) ≤ 9223372036854775807 := by omega
          have icut : a < 1844674407370955162 := by omega
          clear hcut hacc hF hov hov2 hdec ha
          go_wp2
          refine ⟨⟨k + 1, acc * 10 + (c.toNat - 48), a * 10 + ((c.toNat : Int) - 48), rfl, (by first | rfl | (congr 1; omega)), (by first | rfl | (congr 1; omega)), by omega, HN⟩, by simp [intOf]; omega⟩
      · -- NO DIGIT: whatever way the text goes: (0, ErrSyntax)
        have hF : Lib.parseUintM 9223372036854775807 acc (c :: bs.drop (k + 1)) = Lib.NumEnd.syntax := by simp [Lib.parseUintM, hdig]
        rw [hF] at hdec
        clear hacc hF ha
        have hv0 := bits_lo_u8 .or (c.toNat : Int) 32
        have hv1 := bits_hi_u8 .or (c.toNat : Int) 32
        have hu0 := bits_lo_u8 .or 95 32       -- at '_' the walk writes the byte out
        have hu1 := bits_hi_u8 .or 95 32
        go_wp2_with (go_at_fn (ρ.f 19); refine (AnyPu.internal_strconv_lower { L with } _ _).mono ?_; rintro e w' ⟨rfl, rfl⟩)
        all_goals go_ret2
        all_goals first | exact ⟨rfl, rfl⟩ | exact ⟨by rw [hdec]; rfl, rfl⟩
    · -- THE BYTES ARE AT AN END
      have hkk : k = t.size := by omega
      subst hkk
      have hF : Lib.parseUintM 9223372036854775807 acc (bs.drop t.size) = .ok acc := by rw [List.drop_eq_nil_of_le (by omega)]; rfl
      rw [hF] at hdec
      subst ha
      clear hacc hF a0 a1
      go_wp2
      go_ret2
      exact ⟨rfl, rfl⟩



theorem AnyPu.internal_strconv_ParseUint_10_at63 (L : LaysPu.n16 P ρ) (t : ByteArray) (hmax : t.size ≤ 9223372036854775806) (w : World) :
    Calls P (ρ.f 16) #[.string t, .int .i64 10, .int .i64 63] w fun e w' => e = .returned (Lib.uintTupleM (ρ.t 34) 9223372036854775807 (Lib.parseUintB 63 t.data.toList)) ∧ (w' = w ∨ w' = Lib.bytesWorld w (ρ.t 5) t) := by
  have eM : (2 : Nat) ^ 63 - 1 = 9223372036854775807 := by decide
  by_cases h0 : t.size = 0
  · have ht : t = ⟨#[]⟩ := by
      apply ByteArray.ext
      exact Array.eq_empty_of_size_eq_zero h0
    subst ht
    exact (AnyPu.internal_strconv_ParseUint_empty { L with } 10 63 w).mono fun e w' ⟨he, hw⟩ => ⟨he, Or.inl hw⟩
  · have hne : t.data.toList ≠ [] := fun h => h0 (by rw [Lib.size_eq, h]; rfl)
    refine (AnyPu.internal_strconv_ParseUint_10_b63 { L with } t h0 hmax w).mono fun e w' ⟨he, hw⟩ => ⟨?_, Or.inr hw⟩
    rw [he, Lib.parseUintB, if_neg hne, eM]


set_option maxHeartbeats 4000000 in
set_option maxRecDepth 100000 in
theorem Any.strconv_ParseUint_10_at63_ok (L : LaysPu.n14 P ρ) (s : ByteArray) (hmax : s.size ≤ 9223372036854775806) (u : Nat) (h : Lib.parseUintB 63 s.data.toList = .ok u) (w : World) :
    Calls P (ρ.f 14) #[.string s, .int .i64 10, .int .i64 63] w fun e w' => e = .returned (.tuple #[.int .u64 u, .nilIface]) ∧ (w' = w ∨ w' = Lib.bytesWorld w (ρ.t 5) s) := by
  have mixed := L.mixed
  have t9 := L.t9; have a9 := L.a9; have z9 := L.z9; have v9 := L.v9
  have t3 := L.t3; have a3 := L.a3; have z3 := L.z3; have v3 := L.v3
  have t22 := L.t22; have a22 := L.a22; have z22 := L.z22; have v22 := L.v22
  have t24 := L.t24; have a24 := L.a24; have z24 := L.z24; have v24 := L.v24
  have t25 := L.t25; have a25 := L.a25; have z25 := L.z25; have v25 := L.v25
  have t4 := L.t4; have a4 := L.a4; have z4 := L.z4; have v4 := L.v4
  have e16 : ∀ args w, (callFunc (ρ.f 16) args).run P w = .ok (.enter (ρ.f 16) args) w := enters_of L.f16 (by kernel_rfl) rfl
  have hI := AnyPu.internal_strconv_ParseUint_10_at63 { L with } s hmax w
  rw [h] at hI
  have hI : Calls P (ρ.f 16) #[.string s, .int .i64 10, .int .i64 63] w fun e w' => e = .returned (.tuple #[.int .u64 u, .nilIface]) ∧ (w' = w ∨ w' = Lib.bytesWorld w (ρ.t 5) s) := hI
  clear h
  go_enter L.f14, BodyPu.n14_ntmps ρ
  go_wp2_with (go_at_fn (ρ.f 16); refine hI.mono ?_; rintro e W1 ⟨rfl, hW⟩)
  go_wp2
  go_ret2
  exact ⟨rfl, hW⟩

set_option maxHeartbeats 4000000 in
set_option maxRecDepth 100000 in
theorem Any.strconv_ParseUint_10_at63_syntax (L : LaysPu.n14 P ρ) (s : ByteArray) (hlim : s.size ≤ 281474976710656) (h : Lib.parseUintB 63 s.data.toList = Lib.NumEnd.syntax) (ev : Value) (w : World) (hv : w.cell? ⟨(ρ.g 0), 0, none⟩ = some ev) (hev : ev = .nilIface ∨ ∃ te pe, ev = .iface te pe) :
    Calls P (ρ.f 14) #[.string s, .int .i64 10, .int .i64 63] w fun e w' => ∃ N, e = .returned (.tuple #[.int .u64 0, .iface (ρ.t 39) (.pointer (some ⟨N, 0, none⟩))]) ∧ w.heap.size ≤ N ∧ w'.heap[N]? = some (.cells #[.string ⟨#[80, 97, 114, 115, 101, 85, 105, 110, 116]⟩, .string s, ev] (ρ.t 44) (0, 0)) ∧ Below w.heap.size w w' := by
  have mixed := L.mixed
  have t9 := L.t9; have a9 := L.a9; have z9 := L.z9; have v9 := L.v9
  have t3 := L.t3; have a3 := L.a3; have z3 := L.z3; have v3 := L.v3
  have t22 := L.t22; have a22 := L.a22; have z22 := L.z22; have v22 := L.v22
  have t24 := L.t24; have a24 := L.a24; have z24 := L.z24; have v24 := L.v24
  have t25 := L.t25; have a25 := L.a25; have z25 := L.z25; have v25 := L.v25
  have t4 := L.t4; have a4 := L.a4; have z4 := L.z4; have v4 := L.v4
  have e16 : ∀ args w, (callFunc (ρ.f 16) args).run P w = .ok (.enter (ρ.f 16) args) w := enters_of L.f16 (by kernel_rfl) rfl
  have e17 : ∀ args w, (callFunc (ρ.f 17) args).run P w = .ok (.enter (ρ.f 17) args) w := enters_of L.f17 (by kernel_rfl) rfl
  have hG : (ρ.g 0) < w.heap.size := Lib.lt_of_cell hv
  have hI := AnyPu.internal_strconv_ParseUint_10_at63 { L with } s (by omega) w
  rw [h] at hI
  have hI : Calls P (ρ.f 16) #[.string s, .int .i64 10, .int .i64 63] w fun e w' => e = .returned (.tuple #[.int .u64 0, .iface (ρ.t 34) (.int .i64 2)]) ∧ (w' = w ∨ w' = Lib.bytesWorld w (ρ.t 5) s) := hI
  clear h
  go_enter L.f14, BodyPu.n14_ntmps ρ
  go_wp2_with (go_at_fn (ρ.f 16); refine hI.mono ?_)
  rintro e W1 ⟨rfl, hW⟩
  have hb1 : Below w.heap.size w W1 := by
    rcases hW with rfl | rfl
    · exact Below.refl _ _
    · exact Lib.bytesWorld_below _ _ _
  have hv1 : W1.cell? ⟨(ρ.g 0), 0, none⟩ = some ev := (hb1.cell (show (⟨(ρ.g 0), 0, none⟩ : Addr).block < w.heap.size from hG)).trans hv
  clear hW
  go_wp2_with (go_at_fn (ρ.f 17); refine (AnyPu.strconv_toError_syntax { L with } ⟨#[80, 97, 114, 115, 101, 85, 105, 110, 116]⟩ s 10 63 ev _ hlim ?_ hev).mono ?_)
  · exact hv1
  rintro e W2 ⟨N, rfl, h1, h2, h3⟩
  go_wp2
  go_ret2
  exact ⟨N, rfl, Nat.le_trans hb1.size h1, h2, hb1.trans (h3.mono hb1.size)⟩

set_option maxHeartbeats 4000000 in
set_option maxRecDepth 100000 in
theorem Any.strconv_ParseUint_10_at63_range (L : LaysPu.n14 P ρ) (s : ByteArray) (hlim : s.size ≤ 281474976710656) (h : Lib.parseUintB 63 s.data.toList = .range) (ev : Value) (w : World) (hv : w.cell? ⟨(ρ.g 1), 0, none⟩ = some ev) (hev : ev = .nilIface ∨ ∃ te pe, ev = .iface te pe) :
    Calls P (ρ.f 14) #[.string s, .int .i64 10, .int .i64 63] w fun e w' => ∃ N, e = .returned (.tuple #[.int .u64 9223372036854775807, .iface (ρ.t 39) (.pointer (some ⟨N, 0, none⟩))]) ∧ w.heap.size ≤ N ∧ w'.heap[N]? = some (.cells #[.string ⟨#[80, 97, 114, 115, 101, 85, 105, 110, 116]⟩, .string s, ev] (ρ.t 44) (0, 0)) ∧ Below w.heap.size w w' := by
  have mixed := L.mixed
  have t9 := L.t9; have a9 := L.a9; have z9 := L.z9; have v9 := L.v9
  have t3 := L.t3; have a3 := L.a3; have z3 := L.z3; have v3 := L.v3
  have t22 := L.t22; have a22 := L.a22; have z22 := L.z22; have v22 := L.v22
  have t24 := L.t24; have a24 := L.a24; have z24 := L.z24; have v24 := L.v24
  have t25 := L.t25; have a25 := L.a25; have z25 := L.z25; have v25 := L.v25
  have t4 := L.t4; have a4 := L.a4; have z4 := L.z4; have v4 := L.v4
  have e16 : ∀ args w, (callFunc (ρ.f 16) args).run P w = .ok (.enter (ρ.f 16) args) w := enters_of L.f16 (by kernel_rfl) rfl
  have e17 : ∀ args w, (callFunc (ρ.f 17) args).run P w = .ok (.enter (ρ.f 17) args) w := enters_of L.f17 (by kernel_rfl) rfl
  have hG : (ρ.g 1) < w.heap.size := Lib.lt_of_cell hv
  have hI := AnyPu.internal_strconv_ParseUint_10_at63 { L with } s (by omega) w
  rw [h] at hI
  have hI : Calls P (ρ.f 16) #[.string s, .int .i64 10, .int .i64 63] w fun e w' => e = .returned (.tuple #[.int .u64 9223372036854775807, .iface (ρ.t 34) (.int .i64 1)]) ∧ (w' = w ∨ w' = Lib.bytesWorld w (ρ.t 5) s) := hI
  clear h
  go_enter L.f14, BodyPu.n14_ntmps ρ
  go_wp2_with (go_at_fn (ρ.f 16); refine hI.mono ?_)
  rintro e W1 ⟨rfl, hW⟩
  have hb1 : Below w.heap.size w W1 := by
    rcases hW with rfl | rfl
    · exact Below.refl _ _
    · exact Lib.bytesWorld_below _ _ _
  have hv1 : W1.cell? ⟨(ρ.g 1), 0, none⟩ = some ev := (hb1.cell (show (⟨(ρ.g 1), 0, none⟩ : Addr).block < w.heap.size from hG)).trans hv
  clear hW
  go_wp2_with (go_at_fn (ρ.f 17); refine (AnyPu.strconv_toError_range { L with } ⟨#[80, 97, 114, 115, 101, 85, 105, 110, 116]⟩ s 10 63 ev _ hlim ?_ hev).mono ?_)
  · exact hv1
  rintro e W2 ⟨N, rfl, h1, h2, h3⟩
  go_wp2
  go_ret2
  exact ⟨N, rfl, Nat.le_trans hb1.size h1, h2, hb1.trans (h3.mono hb1.size)⟩


end Go.Proofs

namespace Go.Proofs.Zk
open Go Go.Zam Go.Proofs
set_option maxRecDepth 100000
theorem tcf7 : compF Tryd.prog [7] Tryd.f7 = some (irTkLex 15 16 17 38 28) := by kernel_rfl
theorem h7 : HasT Tryd.prog [7] 7 (irTkLex 15 16 17 38 28) := ⟨_, Tryd.func7, tcf7⟩
theorem tcf9 : compF Tryd.prog [] Tryd.f9 = some (irTkIsKey 19 18) := by kernel_rfl
theorem h9 : Has Tryd.prog 9 (irTkIsKey 19 18) := ⟨_, Tryd.func9, tcf9⟩
theorem tcf11 : compF Tryd.prog [] Tryd.f11 = some (irTkIsName 20 9 21) := by kernel_rfl
theorem h11 : Has Tryd.prog 11 (irTkIsName 20 9 21) := ⟨_, Tryd.func11, tcf11⟩
theorem tcf13 : compF Tryd.prog [3] Tryd.f13 = some (irTkJoin 24 25 49 5 28) := by kernel_rfl
theorem h13 : HasT Tryd.prog [3] 13 (irTkJoin 24 25 49 5 28) := ⟨_, Tryd.func13, tcf13⟩
theorem tcf14 : compF Tryd.prog [] Tryd.f14 = some (irR4Same) := by kernel_rfl
theorem h14 : Has Tryd.prog 14 (irR4Same) := ⟨_, Tryd.func14, tcf14⟩
theorem tcf15 : compF Tryd.prog [] Tryd.f15 = some (irRnBad 26) := by kernel_rfl
theorem h15 : Has Tryd.prog 15 (irRnBad 26) := ⟨_, Tryd.func15, tcf15⟩
theorem tcf16 : compF Tryd.prog [] Tryd.f16 = some (irScLead 27 28 29 30) := by kernel_rfl
theorem h16 : Has Tryd.prog 16 (irScLead 27 28 29 30) := ⟨_, Tryd.func16, tcf16⟩
theorem tcf17 : compF Tryd.prog [] Tryd.f17 = some (irScNext 27 20 31 9 21 32 33 34 28) := by kernel_rfl
theorem h17 : Has Tryd.prog 17 (irScNext 27 20 31 9 21 32 33 34 28) := ⟨_, Tryd.func17, tcf17⟩
theorem tcf18 : compF Tryd.prog [] Tryd.f18 = some (irSlHas 35) := by kernel_rfl
theorem h18 : Has Tryd.prog 18 (irSlHas 35) := ⟨_, Tryd.func18, tcf18⟩
theorem tcf35 : compF Tryd.prog [] Tryd.f35 = some (irSlIdx) := by kernel_rfl
theorem h35 : Has Tryd.prog 35 (irSlIdx) := ⟨_, Tryd.func35, tcf35⟩
theorem tcf19 : compF Tryd.prog [] Tryd.f19 = some (irTkKeys) := by kernel_rfl
theorem h19 : Has Tryd.prog 19 (irTkKeys) := ⟨_, Tryd.func19, tcf19⟩
theorem tcf20 : compF Tryd.prog [] Tryd.f20 = some (irLetter) := by kernel_rfl
theorem h20 : Has Tryd.prog 20 (irLetter) := ⟨_, Tryd.func20, tcf20⟩
theorem tcf21 : compF Tryd.prog [] Tryd.f21 = some (irDigit) := by kernel_rfl
theorem h21 : Has Tryd.prog 21 (irDigit) := ⟨_, Tryd.func21, tcf21⟩
theorem tcf27 : compF Tryd.prog [] Tryd.f27 = some (irScMore) := by kernel_rfl
theorem h27 : Has Tryd.prog 27 (irScMore) := ⟨_, Tryd.func27, tcf27⟩
theorem tcf28 : compF Tryd.prog [] Tryd.f28 = some (irTkBlank) := by kernel_rfl
theorem h28 : Has Tryd.prog 28 (irTkBlank) := ⟨_, Tryd.func28, tcf28⟩
theorem tcf29 : compF Tryd.prog [] Tryd.f29 = some (irScHash) := by kernel_rfl
theorem h29 : Has Tryd.prog 29 (irScHash) := ⟨_, Tryd.func29, tcf29⟩
theorem tcf30 : compF Tryd.prog [] Tryd.f30 = some (irScNoNl) := by kernel_rfl
theorem h30 : Has Tryd.prog 30 (irScNoNl) := ⟨_, Tryd.func30, tcf30⟩
theorem tcf31 : compF Tryd.prog [] Tryd.f31 = some (irScWord 27 38) := by kernel_rfl
theorem h31 : Has Tryd.prog 31 (irScWord 27 38) := ⟨_, Tryd.func31, tcf31⟩
theorem tcf38 : compF Tryd.prog [] Tryd.f38 = some (irScWordB 20 21) := by kernel_rfl
theorem h38 : Has Tryd.prog 38 (irScWordB 20 21) := ⟨_, Tryd.func38, tcf38⟩
theorem tcf33 : compF Tryd.prog [] Tryd.f33 = some (irScStr 40) := by kernel_rfl
theorem h33 : Has Tryd.prog 33 (irScStr 40) := ⟨_, Tryd.func33, tcf33⟩
theorem tcf34 : compF Tryd.prog [] Tryd.f34 = some (irScSign 41 42) := by kernel_rfl
theorem h34 : Has Tryd.prog 34 (irScSign 41 42) := ⟨_, Tryd.func34, tcf34⟩
theorem tcf40 : compF Tryd.prog [4] Tryd.f40 = some (irRnUnquote 46 47 25 49 5) := by kernel_rfl
theorem h40 : HasT Tryd.prog [4] 40 (irRnUnquote 46 47 25 49 5) := ⟨_, Tryd.func40, tcf40⟩
theorem tcf41 : compF Tryd.prog [] Tryd.f41 = some (irTkSigns) := by kernel_rfl
theorem h41 : Has Tryd.prog 41 (irTkSigns) := ⟨_, Tryd.func41, tcf41⟩
theorem tcf10 : compF Tryd.prog [] Tryd.f10 = some (irIsKey) := by kernel_rfl
theorem h10 : Has Tryd.prog 10 (irIsKey) := ⟨_, Tryd.func10, tcf10⟩
theorem tcf12 : compF Tryd.prog [] Tryd.f12 = some (irIsName 10 22 23) := by kernel_rfl
theorem h12 : Has Tryd.prog 12 (irIsName 10 22 23) := ⟨_, Tryd.func12, tcf12⟩
theorem tcf22 : compF Tryd.prog [] Tryd.f22 = some (irDigit) := by kernel_rfl
theorem h22 : Has Tryd.prog 22 (irDigit) := ⟨_, Tryd.func22, tcf22⟩
theorem tcf23 : compF Tryd.prog [] Tryd.f23 = some (irLetter) := by kernel_rfl
theorem h23 : Has Tryd.prog 23 (irLetter) := ⟨_, Tryd.func23, tcf23⟩
end Go.Proofs.Zk

namespace Go.Proofs.Zk
open Go Go.Zam Go.Proofs Go.Shelf
set_option maxRecDepth 100000
def bldRen : Ren := ⟨fun n => match n with | 240 => 36 | 276 => 43 | 169 => 25 | n => n, fun t => match t with | 0 => 0 | 3 => 3 | 4 => 4 | 5 => 5 | 9 => 9 | 20 => 20 | 37 => 47 | 70 => 46 | 72 => 49 | 127 => 61 | 164 => 66 | n => n, fun g => g⟩

theorem lay240 : Lays.n240 Tryd.prog bldRen where
  mixed := by kernel_rfl
  f240 := Tryd.func36.trans (congrArg some (by kernel_rfl))
  f276 := Tryd.func43.trans (congrArg some (by kernel_rfl))
  t0 := by kernel_rfl
  a0 := Tryd.isAgg0
  z0 := fun _ => by kernel_rfl
  v0 := Tryd.zeroValue0
  t4 := by kernel_rfl
  a4 := Tryd.isAgg4
  z4 := fun _ => by kernel_rfl
  v4 := Tryd.zeroValue4
  t9 := by kernel_rfl
  a9 := Tryd.isAgg9
  z9 := fun _ => by kernel_rfl
  v9 := Tryd.zeroValue9
  t20 := by kernel_rfl
  a20 := Tryd.isAgg20
  z20 := fun _ => by kernel_rfl
  v20 := Tryd.zeroValue20
  t70 := by kernel_rfl
  a70 := Tryd.isAgg46
  z70 := fun _ => by kernel_rfl
  v70 := Tryd.zeroValue46
  t72 := by kernel_rfl
  a72 := Tryd.isAgg49
  z72 := fun _ => by kernel_rfl
  v72 := Tryd.zeroValue49
  t164 := by kernel_rfl
  a164 := Tryd.isAgg66
  z164 := fun _ => by kernel_rfl
  v164 := Tryd.zeroValue66
theorem lay169 : Lays.n169 Tryd.prog bldRen where
  mixed := by kernel_rfl
  f169 := Tryd.func25.trans (congrArg some (by kernel_rfl))
  t0 := by kernel_rfl
  a0 := Tryd.isAgg0
  z0 := fun _ => by kernel_rfl
  v0 := Tryd.zeroValue0
  t3 := by kernel_rfl
  a3 := Tryd.isAgg3
  z3 := fun _ => by kernel_rfl
  v3 := Tryd.zeroValue3
  t9 := by kernel_rfl
  a9 := Tryd.isAgg9
  z9 := fun _ => by kernel_rfl
  v9 := Tryd.zeroValue9
  t37 := by kernel_rfl
  a37 := Tryd.isAgg47
  z37 := fun _ => by kernel_rfl
  v37 := Tryd.zeroValue47
  t70 := by kernel_rfl
  a70 := Tryd.isAgg46
  z70 := fun _ => by kernel_rfl
  v70 := Tryd.zeroValue46
  t72 := by kernel_rfl
  a72 := Tryd.isAgg49
  z72 := fun _ => by kernel_rfl
  v72 := Tryd.zeroValue49
  t127 := by kernel_rfl
  a127 := Tryd.isAgg61
  z127 := fun _ => by kernel_rfl
  v127 := Tryd.zeroValue61
theorem bldExtra : Builder.Extra Tryd.prog bldRen where
  sizeBuilder := by kernel_rfl
  liesBuilder := by kernel_rfl
  t5 := by kernel_rfl
  a5 := Tryd.isAgg5
  z5 := fun _ => by kernel_rfl
  v5 := Tryd.zeroValue5
  infoByte := by kernel_rfl
  cellsByte := by kernel_rfl
  sizeByte := by kernel_rfl
  neB5 := by decide

theorem copyCheckOk {H : Hp} {i : Nat} {x a : A} (hi : H[i]? = some (.box 49 [a, x])) (ha : a = .d .nilp ∨ a = .ptr i 0) :
    ACall Tryd.prog 36 [.ptr i 0] H (fun r H' => r = .tup [] ∧ H' = H.set i (.box 49 [.ptr i 0, x])) := copyCheck_acall lay240 bldExtra.toX72 hi ha

theorem stringOk {H : Hp} {i t : Nat} {a : A} {s : List UInt8} (hi : H[i]? = some (.box 49 [a, .osl true 1 (byteRows s) t])) (ht : H[t]? = some (.tok s.length 1 5)) (hlen : s.length ≤ 4611686018427387904) :
    ACall Tryd.prog 25 [.ptr i 0] H (fun r H' => r = .d (.str s) ∧ H' = H) := string_acall lay169 bldExtra hi ht hlen
end Go.Proofs.Zk

namespace Go.Proofs.Zk
open Go Go.Zam Go.Proofs
open Go.RowKit (Below)
set_option maxRecDepth 100000
set_option linter.all false
set_option maxHeartbeats 1000000

theorem indexOk : IndexOk Tryd.prog 46 := fun s c H => by
  refine leaf (args := [.str s, .int .u8 c.toNat]) (x := .int .i64 (Lib.indexByte s c)) (fun w σ vs _ hl hv => ?_) H
  match vs, hl with
  | [v0, v1], _ =>
  have e0 := (hv 0 v0 _ rfl rfl).str_inv
  have e1 := (hv 1 v1 _ rfl rfl).int_inv
  subst e0; subst e1
  refine (Tryd.strings_IndexByte ⟨s.toArray⟩ c.toNat w).mono ?_
  rintro e w' ⟨rfl, rfl⟩
  refine ⟨_, rfl, Below.refl _ _, fun σ => ?_⟩
  have : (Int.toNat (c.toNat : Int)).toUInt8 = c := by simp
  rw [this]
  exact .int _ _

theorem prefixOk : PrefixOk Tryd.prog 42 := fun s p H => by
  refine leaf (args := [.str s, .str p]) (x := .bool (p.isPrefixOf s)) (fun w σ vs _ hl hv => ?_) H
  match vs, hl with
  | [v0, v1], _ =>
  have e0 := (hv 0 v0 _ rfl rfl).str_inv
  have e1 := (hv 1 v1 _ rfl rfl).str_inv
  subst e0; subst e1
  refine (Tryd.strings_HasPrefix ⟨s.toArray⟩ ⟨p.toArray⟩ w).mono ?_
  rintro e w' ⟨rfl, rfl⟩
  exact ⟨_, rfl, Below.refl _ _, fun σ => .bool _⟩

theorem decodeOk {H0 : Hp} (hG : TabsG 0 1 2 3 H0) : DecodeOk Tryd.prog H0 26 := fun s H hp => by
  refine leafG (args := [.str s]) hG (fun w σ vs hT hl hv => ?_) H hp
  match vs, hl with
  | [v0], _ =>
  have e0 := (hv 0 v0 _ rfl rfl).str_inv
  subst e0
  refine (Tryd.utf8_DecodeRuneInString ⟨s.toArray⟩ w hT.1).mono ?_
  rintro e w' ⟨rfl, hb⟩
  refine ⟨_, rfl, hb, fun κ => ?_⟩
  rw [decodeGo_eq]
  refine VR.tup [_, _] [_, _] rfl fun i v a hi ha => ?_
  match i with
  | 0 => cases hi; cases ha; exact .d (.int _ _)
  | 1 => cases hi; cases ha; exact .d (.int _ _)
  | i + 2 => cases hi

theorem numberCalls (s : ByteArray) (hlim : s.size ≤ 1048576) (w : World) (h0 : ∃ te pe, w.cell? ⟨2, 0, none⟩ = some (.iface te pe)) (h1 : ∃ te pe, w.cell? ⟨3, 0, none⟩ = some (.iface te pe)) :
    Calls Tryd.prog 32 #[.string s] w fun e w' => e = .returned (.int .i64 (if numOk s.data.toList then 0 else 23)) ∧ Below w.heap.size w w' := by
  obtain ⟨t0, p0, h0⟩ := h0
  obtain ⟨t1, p1, h1⟩ := h1
  rcases h : Lib.parseUintB 63 s.data.toList with u | _ | _
  · have hr : numOk s.data.toList = true := by simp only [numOk, h]
    rw [hr]
    go_enter Tryd.func32, Tryd.ntmps32
    go_wp2_with (go_at_call 39; refine (Any.strconv_ParseUint_10_at63_ok Tryd.laysPu14 s (by omega) u h _).mono ?_; rintro e w' ⟨rfl, hw⟩)
    go_wp2
    go_ret
    refine ⟨by first | rfl | (congr 2; omega), ?_⟩
    rcases hw with rfl | rfl
    · exact Below.refl _ _
    · exact Lib.bytesWorld_below _ _ _
  · have hr : numOk s.data.toList = false := by simp only [numOk, h]
    rw [hr]
    go_enter Tryd.func32, Tryd.ntmps32
    go_wp2_with (go_at_call 39; refine (Any.strconv_ParseUint_10_at63_syntax Tryd.laysPu14 s (by omega) h (.iface t0 p0) _ ?_ (.inr ⟨_, _, rfl⟩)).mono ?_)
    · exact h0
    rintro e W1 ⟨N, rfl, -, -, hb⟩
    go_wp2
    go_ret
    exact ⟨rfl, hb⟩
  · have hr : numOk s.data.toList = false := by simp only [numOk, h]
    rw [hr]
    go_enter Tryd.func32, Tryd.ntmps32
    go_wp2_with (go_at_call 39; refine (Any.strconv_ParseUint_10_at63_range Tryd.laysPu14 s (by omega) h (.iface t1 p1) _ ?_ (.inr ⟨_, _, rfl⟩)).mono ?_)
    · exact h1
    rintro e W1 ⟨N, rfl, -, -, hb⟩
    go_wp2
    go_ret
    exact ⟨rfl, hb⟩

theorem numberOk {H0 : Hp} (hG : TabsG 0 1 2 3 H0) : NumOk Tryd.prog H0 32 := fun s H hp hl => by
  refine leafG (args := [.str s]) (x := .d _) hG (fun w σ vs hT hl' hv => ?_) H hp
  match vs, hl' with
  | [v0], _ =>
  have e0 := (hv 0 v0 _ rfl rfl).str_inv
  subst e0
  refine (numberCalls ⟨s.toArray⟩ (by simpa [ByteArray.size] using hl) w hT.2.1 hT.2.2).mono ?_
  rintro e w' ⟨rfl, hb⟩
  exact ⟨_, rfl, hb, fun κ => .d (.int _ _)⟩

theorem cfWB : compF Tryd.prog [] Tryd.f47 = some (irWriteByte 36 5) := by kernel_rfl
theorem copyOk : CopyOk Tryd.prog 36 49 := fun H i x a hi ha => copyCheckOk hi ha
theorem writeBOk : WriteBOk Tryd.prog 47 49 := fun H i t a bs c => writeByte_acall Tryd.func47 cfWB copyOk H i t a bs c
theorem stringOk' : StringOk Tryd.prog 25 49 := fun H i t a s hi ht hl => stringOk hi ht (by omega)
theorem unquoteOk (s : Bs) (H : Hp) (hs : s.length ≤ 1048576) : ACall Tryd.prog 40 [.d (.str s)] H (fun r H' => r = unqR (unqV s) ∧ H' = H) := h40.unquote indexOk writeBOk stringOk' s hs H

theorem letterOk : ByteOk Tryd.prog 20 letterB := h20.letter
theorem digitOk : ByteOk Tryd.prog 21 digitB := h21.digit
theorem isKeyOk (s : Bs) (H : Hp) : ACall Tryd.prog 9 [.d (.str s)] H (fun r H' => r = .d (.bool (decide (s ∈ keysL))) ∧ H' = H) := h9.isKey h19 h18 h35 s H
theorem isNameOk (s : Bs) (H : Hp) : ACall Tryd.prog 11 [.d (.str s)] H (fun r H' => r = .d (.bool (isNameB s)) ∧ H' = H) := h11.isName letterOk digitOk isKeyOk s H
theorem wordOk {H : Hp} {i : Nat} {ts : TypeId} {text : Bs} {n : Nat} (hi : H[i]? = some (scan ts text n)) (hn : n ≤ text.length) (hl : text.length ≤ 1048576) :
    ACall Tryd.prog 31 [.ptr i 0] H (fun r H' => r = .d (.str ((text.drop n).take (Zam.runN Zam.wordB (text.drop n)))) ∧ H' = H.set i (scan ts text (n + Zam.runN Zam.wordB (text.drop n)))) :=
  h31.word h27 (by kernel_rfl) (h38.wordB letterOk digitOk) hi hn (by omega)
theorem leadOk {H : Hp} {i : Nat} {text : Bs} {n : Nat} (hi : H[i]? = some (scan 38 text n)) (hn : n ≤ text.length) (hl : text.length ≤ 1048576) :
    ACall Tryd.prog 16 [.ptr i 0] H (fun r H' => r = .d (.str ((text.drop n).take (leadS false (text.drop n)))) ∧ H' = H.set i (scan 38 text (n + leadS false (text.drop n)))) :=
  h16.lead h27 (by kernel_rfl) h28.blank (by kernel_rfl) h29.hash (by kernel_rfl) h30.noNl hi hn (by omega)
theorem nextOk {H0 : Hp} (hG : TabsG 0 1 2 3 H0) {H : Hp} {i : Nat} {text : Bs} {n : Nat} (hH : Pre0 H0 H) (h0i : H0.length ≤ i) (hi : H[i]? = some (scan 38 text n)) (hn : n ≤ text.length) (hl : text.length ≤ 1048576) :
    ACall Tryd.prog 17 [.ptr i 0] H (NextQ H i 38 text n (text.drop n) (tokN (text.drop n))) :=
  h17.next h27 (by kernel_rfl) letterOk (by kernel_rfl) digitOk wordOk isKeyOk (numberOk hG) (fun hi hn hl => h33.str unquoteOk hi hn hl) (fun hi hn hl => h34.sign h41 prefixOk hi hn (by omega)) hH h0i hi hn hl
theorem badOk {H0 : Hp} (hG : TabsG 0 1 2 3 H0) (s : Bs) (H : Hp) (hs : s.length ≤ 1048576) (hH : Pre0 H0 H) : ACall Tryd.prog 15 [.d (.str s)] H (fun r H' => r = .d (.int .i64 (badS s)) ∧ H' = H) := h15.bad (decodeOk hG) s hs H hH
theorem lexOk {H0 : Hp} (hG : TabsG 0 1 2 3 H0) (s : Bs) (hs : s.length ≤ 1048576) (H : Hp) (hH : Pre0 H0 H) :
    ACall Tryd.prog 7 [.d (.str s)] H (fun r H' => r = .tup [.d (.sl true 4 ((lexS s).1.map encTk)), .d (.int .i64 (lexS s).2.1), .d (.int .i64 (lexS s).2.2)] ∧ H' = H) :=
  h7.lex (badOk hG) leadOk (nextOk hG) s hs H hH
theorem cfWS : compF Tryd.prog [] Tryd.f24 = some (irWrite 36) := by kernel_rfl
theorem writeSOk : WriteSOk Tryd.prog 24 49 := fun H i t a bs s => write_acall Tryd.func24 cfWS copyOk H i t a bs s
theorem joinOk (z : Bool) (l : List Tk) (hl : l.length ≤ 1048576) (hj : (joinS l).length ≤ 1048576) (H : Hp) : ACall Tryd.prog 13 [.d (.sl z 4 (l.map encTk))] H (fun r H' => r = .d (.str (joinS l)) ∧ H' = H) := h13.join writeSOk stringOk' z l hl hj H
theorem same4Ok (z y : Bool) (a b : List Tk) (ha : a.length ≤ 1048576) (H : Hp) : ACall Tryd.prog 14 [.d (.sl z 4 (a.map encTk)), .d (.sl y 4 (b.map encTk))] H (fun r H' => r = .d (.bool (@decide (a = b) (Classical.propDecidable _))) ∧ H' = H) := h14.same4 z y a b ha H
theorem rdigitOk : ByteOk Tryd.prog 22 digitB := h22.digit
theorem rletterOk : ByteOk Tryd.prog 23 letterB := h23.letter
theorem risKeyOk (s : Bs) (H : Hp) : ACall Tryd.prog 10 [.d (.str s)] H (fun r H' => r = .d (.bool (decide (s ∈ keysL))) ∧ H' = H) := isKey_acall Tryd.func10 tcf10 s H
theorem risNameOk (s : Bs) (H : Hp) : ACall Tryd.prog 12 [.d (.str s)] H (fun r H' => r = .d (.bool (isNameB s)) ∧ H' = H) := isName_acall Tryd.func12 tcf12 risKeyOk rdigitOk rletterOk s H
end Go.Proofs.Zk

namespace Go.Proofs.Zk
open Go Go.Zam Go.Proofs
set_option maxRecDepth 100000
/- whetstone/whetstonelaw04.TokenAgain -/
def ir3 : IFn :=
 { nt := 113, res := [.t 4], body := (
  .seq (.ops [
    ⟨(some 4), none, .mv (.c (.bool false))⟩] false)
  (.seq (.ops [
    ⟨(some 18), none, .mv (.t 0)⟩,
    ⟨(some 19), none, .call 7 [(.t 18)]⟩,
    ⟨(some 17), none, .mv (.t 19)⟩,
    ⟨(some 20), none, .ext (.t 17) 0⟩,
    ⟨(some 21), none, .ext (.t 17) 1⟩,
    ⟨(some 22), none, .ext (.t 17) 2⟩,
    ⟨(some 5), none, .mv (.t 20)⟩,
    ⟨(some 6), none, .mv (.t 21)⟩,
    ⟨(some 7), none, .mv (.t 22)⟩] false)
  (.seq (.ops [
    ⟨(some 24), none, .mv (.t 1)⟩,
    ⟨(some 25), none, .call 7 [(.t 24)]⟩,
    ⟨(some 23), none, .mv (.t 25)⟩,
    ⟨(some 26), none, .ext (.t 23) 0⟩,
    ⟨(some 27), none, .ext (.t 23) 1⟩,
    ⟨(some 28), none, .ext (.t 23) 2⟩,
    ⟨(some 8), none, .mv (.t 26)⟩,
    ⟨(some 9), none, .mv (.t 27)⟩,
    ⟨(some 10), none, .mv (.t 28)⟩] false)
  (.seq (.seq (.ops [
     ⟨(some 29), none, .mv (.t 6)⟩,
     ⟨(some 30), none, .bin .neq (.t 29) (.c (.int .i64 0))⟩,
     ⟨(some 31), none, .mv (.t 30)⟩,
     ⟨(some 32), (some (31, false)), .mv (.t 9)⟩,
     ⟨(some 33), (some (31, false)), .bin .neq (.t 32) (.c (.int .i64 0))⟩,
     ⟨(some 34), none, .pick (.t 31) (.c (.bool true)) (.t 33)⟩,
     ⟨(some 35), none, .mv (.t 34)⟩,
     ⟨(some 36), (some (35, false)), .mv (.t 0)⟩,
     ⟨(some 37), (some (35, false)), .lenS (.t 36)⟩,
     ⟨(some 38), (some (35, false)), .mv (.t 1)⟩,
     ⟨(some 39), (some (35, false)), .lenS (.t 38)⟩,
     ⟨(some 40), (some (35, false)), .bin .add (.t 37) (.t 39)⟩,
     ⟨(some 41), (some (35, false)), .bin .geq (.t 40) (.c (.int .i64 16384))⟩,
     ⟨(some 42), none, .pick (.t 35) (.c (.bool true)) (.t 41)⟩,
     ⟨(some 43), none, .mv (.t 42)⟩,
     ⟨(some 44), (some (43, false)), .mv (.t 5)⟩,
     ⟨(some 45), (some (43, false)), .lenL (.t 44)⟩,
     ⟨(some 46), (some (43, false)), .mv (.t 8)⟩,
     ⟨(some 47), (some (43, false)), .lenL (.t 46)⟩,
     ⟨(some 48), (some (43, false)), .bin .add (.t 45) (.t 47)⟩,
     ⟨(some 49), (some (43, false)), .bin .gtr (.t 48) (.c (.int .i64 4000))⟩,
     ⟨(some 50), none, .pick (.t 43) (.c (.bool true)) (.t 49)⟩] false)
   (.cond (.t 50) (.seq (.ops [
      ⟨(some 51), none, .call 8 []⟩,
      ⟨(some 4), none, .mv (.t 51)⟩] false)
    (.ret))
   (.skip)))
  (.seq (.ops [
    ⟨(some 53), none, .mv (.t 0)⟩,
    ⟨(some 54), none, .bin .add (.t 53) (.c (.str [10]))⟩,
    ⟨(some 55), none, .mv (.t 1)⟩,
    ⟨(some 56), none, .bin .add (.t 54) (.t 55)⟩,
    ⟨(some 57), none, .call 7 [(.t 56)]⟩,
    ⟨(some 52), none, .mv (.t 57)⟩,
    ⟨(some 58), none, .ext (.t 52) 0⟩,
    ⟨(some 59), none, .ext (.t 52) 1⟩,
    ⟨(some 60), none, .ext (.t 52) 2⟩,
    ⟨(some 11), none, .mv (.t 58)⟩,
    ⟨(some 12), none, .mv (.t 59)⟩,
    ⟨(some 13), none, .mv (.t 60)⟩] false)
  (.seq (.seq (.ops [
     ⟨(some 61), none, .mv (.t 12)⟩,
     ⟨(some 62), none, .bin .neq (.t 61) (.c (.int .i64 0))⟩,
     ⟨(some 63), none, .mv (.t 62)⟩,
     ⟨(some 64), (some (63, false)), .mv (.t 11)⟩,
     ⟨(some 65), (some (63, false)), .lenL (.t 64)⟩,
     ⟨(some 66), (some (63, false)), .mv (.t 5)⟩,
     ⟨(some 67), (some (63, false)), .lenL (.t 66)⟩,
     ⟨(some 68), (some (63, false)), .mv (.t 8)⟩,
     ⟨(some 69), (some (63, false)), .lenL (.t 68)⟩,
     ⟨(some 70), (some (63, false)), .bin .add (.t 67) (.t 69)⟩,
     ⟨(some 71), (some (63, false)), .bin .sub (.t 70) (.c (.int .i64 1))⟩,
     ⟨(some 72), (some (63, false)), .bin .neq (.t 65) (.t 71)⟩,
     ⟨(some 73), none, .pick (.t 63) (.c (.bool true)) (.t 72)⟩] false)
   (.cond (.t 73) (.seq (.ops [
      ⟨(some 4), none, .mv (.c (.bool false))⟩] false)
    (.ret))
   (.skip)))
  (.seq (.seq (.ops [
     ⟨(some 74), none, .mv (.t 11)⟩,
     ⟨(some 75), none, .lenL (.t 74)⟩,
     ⟨(some 76), none, .mv (.c (.int .i64 0))⟩] false)
   (.blk 0 (.loop (.seq (.ops [
       ⟨(some 77), none, .bin .lss (.t 76) (.t 75)⟩] false)
     (.seq (.cond (.t 77) (.skip)
      (.exit 0))
     (.seq (.blk 1 (.seq (.ops [
         ⟨(some 78), none, .mv (.t 76)⟩,
         ⟨(some 79), none, .iaddr 4 (.t 74) (.t 76)⟩,
         ⟨(some 80), none, .load 4 true (.t 79)⟩,
         ⟨(some 15), none, .alloc 28 [(.int .i64 0), (.int .i64 0), (.str []), (.str [])]⟩,
         ⟨(some 14), none, .mv (.t 78)⟩,
         ⟨none, none, .store 4 (.t 15) (.t 80)⟩] false)
       (.seq (.ops [
         ⟨(some 81), none, .build [(.int .i64 0), (.int .i64 0), (.str []), (.str [])] []⟩,
         ⟨(some 16), none, .alloc 28 [(.int .i64 0), (.int .i64 0), (.str []), (.str [])]⟩,
         ⟨none, none, .store 4 (.t 16) (.t 81)⟩] false)
       (.seq (.seq (.ops [
          ⟨(some 82), none, .mv (.t 14)⟩,
          ⟨(some 83), none, .mv (.t 5)⟩,
          ⟨(some 84), none, .lenL (.t 83)⟩,
          ⟨(some 85), none, .bin .sub (.t 84) (.c (.int .i64 1))⟩,
          ⟨(some 86), none, .bin .lss (.t 82) (.t 85)⟩] false)
        (.cond (.t 86) (.ops [
          ⟨(some 87), none, .mv (.t 5)⟩,
          ⟨(some 88), none, .mv (.t 14)⟩,
          ⟨(some 89), none, .iaddr 4 (.t 87) (.t 88)⟩,
          ⟨(some 90), none, .load 4 true (.t 89)⟩,
          ⟨none, none, .store 4 (.t 16) (.t 90)⟩] false)
        (.ops [
          ⟨(some 91), none, .mv (.t 8)⟩,
          ⟨(some 92), none, .mv (.t 14)⟩,
          ⟨(some 93), none, .mv (.t 5)⟩,
          ⟨(some 94), none, .lenL (.t 93)⟩,
          ⟨(some 95), none, .bin .sub (.t 92) (.t 94)⟩,
          ⟨(some 96), none, .bin .add (.t 95) (.c (.int .i64 1))⟩,
          ⟨(some 97), none, .iaddr 4 (.t 91) (.t 96)⟩,
          ⟨(some 98), none, .load 4 true (.t 97)⟩,
          ⟨none, none, .store 4 (.t 16) (.t 98)⟩] false)))
       (.seq (.ops [
         ⟨(some 99), none, .faddr 0 (.t 15)⟩,
         ⟨(some 100), none, .load 1 false (.t 99)⟩,
         ⟨(some 101), none, .faddr 0 (.t 16)⟩,
         ⟨(some 102), none, .load 1 false (.t 101)⟩,
         ⟨(some 103), none, .bin .neq (.t 100) (.t 102)⟩,
         ⟨(some 104), none, .mv (.t 103)⟩,
         ⟨(some 105), (some (104, false)), .faddr 3 (.t 15)⟩,
         ⟨(some 106), (some (104, false)), .load 1 false (.t 105)⟩,
         ⟨(some 107), (some (104, false)), .faddr 3 (.t 16)⟩,
         ⟨(some 108), (some (104, false)), .load 1 false (.t 107)⟩,
         ⟨(some 109), (some (104, false)), .bin .neq (.t 106) (.t 108)⟩,
         ⟨(some 110), none, .pick (.t 104) (.c (.bool true)) (.t 109)⟩] false)
       (.cond (.t 110) (.seq (.ops [
          ⟨(some 4), none, .mv (.c (.bool false))⟩] false)
        (.ret))
       (.skip)))))))
     (.ops [
      ⟨(some 111), none, .bin .add (.t 76) (.c (.int .i64 1))⟩,
      ⟨(some 76), none, .mv (.t 111)⟩] false)))))))
  (.seq (.ops [
    ⟨(some 112), none, .call 8 []⟩,
    ⟨(some 4), none, .mv (.t 112)⟩] false)
  (.ret))))))))) }
theorem cf3 : compF Tryd.prog [] Tryd.f3 = some ir3 := by kernel_rfl
/- whetstone/whetstonelaw04.TokenNames -/
def ir4 : IFn :=
 { nt := 57, res := [.t 2], body := (
  .seq (.ops [
    ⟨(some 2), none, .mv (.c (.bool false))⟩] false)
  (.seq (.seq (.ops [
     ⟨(some 6), none, .mv (.t 0)⟩,
     ⟨(some 7), none, .lenS (.t 6)⟩,
     ⟨(some 8), none, .bin .gtr (.t 7) (.c (.int .i64 1000))⟩] false)
   (.cond (.t 8) (.seq (.ops [
      ⟨(some 9), none, .call 8 []⟩,
      ⟨(some 2), none, .mv (.t 9)⟩] false)
    (.ret))
   (.skip)))
  (.seq (.seq (.ops [
     ⟨(some 10), none, .mv (.t 0)⟩,
     ⟨(some 11), none, .call 9 [(.t 10)]⟩,
     ⟨(some 12), none, .mv (.t 0)⟩,
     ⟨(some 13), none, .call 10 [(.t 12)]⟩,
     ⟨(some 14), none, .beq true (.t 11) (.t 13)⟩,
     ⟨(some 15), none, .mv (.t 14)⟩,
     ⟨(some 16), (some (15, false)), .mv (.t 0)⟩,
     ⟨(some 17), (some (15, false)), .call 11 [(.t 16)]⟩,
     ⟨(some 18), (some (15, false)), .mv (.t 0)⟩,
     ⟨(some 19), (some (15, false)), .call 12 [(.t 18)]⟩,
     ⟨(some 20), (some (15, false)), .beq true (.t 17) (.t 19)⟩,
     ⟨(some 21), none, .pick (.t 15) (.c (.bool true)) (.t 20)⟩] false)
   (.cond (.t 21) (.seq (.ops [
      ⟨(some 2), none, .mv (.c (.bool false))⟩] false)
    (.ret))
   (.skip)))
  (.seq (.seq (.ops [
     ⟨(some 22), none, .mv (.t 0)⟩,
     ⟨(some 23), none, .call 11 [(.t 22)]⟩,
     ⟨(some 24), none, .un .not (.t 23)⟩] false)
   (.cond (.t 24) (.seq (.ops [
      ⟨(some 25), none, .call 8 []⟩,
      ⟨(some 2), none, .mv (.t 25)⟩] false)
    (.ret))
   (.skip)))
  (.seq (.ops [
    ⟨(some 27), none, .mv (.t 0)⟩,
    ⟨(some 28), none, .call 7 [(.t 27)]⟩,
    ⟨(some 26), none, .mv (.t 28)⟩,
    ⟨(some 29), none, .ext (.t 26) 0⟩,
    ⟨(some 30), none, .ext (.t 26) 1⟩,
    ⟨(some 31), none, .ext (.t 26) 2⟩,
    ⟨(some 3), none, .mv (.t 29)⟩,
    ⟨(some 4), none, .mv (.t 30)⟩,
    ⟨(some 5), none, .mv (.t 31)⟩] false)
  (.seq (.ops [
    ⟨(some 32), none, .call 8 []⟩,
    ⟨(some 33), none, .mv (.t 32)⟩,
    ⟨(some 34), (some (33, true)), .mv (.t 4)⟩,
    ⟨(some 35), (some (33, true)), .bin .eql (.t 34) (.c (.int .i64 0))⟩,
    ⟨(some 36), none, .pick (.t 33) (.t 35) (.c (.bool false))⟩,
    ⟨(some 37), none, .mv (.t 36)⟩,
    ⟨(some 38), (some (37, true)), .mv (.t 3)⟩,
    ⟨(some 39), (some (37, true)), .lenL (.t 38)⟩,
    ⟨(some 40), (some (37, true)), .bin .eql (.t 39) (.c (.int .i64 2))⟩,
    ⟨(some 41), none, .pick (.t 37) (.t 40) (.c (.bool false))⟩,
    ⟨(some 42), none, .mv (.t 41)⟩,
    ⟨(some 43), (some (42, true)), .mv (.t 3)⟩,
    ⟨(some 44), (some (42, true)), .iaddr 4 (.t 43) (.c (.int .i64 0))⟩,
    ⟨(some 45), (some (42, true)), .faddr 0 (.t 44)⟩,
    ⟨(some 46), (some (42, true)), .load 1 false (.t 45)⟩,
    ⟨(some 47), (some (42, true)), .bin .eql (.t 46) (.c (.int .i64 1))⟩,
    ⟨(some 48), none, .pick (.t 42) (.t 47) (.c (.bool false))⟩,
    ⟨(some 49), none, .mv (.t 48)⟩,
    ⟨(some 50), (some (49, true)), .mv (.t 3)⟩,
    ⟨(some 51), (some (49, true)), .iaddr 4 (.t 50) (.c (.int .i64 0))⟩,
    ⟨(some 52), (some (49, true)), .faddr 3 (.t 51)⟩,
    ⟨(some 53), (some (49, true)), .load 1 false (.t 52)⟩,
    ⟨(some 54), (some (49, true)), .mv (.t 0)⟩,
    ⟨(some 55), (some (49, true)), .bin .eql (.t 53) (.t 54)⟩,
    ⟨(some 56), none, .pick (.t 49) (.t 55) (.c (.bool false))⟩,
    ⟨(some 2), none, .mv (.t 56)⟩] false)
  (.ret))))))) }
theorem cf4 : compF Tryd.prog [] Tryd.f4 = some ir4 := by kernel_rfl
/- whetstone/whetstonelaw04.TokenJoins -/
def ir5 : IFn :=
 { nt := 85, res := [.t 2], body := (
  .seq (.ops [
    ⟨(some 2), none, .mv (.c (.bool false))⟩] false)
  (.seq (.ops [
    ⟨(some 10), none, .mv (.t 0)⟩,
    ⟨(some 11), none, .call 7 [(.t 10)]⟩,
    ⟨(some 9), none, .mv (.t 11)⟩,
    ⟨(some 12), none, .ext (.t 9) 0⟩,
    ⟨(some 13), none, .ext (.t 9) 1⟩,
    ⟨(some 14), none, .ext (.t 9) 2⟩,
    ⟨(some 3), none, .mv (.t 12)⟩,
    ⟨(some 4), none, .mv (.t 13)⟩,
    ⟨(some 5), none, .mv (.t 14)⟩] false)
  (.seq (.seq (.ops [
     ⟨(some 15), none, .mv (.t 4)⟩,
     ⟨(some 16), none, .bin .neq (.t 15) (.c (.int .i64 0))⟩] false)
   (.cond (.t 16) (.seq (.ops [
      ⟨(some 17), none, .call 8 []⟩,
      ⟨(some 18), none, .mv (.t 17)⟩,
      ⟨(some 19), (some (18, true)), .mv (.t 3)⟩,
      ⟨(some 20), (some (18, true)), .lenL (.t 19)⟩,
      ⟨(some 21), (some (18, true)), .bin .eql (.t 20) (.c (.int .i64 0))⟩,
      ⟨(some 22), none, .pick (.t 18) (.t 21) (.c (.bool false))⟩,
      ⟨(some 2), none, .mv (.t 22)⟩] false)
    (.ret))
   (.skip)))
  (.seq (.seq (.ops [
     ⟨(some 23), none, .mv (.t 3)⟩,
     ⟨(some 24), none, .call 13 [(.t 23)]⟩,
     ⟨(some 25), none, .mv (.t 0)⟩,
     ⟨(some 26), none, .bin .neq (.t 24) (.t 25)⟩,
     ⟨(some 27), none, .mv (.t 26)⟩,
     ⟨(some 28), (some (27, false)), .mv (.t 3)⟩,
     ⟨(some 29), (some (27, false)), .lenL (.t 28)⟩,
     ⟨(some 30), (some (27, false)), .bin .eql (.t 29) (.c (.int .i64 0))⟩,
     ⟨(some 31), none, .pick (.t 27) (.c (.bool true)) (.t 30)⟩,
     ⟨(some 32), none, .mv (.t 31)⟩,
     ⟨(some 33), (some (32, false)), .mv (.t 3)⟩,
     ⟨(some 34), (some (32, false)), .mv (.t 3)⟩,
     ⟨(some 35), (some (32, false)), .lenL (.t 34)⟩,
     ⟨(some 36), (some (32, false)), .bin .sub (.t 35) (.c (.int .i64 1))⟩,
     ⟨(some 37), (some (32, false)), .iaddr 4 (.t 33) (.t 36)⟩,
     ⟨(some 38), (some (32, false)), .faddr 0 (.t 37)⟩,
     ⟨(some 39), (some (32, false)), .load 1 false (.t 38)⟩,
     ⟨(some 40), (some (32, false)), .bin .neq (.t 39) (.c (.int .i64 0))⟩,
     ⟨(some 41), none, .pick (.t 32) (.c (.bool true)) (.t 40)⟩] false)
   (.cond (.t 41) (.seq (.ops [
      ⟨(some 2), none, .mv (.c (.bool false))⟩] false)
    (.ret))
   (.skip)))
  (.seq (.ops [
    ⟨(some 6), none, .mv (.c (.int .i64 0))⟩] false)
  (.seq (.seq (.ops [
     ⟨(some 42), none, .mv (.t 3)⟩,
     ⟨(some 43), none, .lenL (.t 42)⟩,
     ⟨(some 44), none, .mv (.c (.int .i64 0))⟩] false)
   (.blk 0 (.loop (.seq (.ops [
       ⟨(some 45), none, .bin .lss (.t 44) (.t 43)⟩] false)
     (.seq (.cond (.t 45) (.skip)
      (.exit 0))
     (.seq (.blk 1 (.seq (.ops [
         ⟨(some 46), none, .mv (.t 44)⟩,
         ⟨(some 47), none, .iaddr 4 (.t 42) (.t 44)⟩,
         ⟨(some 48), none, .load 4 true (.t 47)⟩,
         ⟨(some 8), none, .alloc 28 [(.int .i64 0), (.int .i64 0), (.str []), (.str [])]⟩,
         ⟨(some 7), none, .mv (.t 46)⟩,
         ⟨none, none, .store 4 (.t 8) (.t 48)⟩] false)
       (.seq (.ops [
         ⟨(some 49), none, .mv (.t 6)⟩,
         ⟨(some 50), none, .faddr 2 (.t 8)⟩,
         ⟨(some 51), none, .load 1 false (.t 50)⟩,
         ⟨(some 52), none, .lenS (.t 51)⟩,
         ⟨(some 53), none, .bin .add (.t 49) (.t 52)⟩,
         ⟨(some 6), none, .mv (.t 53)⟩] false)
       (.seq (.seq (.ops [
          ⟨(some 54), none, .faddr 1 (.t 8)⟩,
          ⟨(some 55), none, .load 1 false (.t 54)⟩,
          ⟨(some 56), none, .mv (.t 6)⟩,
          ⟨(some 57), none, .bin .neq (.t 55) (.t 56)⟩,
          ⟨(some 58), none, .mv (.t 57)⟩,
          ⟨(some 59), (some (58, false)), .faddr 0 (.t 8)⟩,
          ⟨(some 60), (some (58, false)), .load 1 false (.t 59)⟩,
          ⟨(some 61), (some (58, false)), .bin .eql (.t 60) (.c (.int .i64 0))⟩,
          ⟨(some 62), (some (58, false)), .mv (.t 7)⟩,
          ⟨(some 63), (some (58, false)), .mv (.t 3)⟩,
          ⟨(some 64), (some (58, false)), .lenL (.t 63)⟩,
          ⟨(some 65), (some (58, false)), .bin .sub (.t 64) (.c (.int .i64 1))⟩,
          ⟨(some 66), (some (58, false)), .bin .eql (.t 62) (.t 65)⟩,
          ⟨(some 67), (some (58, false)), .beq true (.t 61) (.t 66)⟩,
          ⟨(some 68), none, .pick (.t 58) (.c (.bool true)) (.t 67)⟩,
          ⟨(some 69), none, .mv (.t 68)⟩,
          ⟨(some 70), (some (69, false)), .faddr 3 (.t 8)⟩,
          ⟨(some 71), (some (69, false)), .load 1 false (.t 70)⟩,
          ⟨(some 72), (some (69, false)), .bin .eql (.t 71) (.c (.str []))⟩,
          ⟨(some 73), (some (69, false)), .faddr 0 (.t 8)⟩,
          ⟨(some 74), (some (69, false)), .load 1 false (.t 73)⟩,
          ⟨(some 75), (some (69, false)), .bin .eql (.t 74) (.c (.int .i64 0))⟩,
          ⟨(some 76), (some (69, false)), .beq true (.t 72) (.t 75)⟩,
          ⟨(some 77), none, .pick (.t 69) (.c (.bool true)) (.t 76)⟩] false)
        (.cond (.t 77) (.seq (.ops [
           ⟨(some 2), none, .mv (.c (.bool false))⟩] false)
         (.ret))
        (.skip)))
       (.ops [
        ⟨(some 78), none, .mv (.t 6)⟩,
        ⟨(some 79), none, .faddr 3 (.t 8)⟩,
        ⟨(some 80), none, .load 1 false (.t 79)⟩,
        ⟨(some 81), none, .lenS (.t 80)⟩,
        ⟨(some 82), none, .bin .add (.t 78) (.t 81)⟩,
        ⟨(some 6), none, .mv (.t 82)⟩] false)))))
     (.ops [
      ⟨(some 83), none, .bin .add (.t 44) (.c (.int .i64 1))⟩,
      ⟨(some 44), none, .mv (.t 83)⟩] false)))))))
  (.seq (.ops [
    ⟨(some 84), none, .call 8 []⟩,
    ⟨(some 2), none, .mv (.t 84)⟩] false)
  (.ret)))))))) }
theorem cf5 : compF Tryd.prog [] Tryd.f5 = some ir5 := by kernel_rfl
/- whetstone/whetstonelaw04.TokenAhead -/
def ir6 : IFn :=
 { nt := 78, res := [.t 4], body := (
  .seq (.ops [
    ⟨(some 4), none, .mv (.c (.bool false))⟩] false)
  (.seq (.ops [
    ⟨(some 13), none, .mv (.t 0)⟩,
    ⟨(some 14), none, .call 7 [(.t 13)]⟩,
    ⟨(some 12), none, .mv (.t 14)⟩,
    ⟨(some 15), none, .ext (.t 12) 0⟩,
    ⟨(some 16), none, .ext (.t 12) 1⟩,
    ⟨(some 17), none, .ext (.t 12) 2⟩,
    ⟨(some 5), none, .mv (.t 15)⟩,
    ⟨(some 6), none, .mv (.t 16)⟩,
    ⟨(some 7), none, .mv (.t 17)⟩] false)
  (.seq (.seq (.ops [
     ⟨(some 18), none, .mv (.t 6)⟩,
     ⟨(some 19), none, .bin .neq (.t 18) (.c (.int .i64 0))⟩,
     ⟨(some 20), none, .mv (.t 19)⟩,
     ⟨(some 21), (some (20, false)), .mv (.t 5)⟩,
     ⟨(some 22), (some (20, false)), .lenL (.t 21)⟩,
     ⟨(some 23), (some (20, false)), .bin .gtr (.t 22) (.c (.int .i64 600))⟩,
     ⟨(some 24), none, .pick (.t 20) (.c (.bool true)) (.t 23)⟩] false)
   (.cond (.t 24) (.seq (.ops [
      ⟨(some 25), none, .call 8 []⟩,
      ⟨(some 4), none, .mv (.t 25)⟩] false)
    (.ret))
   (.skip)))
  (.seq (.seq (.ops [
     ⟨(some 26), none, .mv (.t 5)⟩,
     ⟨(some 27), none, .lenL (.t 26)⟩,
     ⟨(some 28), none, .bin .eql (.t 27) (.c (.int .i64 0))⟩] false)
   (.cond (.t 28) (.seq (.ops [
      ⟨(some 4), none, .mv (.c (.bool false))⟩] false)
    (.ret))
   (.skip)))
  (.seq (.ops [
    ⟨(some 29), none, .mv (.t 1)⟩,
    ⟨(some 30), none, .cvt .i64 (.t 29)⟩,
    ⟨(some 31), none, .mv (.t 5)⟩,
    ⟨(some 32), none, .lenL (.t 31)⟩,
    ⟨(some 33), none, .bin .rem (.t 30) (.t 32)⟩,
    ⟨(some 8), none, .mv (.t 33)⟩] false)
  (.seq (.ops [
    ⟨(some 35), none, .mv (.t 5)⟩,
    ⟨(some 36), none, .mv (.t 8)⟩,
    ⟨(some 37), none, .slice 4 (.t 35) none (some (.t 36)) none⟩,
    ⟨(some 38), none, .call 13 [(.t 37)]⟩,
    ⟨(some 39), none, .call 7 [(.t 38)]⟩,
    ⟨(some 34), none, .mv (.t 39)⟩,
    ⟨(some 40), none, .ext (.t 34) 0⟩,
    ⟨(some 41), none, .ext (.t 34) 1⟩,
    ⟨(some 42), none, .ext (.t 34) 2⟩,
    ⟨(some 9), none, .mv (.t 40)⟩,
    ⟨(some 10), none, .mv (.t 41)⟩,
    ⟨(some 11), none, .mv (.t 42)⟩] false)
  (.seq (.seq (.ops [
     ⟨(some 43), none, .mv (.t 10)⟩,
     ⟨(some 44), none, .bin .neq (.t 43) (.c (.int .i64 0))⟩,
     ⟨(some 45), none, .mv (.t 44)⟩,
     ⟨(some 46), (some (45, false)), .mv (.t 9)⟩,
     ⟨(some 47), (some (45, false)), .lenL (.t 46)⟩,
     ⟨(some 48), (some (45, false)), .mv (.t 8)⟩,
     ⟨(some 49), (some (45, false)), .bin .add (.t 48) (.c (.int .i64 1))⟩,
     ⟨(some 50), (some (45, false)), .bin .neq (.t 47) (.t 49)⟩,
     ⟨(some 51), none, .pick (.t 45) (.c (.bool true)) (.t 50)⟩] false)
   (.cond (.t 51) (.seq (.ops [
      ⟨(some 4), none, .mv (.c (.bool false))⟩] false)
    (.ret))
   (.skip)))
  (.seq (.ops [
    ⟨(some 52), none, .call 8 []⟩,
    ⟨(some 53), none, .mv (.t 52)⟩,
    ⟨(some 54), (some (53, true)), .mv (.t 9)⟩,
    ⟨(some 55), (some (53, true)), .mv (.t 8)⟩,
    ⟨(some 56), (some (53, true)), .slice 4 (.t 54) none (some (.t 55)) none⟩,
    ⟨(some 57), (some (53, true)), .mv (.t 5)⟩,
    ⟨(some 58), (some (53, true)), .mv (.t 8)⟩,
    ⟨(some 59), (some (53, true)), .slice 4 (.t 57) none (some (.t 58)) none⟩,
    ⟨(some 60), (some (53, true)), .call 14 [(.t 56), (.t 59)]⟩,
    ⟨(some 61), none, .pick (.t 53) (.t 60) (.c (.bool false))⟩,
    ⟨(some 62), none, .mv (.t 61)⟩,
    ⟨(some 63), (some (62, true)), .mv (.t 9)⟩,
    ⟨(some 64), (some (62, true)), .mv (.t 8)⟩,
    ⟨(some 65), (some (62, true)), .iaddr 4 (.t 63) (.t 64)⟩,
    ⟨(some 66), (some (62, true)), .faddr 0 (.t 65)⟩,
    ⟨(some 67), (some (62, true)), .load 1 false (.t 66)⟩,
    ⟨(some 68), (some (62, true)), .bin .eql (.t 67) (.c (.int .i64 0))⟩,
    ⟨(some 69), none, .pick (.t 62) (.t 68) (.c (.bool false))⟩,
    ⟨(some 70), none, .mv (.t 69)⟩,
    ⟨(some 71), (some (70, true)), .mv (.t 9)⟩,
    ⟨(some 72), (some (70, true)), .mv (.t 8)⟩,
    ⟨(some 73), (some (70, true)), .iaddr 4 (.t 71) (.t 72)⟩,
    ⟨(some 74), (some (70, true)), .faddr 2 (.t 73)⟩,
    ⟨(some 75), (some (70, true)), .load 1 false (.t 74)⟩,
    ⟨(some 76), (some (70, true)), .bin .eql (.t 75) (.c (.str []))⟩,
    ⟨(some 77), none, .pick (.t 70) (.t 76) (.c (.bool false))⟩,
    ⟨(some 4), none, .mv (.t 77)⟩] true)
  (.ret))))))))) }
theorem cf6 : compF Tryd.prog [] Tryd.f6 = some ir6 := by kernel_rfl
/- whetstone/whetstonelaw04.awake -/
def ir8 : IFn :=
 { nt := 37, res := [.t 0], body := (
  .seq (.ops [
    ⟨(some 0), none, .mv (.c (.bool false))⟩] false)
  (.seq (.ops [
    ⟨(some 5), none, .call 7 [(.c (.str [97, 61, 49, 32, 35, 32, 120]))]⟩,
    ⟨(some 4), none, .mv (.t 5)⟩,
    ⟨(some 6), none, .ext (.t 4) 0⟩,
    ⟨(some 7), none, .ext (.t 4) 1⟩,
    ⟨(some 8), none, .ext (.t 4) 2⟩,
    ⟨(some 1), none, .mv (.t 6)⟩,
    ⟨(some 2), none, .mv (.t 7)⟩,
    ⟨(some 3), none, .mv (.t 8)⟩] false)
  (.seq (.ops [
    ⟨(some 9), none, .mv (.t 2)⟩,
    ⟨(some 10), none, .bin .eql (.t 9) (.c (.int .i64 0))⟩,
    ⟨(some 11), none, .mv (.t 10)⟩,
    ⟨(some 12), (some (11, true)), .mv (.t 1)⟩,
    ⟨(some 13), (some (11, true)), .lenL (.t 12)⟩,
    ⟨(some 14), (some (11, true)), .bin .eql (.t 13) (.c (.int .i64 4))⟩,
    ⟨(some 15), none, .pick (.t 11) (.t 14) (.c (.bool false))⟩,
    ⟨(some 16), none, .mv (.t 15)⟩,
    ⟨(some 17), (some (16, true)), .mv (.t 1)⟩,
    ⟨(some 18), (some (16, true)), .iaddr 4 (.t 17) (.c (.int .i64 0))⟩,
    ⟨(some 19), (some (16, true)), .faddr 0 (.t 18)⟩,
    ⟨(some 20), (some (16, true)), .load 1 false (.t 19)⟩,
    ⟨(some 21), (some (16, true)), .bin .eql (.t 20) (.c (.int .i64 1))⟩,
    ⟨(some 22), none, .pick (.t 16) (.t 21) (.c (.bool false))⟩,
    ⟨(some 23), none, .mv (.t 22)⟩,
    ⟨(some 24), (some (23, true)), .mv (.t 1)⟩,
    ⟨(some 25), (some (23, true)), .iaddr 4 (.t 24) (.c (.int .i64 2))⟩,
    ⟨(some 26), (some (23, true)), .faddr 3 (.t 25)⟩,
    ⟨(some 27), (some (23, true)), .load 1 false (.t 26)⟩,
    ⟨(some 28), (some (23, true)), .bin .eql (.t 27) (.c (.str [49]))⟩,
    ⟨(some 29), none, .pick (.t 23) (.t 28) (.c (.bool false))⟩,
    ⟨(some 30), none, .mv (.t 29)⟩,
    ⟨(some 31), (some (30, true)), .mv (.t 1)⟩,
    ⟨(some 32), (some (30, true)), .iaddr 4 (.t 31) (.c (.int .i64 3))⟩,
    ⟨(some 33), (some (30, true)), .faddr 2 (.t 32)⟩,
    ⟨(some 34), (some (30, true)), .load 1 false (.t 33)⟩,
    ⟨(some 35), (some (30, true)), .bin .eql (.t 34) (.c (.str [32, 35, 32, 120]))⟩,
    ⟨(some 36), none, .pick (.t 30) (.t 35) (.c (.bool false))⟩,
    ⟨(some 0), none, .mv (.t 36)⟩] false)
  (.ret)))) }
theorem cf8 : compF Tryd.prog [] Tryd.f8 = some ir8 := by kernel_rfl
end Go.Proofs.Zk

namespace Go.Proofs.Zk
open Go Go.Zam Go.Proofs
set_option maxRecDepth 100000
set_option linter.all false
set_option maxHeartbeats 1000000

theorem awake_lex : lexS [97, 61, 49, 32, 35, 32, 120] = ([⟨1, 0, [], [97]⟩, ⟨5, 1, [], [61]⟩, ⟨3, 2, [], [49]⟩, ⟨0, 7, [32, 35, 32, 120], []⟩], 0, 0) := by kernel_rfl

variable {H0 : Hp}

theorem awakeOk (hG : TabsG 0 1 2 3 H0) (H : Hp) (hH : Pre0 H0 H) : ACall Tryd.prog 8 [] H (fun r H' => r = .d (.bool true) ∧ H' = H) := by
  refine acall_fin Tryd.func8 cf8 (by simp [ir8]) fun hcl _ => ?_
  have h := lexOk hG [97, 61, 49, 32, 35, 32, 120] (by simp) H hH
  rw [awake_lex] at h
  simp only [encTk, List.map_cons, List.map_nil] at h
  simp [ir8]
  refine CallK_of' h ?_
  simp [Zam.rowAt]
  simp [RetK, cut_self hcl]

theorem joinsOk (hG : TabsG 0 1 2 3 H0) (s : Bs) (hs : s.length ≤ 1048576) (H : Hp) (hH : Pre0 H0 H) : ACall Tryd.prog 5 [.d (.str s)] H (fun r H' => r = .d (.bool true) ∧ H' = H) := by
  refine acall_fin Tryd.func5 cf5 (by simp [ir5]) fun hcl _ => ?_
  have hx := lexOk hG s hs H hH
  obtain ⟨l1, l2⟩ := lexS_ok s
  have l3 := lexS_err s
  generalize lexS s = L at hx l1 l2 l3
  obtain ⟨l, e, a⟩ := L
  simp only at hx l1 l2 l3
  have haw := awakeOk hG
  simp [ir5]
  refine CallK_of' hx ?_
  simp
  by_cases he : e = 0
  case neg =>
    have hl := l3 he
    subst hl
    simp [he]
    refine CallK_of' (haw H hH) ?_
    simp
    simp [RetK, cut_self hcl]
  obtain ⟨hT, hc⟩ := l2 he
  obtain ⟨j1, ⟨tl, j2, j3⟩, j4⟩ := hT.join
  have hne : l ≠ [] := fun e => by subst e; simp at j2
  have hpos : 1 ≤ l.length := by
    cases l with
    | nil => exact absurd rfl hne
    | cons a r => simp
  have hjn := joinOk true l (by omega) (by rw [j1]; exact hs) H
  rw [j1] at hjn
  have hw1 : IntKind.i64.wrap ((l.length : Int) - 1) = ((l.length - 1 : Nat) : Int) := by rw [wrap_i64 (by omega) (by omega)]; omega
  have hrl := rowAt_map encTk (show l.length - 1 < l.length by omega)
  have hlk : l[l.length - 1].k = 0 := by
    rw [List.getLast?_eq_getElem?, List.getElem?_eq_getElem (by omega)] at j2
    rw [Option.some.inj j2]; exact j3
  simp only [encTk] at hrl
  simp [he]
  refine CallK_of' hjn ?_
  simp [hne, hw1, hrl, hlk]
  refine LoopK_outR 0 (fun fr H' => H' = H) (fun _ _ => False) ?_ (fun _ _ h => h.elim) ?_
  · refine RangeK_of H.length l.length (fun i fr H' => fr 3 = .d (.sl true 4 (l.map encTk)) ∧ fr 6 = .d (.int .i64 ((joinS (l.take i)).length : Int)) ∧ fr 42 = .d (.sl true 4 (l.map encTk)) ∧ H' = H) (by omega) (by decide) (by simp) (by simp) ?_ ?_ ?_
    · simp [cut_self hcl, joinS]
    · rintro i fr H' hi f44 f43 ⟨f3, f6, f42, rfl⟩
      have hr := rowAt_map encTk hi
      have ht : l.take (i + 1) = l.take i ++ [l[i]] := List.take_succ_eq_append_getElem hi
      obtain ⟨q1, q2, q3⟩ := j4 i l[i] (List.getElem?_eq_getElem hi)
      have hb := joinS_take l (i + 1)
      rw [ht, joinS_app, joinS_one, j1] at hb
      have hjt : joinS (l.take (i + 1)) = joinS (l.take i) ++ (l[i].l ++ l[i].x) := by rw [ht, joinS_app, joinS_one]
      simp only [encTk] at hr
      generalize l[i] = t at hr ht q1 q2 q3 hb hjt
      generalize joinS (l.take i) = X at f6 q1 hb hjt
      simp only [List.length_append] at hb
      have w1 : IntKind.i64.wrap ((X.length : Int) + t.l.length) = X.length + t.l.length := wrap_i64 (by omega) (by omega)
      have w2 : IntKind.i64.wrap ((X.length : Int) + t.l.length + t.x.length) = X.length + t.l.length + t.x.length := wrap_i64 (by omega) (by omega)
      have e1 : (t.a : Int) = (X.length : Int) + t.l.length := by omega
      have e2 : t.k = 0 ↔ (i : Int) = ((l.length - 1 : Nat) : Int) := by rw [q2]; omega
      by_cases hk : t.k = 0
      · have hx : t.x = [] := q3.2 hk
        have hi2 : ((i : Int) = ((l.length - 1 : Nat) : Int)) = True := eq_true (e2.1 hk)
        simp [f44, f42, f3, f6, hr, w1, e1, hw1, hk, hx, hi2]
        refine NextK_of H'.length (Nat.le_refl _) (by simp [f44, f43]) ?_
        simp [f3, f42, cut_app hcl, hjt, hx]
      · have hx : ¬ t.x = [] := fun e => hk (q3.1 e)
        have hi2 : ¬ (i : Int) = ((l.length - 1 : Nat) : Int) := fun e => hk (e2.2 e)
        simp [f44, f42, f3, f6, hr, w1, e1, hw1, hk, hx, hi2, w2]
        refine NextK_of H'.length (Nat.le_refl _) (by simp [f44, f43]) ?_
        simp [f3, f42, cut_app hcl, hjt]
        omega
    · rintro fr H' f44 f43 ⟨f3, f6, f42, rfl⟩
      simp
  rintro fr H' rfl
  simp
  refine CallK_of' (haw H' hH) ?_
  simp
  simp [RetK, cut_self hcl]

end Go.Proofs.Zk

namespace Go.Proofs.Zk
open Go Go.Zam Go.Proofs
set_option maxRecDepth 100000
set_option linter.all false
set_option maxHeartbeats 1000000

variable {H0 : Hp}

theorem namesOk (hG : TabsG 0 1 2 3 H0) (s : Bs) (hs : s.length ≤ 1048576) (H : Hp) (hH : Pre0 H0 H) : ACall Tryd.prog 4 [.d (.str s)] H (fun r H' => r = .d (.bool true) ∧ H' = H) := by
  refine acall_fin Tryd.func4 cf4 (by simp [ir4]) fun hcl _ => ?_
  have hx := lexOk hG s hs H hH
  have haw := awakeOk hG H hH
  by_cases h1 : (1000 : Int) < s.length
  case pos =>
    simp [ir4, h1]
    refine CallK_of' haw ?_
    simp
    simp [RetK, cut_self hcl]
  simp [ir4, h1]
  refine CallK_of' (isKeyOk s H) ?_
  simp
  refine CallK_of' (risKeyOk s H) ?_
  simp
  refine CallK_of' (isNameOk s H) ?_
  simp
  refine CallK_of' (risNameOk s H) ?_
  simp
  refine CallK_of' (isNameOk s H) ?_
  cases hn : isNameB s with
  | false =>
    simp
    refine CallK_of' haw ?_
    simp
    simp [RetK, cut_self hcl]
  | true =>
    obtain ⟨l1, l2⟩ := name_lex hn
    rw [l1, l2] at hx
    simp only [encTk, List.map_cons, List.map_nil] at hx
    simp
    refine CallK_of' hx ?_
    simp
    refine CallK_of' haw ?_
    simp [Zam.rowAt]
    simp [RetK, cut_self hcl]

theorem aheadOk (hG : TabsG 0 1 2 3 H0) (s : Bs) (hs : s.length ≤ 1048576) (n : Nat) (hn : n ≤ 65535) (H : Hp) (hH : Pre0 H0 H) : ACall Tryd.prog 6 [.d (.str s), .d (.int .u16 (n : Int))] H (fun r H' => r = .d (.bool true) ∧ H' = H) := by
  refine acall_fin Tryd.func6 cf6 (by simp [ir6]) fun hcl _ => ?_
  have hx := lexOk hG s hs H hH
  obtain ⟨l1, l2⟩ := lexS_ok s
  generalize lexS s = L at hx l1 l2
  obtain ⟨l, e, a⟩ := L
  simp only at hx l1 l2
  have haw := awakeOk hG H hH
  simp [ir6]
  refine CallK_of' hx ?_
  simp
  by_cases he : e = 0
  case neg =>
    simp [he]
    refine CallK_of' haw ?_
    simp
    simp [RetK, cut_self hcl]
  by_cases h6 : (600 : Int) < l.length
  case pos =>
    simp [he, h6]
    refine CallK_of' haw ?_
    simp
    simp [RetK, cut_self hcl]
  obtain ⟨hT, hc⟩ := l2 he
  obtain ⟨-, hu, -⟩ := l1.1 he
  obtain ⟨j1, ⟨tl, j2, j3⟩, j4⟩ := hT.join
  have hne : l ≠ [] := fun e => by subst e; simp at j2
  have hpos : 1 ≤ l.length := by
    cases l with
    | nil => exact absurd rfl hne
    | cons a r => simp
  obtain ⟨k, hk⟩ : ∃ k, k = n % l.length := ⟨_, rfl⟩
  have hkl : k < l.length := by rw [hk]; exact Nat.mod_lt _ (by omega)
  have hA := hT.ahead k hkl
  simp only [Nat.zero_add] at hA
  have hjl : (joinS (l.take k)).length ≤ s.length := by
    have := joinS_take l k
    rw [j1] at this; exact this
  have hsplit : joinS l = joinS (l.take k) ++ joinS (l.drop k) := by rw [← joinS_app, List.take_append_drop]
  have hutf : Utf (joinS (l.take k)) := by
    exact Utf.ahead _ (Nat.le_refl _) (b := joinS (l.drop k)) (by rw [← hsplit, j1]; exact hu) (fun b hb => hT.last k b hkl hb)
  have hlen : s.length ≤ 16384 := (l1.1 he).1
  obtain ⟨m1, m2⟩ := lexS_ok (joinS (l.take k))
  have hok := m1.2 ⟨by omega, hutf, _, hA, by simp; omega⟩
  have hl2 : (lexS (joinS (l.take k))).1 = l.take k ++ [⟨0, (joinS (l.take k)).length, [], []⟩] := (m2 hok).1.uniq hA
  have hx2 := lexOk hG (joinS (l.take k)) (by omega) H hH
  rw [hok, hl2] at hx2
  have hemp : l.isEmpty = false := by cases l with
    | nil => exact absurd rfl hne
    | cons a r => rfl
  have hjn := joinOk false (l.take k) (by simp; omega) (by omega) H
  have hsm := same4Ok false false (l.take k) (l.take k) (by simp; omega) H
  have hwn : IntKind.i64.wrap (n : Int) = n := wrap_i64 (by omega) (by omega)
  have htm : (n : Int).tmod (l.length : Int) = (k : Int) := by
    rw [hk]; exact (Int.ofNat_tmod n l.length).symm
  have hsub : ∀ m : List Tk, k ≤ m.length → subL (m.map encTk) 0 (k : Int) = some ((m.take k).map encTk) := fun m hm => by
    rw [subL_ok ⟨by omega, by omega, by simp; omega⟩]
    simp
  have hwk : IntKind.i64.wrap ((k : Int) + 1) = k + 1 := wrap_i64 (by omega) (by omega)
  obtain ⟨X, hX⟩ : ∃ X : List Tk, X = l.take k ++ [⟨0, (joinS (l.take k)).length, [], []⟩] := ⟨_, rfl⟩
  have hXl : X.length = k + 1 := by rw [hX]; simp; omega
  have hXt : X.take k = l.take k := by
    rw [hX, List.take_append_of_le_length (by simp; omega), List.take_take, Nat.min_self]
  have hXg : Zam.rowAt (X.map encTk) (k : Int) = some [.int .i64 0, .int .i64 ((joinS (l.take k)).length : Int), .str [], .str []] := by
    have := rowAt_map encTk (show k < X.length by omega)
    rw [this]
    have hg : X[k]'(by omega) = ⟨0, (joinS (l.take k)).length, [], []⟩ := by
      have : X[k]? = some ⟨0, (joinS (l.take k)).length, [], []⟩ := by
        rw [hX, List.getElem?_append_right (by simp; omega)]
        have : k - (l.take k).length = 0 := by simp; omega
        rw [this]; rfl
      rw [List.getElem?_eq_getElem (by omega)] at this
      exact Option.some.inj this
    rw [hg]; rfl
  rw [← hX] at hx2
  have hXe : X.isEmpty = false := by
    cases X with
    | nil => simp at hXl
    | cons a r => rfl
  clear hX
  have hXm : List.take k (X.map encTk) = List.take k (l.map encTk) := by rw [← List.map_take, hXt, List.map_take]
  rw [List.map_take] at hjn hsm
  simp [he, h6, hne, hwn, htm, hsub l (by omega), hemp]
  refine CallK_of' hjn ?_
  simp
  refine CallK_of' hx2 ?_
  simp [hXl, hwk]
  refine CallD_of haw ?_
  simp [hsub l (by omega), hsub X (by omega), hemp, hXe, hXm]
  refine CallD_of hsm ?_
  simp [hXg]
  simp [RetK, cut_self hcl]

end Go.Proofs.Zk

namespace Go.Proofs.Zk
open Go Go.Zam Go.Proofs
set_option maxRecDepth 100000
set_option linter.all false
set_option maxHeartbeats 1000000

variable {H0 : Hp}

theorem againOk (hG : TabsG 0 1 2 3 H0) (s t : Bs) (hs : s.length ≤ 1048576) (ht : t.length ≤ 1048576) (H : Hp) (hH : Pre0 H0 H) : ACall Tryd.prog 3 [.d (.str s), .d (.str t)] H (fun r H' => r = .d (.bool true) ∧ H' = H) := by
  refine acall_fin Tryd.func3 cf3 (by simp [ir3]) fun hcl _ => ?_
  have hx := lexOk hG s hs H hH
  have hy := lexOk hG t ht H hH
  have hz := fun h => lexOk hG (s ++ 10 :: t) h H hH
  obtain ⟨l1, l2⟩ := lexS_ok s
  obtain ⟨r1, r2⟩ := lexS_ok t
  obtain ⟨m1, m2⟩ := lexS_ok (s ++ 10 :: t)
  generalize lexS s = L at hx l1 l2
  generalize lexS t = R at hy r1 r2
  generalize lexS (s ++ 10 :: t) = M at hz m1 m2
  obtain ⟨a, ea, pa⟩ := L
  obtain ⟨b, eb, pb⟩ := R
  obtain ⟨c, ec, pc⟩ := M
  simp only at hx hy hz l1 l2 r1 r2 m1 m2
  have haw := awakeOk hG
  have hw1 : IntKind.i64.wrap ((s.length : Int) + t.length) = s.length + t.length := wrap_i64 (by omega) (by omega)
  simp [ir3]
  refine CallK_of' hx ?_
  simp
  refine CallK_of' hy ?_
  simp
  by_cases he : ea = 0
  case neg =>
    simp [he]
    refine CallK_of' (haw H hH) ?_
    simp
    simp [RetK, cut_self hcl]
  by_cases he2 : eb = 0
  case neg =>
    simp [he, he2]
    refine CallK_of' (haw H hH) ?_
    simp
    simp [RetK, cut_self hcl]
  by_cases h4 : (16384 : Int) ≤ s.length + t.length
  case pos =>
    simp [he, he2, hw1, h4]
    refine CallK_of' (haw H hH) ?_
    simp
    simp [RetK, cut_self hcl]
  obtain ⟨ta, ca⟩ := l2 he
  obtain ⟨tb, cb⟩ := r2 he2
  have hw2 : IntKind.i64.wrap ((a.length : Int) + b.length) = a.length + b.length := wrap_i64 (by omega) (by omega)
  by_cases h5 : (4000 : Int) < a.length + b.length
  case pos =>
    simp [he, he2, hw1, hw2, h4, h5]
    refine CallK_of' (haw H hH) ?_
    simp
    simp [RetK, cut_self hcl]
  obtain ⟨c', k1, k2⟩ := ta.again tb
  have hapos : 1 ≤ a.length := by
    obtain ⟨t0, j, -⟩ := ta.join.2.1
    cases a with
    | nil => simp at j
    | cons x r => simp
  have hcl2 : c'.length = a.length - 1 + b.length := by
    have := congrArg List.length k2
    simpa using this
  have hok := m1.2 ⟨by simp; omega, Utf.app (l1.1 he).2.1 (by
      have : (10 :: t : Bs) = [10] ++ t := rfl
      rw [this]
      exact Utf.app (Utf.ascii (by simp)) (r1.1 he2).2.1), c', k1, by omega⟩
  have hc : c = c' := (m2 hok).1.uniq k1
  subst hc
  have hz := hz (by simp; omega)
  have add1 : strOp .add s [10] = some (.str (s ++ [10])) := by simp only [strOp, List.length_cons, List.length_nil]; rw [if_pos (by omega)]
  have add2 : strOp .add (s ++ [10]) t = some (.str (s ++ 10 :: t)) := by
    simp only [strOp, List.length_append, List.length_cons, List.length_nil]; rw [if_pos (by omega)]; simp
  have hw3 : IntKind.i64.wrap ((a.length : Int) + b.length - 1) = a.length + b.length - 1 := wrap_i64 (by omega) (by omega)
  have hci : (c.length : Int) = a.length + b.length - 1 := by omega
  have hw4 : IntKind.i64.wrap ((a.length : Int) - 1) = a.length - 1 := wrap_i64 (by omega) (by omega)
  have hga : ∀ (i : Nat) (hi : i < c.length) (h : i < a.length - 1), (c[i]).k = (a[i]'(by omega)).k ∧ (c[i]).x = (a[i]'(by omega)).x := fun i hi h => by
    have := congrArg (fun l : List (Int × Bs) => l[i]?) k2
    simp only [List.getElem?_map] at this
    rw [List.getElem?_append_left (by simp; omega), List.getElem?_dropLast, List.getElem?_eq_getElem hi] at this
    simp only [List.length_map, h, if_true, List.getElem?_map] at this
    rw [List.getElem?_eq_getElem (by omega)] at this
    simp [kx] at this
    exact this
  have hgb : ∀ (i : Nat) (hi : i < c.length) (h : ¬ i < a.length - 1), (c[i]).k = (b[i - (a.length - 1)]'(by omega)).k ∧ (c[i]).x = (b[i - (a.length - 1)]'(by omega)).x := fun i hi h => by
    have := congrArg (fun l : List (Int × Bs) => l[i]?) k2
    simp only [List.getElem?_map] at this
    rw [List.getElem?_append_right (by simp; omega), List.getElem?_eq_getElem hi] at this
    simp only [List.length_map, List.length_dropLast, List.getElem?_map] at this
    rw [List.getElem?_eq_getElem (by omega)] at this
    simp [kx] at this
    exact this
  have hcl3 : c.length ≤ 4000 := by omega
  clear k2
  simp [he, he2, hw1, hw2, h4, h5, add1, add2, -strOp]
  refine CallK_of' hz ?_
  simp [hok, hw2, hw3, hci]
  rw [← hci]
  refine LoopK_outR 0 (fun fr H' => H' = H) (fun _ _ => False) ?_ (fun _ _ h => h.elim) ?_
  · refine RangeK_of H.length c.length (fun i fr H' => fr 5 = .d (.sl true 4 (a.map encTk)) ∧ fr 8 = .d (.sl true 4 (b.map encTk)) ∧ fr 74 = .d (.sl true 4 (c.map encTk)) ∧ H' = H) (by omega) (by decide) (by simp) (by simp) ?_ ?_ ?_
    · simp [cut_self hcl]
    · rintro i fr H' hi f76 f75 ⟨f5, f8, f74, rfl⟩
      have hr := rowAt_map encTk hi
      by_cases hia : i < a.length - 1
      · obtain ⟨q1, q2⟩ := hga i hi hia
        have hra := rowAt_map encTk (show i < a.length by omega)
        have hlt : (i : Int) < (a.length : Int) - 1 := by omega
        simp only [encTk] at hr hra
        generalize c[i] = u at hr q1 q2
        generalize a[i] = w at hra q1 q2
        simp [f76, f74, f5, hr, hw4, hlt, hra, q1, q2]
        refine NextK_of H'.length (Nat.le_refl _) (by simp [f76, f75]) ?_
        simp [f5, f8, f74, cut_app hcl]
      · obtain ⟨q1, q2⟩ := hgb i hi hia
        have hrb := rowAt_map encTk (show i - (a.length - 1) < b.length by omega)
        have hlt : ¬ (i : Int) < (a.length : Int) - 1 := by omega
        have hw5 : IntKind.i64.wrap ((i : Int) - a.length) = i - a.length := wrap_i64 (by omega) (by omega)
        have hw6 : IntKind.i64.wrap ((i : Int) - a.length + 1) = ((i - (a.length - 1) : Nat) : Int) := by rw [wrap_i64 (by omega) (by omega)]; omega
        simp only [encTk] at hr hrb
        generalize c[i] = u at hr q1 q2
        generalize b[i - (a.length - 1)] = w at hrb q1 q2
        simp [f76, f74, f5, f8, hr, hw4, hlt, hw5, hw6, hrb, q1, q2]
        refine NextK_of H'.length (Nat.le_refl _) (by simp [f76, f75]) ?_
        simp [f5, f8, f74, cut_app hcl]
    · rintro fr H' f76 f75 ⟨f5, f8, f74, rfl⟩
      simp
  rintro fr H' rfl
  simp
  refine CallK_of' (haw H' hH) ?_
  simp
  simp [RetK, cut_self hcl]

end Go.Proofs.Zk
