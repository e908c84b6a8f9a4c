/-
  Texts of one proof, one behind the other: An abstract machine over the model, fifty-eighth part: tokens up to one of them, tokens of one text behind another one. No program in sight. No condition. An abstract machine over the model, eighty-second part: how trees of parts stand to the tree of the whole, in plain Lean. No program in sight. No condition. An abstract machine over the model, eighty-third part: a file behind another one, in plain Lean. No program in sight. No condition. An abstract machine over the model, eighty-fourth part: the tree of a file behind another one, in plain Lean. No program in sight. No condition. An abstract machine over the model, eighty-sixth part: in a tree out of tokens each node's tokens hold those of what is below it, in order, apart. No program in sight. An abstract machine over the model, eighty-seventh part: how great a text's tree is; the statements' example; a text's tree is of parts. No program in sight. tree.Kind, tree.Show at this program; the example that each statement asks. ParseParts on the abstract machine: it answers true. How much comes in is bounded; the variables are as they are laid.
-/
import Derived.Test.YtempfgljggpglaaGreatDoorM6
import Derived.Test.YtempfgljggpglaaGreatDoorM5
import Derived.ProofKit
namespace Go.Zam
set_option linter.all false
set_option maxRecDepth 100000
set_option maxHeartbeats 2000000

theorem tokN_cons (b : UInt8) (r : Bs) : tokN (b :: r) = if letterB b then
      if (b :: r).take (runN wordB (b :: r)) ∈ keysL then (0, 2, runN wordB (b :: r)) else if 40 < runN wordB (b :: r) then (26, 0, 0) else (0, 1, runN wordB (b :: r))
    else if digitB b then
      if numOk ((b :: r).take (runN wordB (b :: r))) then (0, 3, runN wordB (b :: r)) else (23, 0, 0)
    else if b = 34 then
      if (strV (b :: r)).2 = 0 then (0, 4, (strV (b :: r)).1.length) else (22, 0, 0)
    else if signV (b :: r) = [] then (21, 0, 0) else (0, 5, (signV (b :: r)).length) := rfl

theorem take_app_take (s r' : Bs) (m : Nat) (h : m ≤ s.length) : (s.take m ++ r').take m = s.take m := by
  rw [List.take_append_of_le_length (by simp; omega), List.take_take, Nat.min_self]

/-- a token stays what it is -/
theorem tok_loc {s : Bs} (hs : s ≠ []) (h0 : (tokN s).1 = 0) {r' : Bs} (hr : Sep (s.drop (tokN s).2.2) r') : tokN (s.take (tokN s).2.2 ++ r') = tokN s := by
  cases s with
  | nil => exact absurd rfl hs
  | cons b r =>
  have hm := (tokN_len (b :: r)).2.2.1 h0 hs
  have hml := (tokN_len (b :: r)).1
  have hS : ∀ m, 1 ≤ m → ∃ t, (b :: r).take m ++ r' = b :: t := fun m hm => by
    obtain ⟨m', rfl⟩ : ∃ m', m = m' + 1 := ⟨m - 1, by omega⟩
    exact ⟨r.take m' ++ r', rfl⟩
  have hword : runN wordB (b :: r) = (tokN (b :: r)).2.2 → runN wordB ((b :: r).take (tokN (b :: r)).2.2 ++ r') = (tokN (b :: r)).2.2 := fun e => by
    rw [← e] at hr ⊢
    refine runN_split wordB (b :: r) r' ?_
    rcases hr with rfl | ⟨d, t, rfl, ⟨u, hu⟩ | ⟨h1, h2⟩⟩
    · exact .inl rfl
    · rcases runN_rest wordB (b :: r) with h | ⟨d', t', h, hd⟩
      · rw [h] at hu; cases hu
      · rw [h] at hu; cases hu
        exact .inr ⟨_, t, rfl, hd⟩
    · exact .inr ⟨d, t, rfl, h1⟩
  have hT := tokN_cons b r
  obtain ⟨t, ht⟩ := hS _ hm
  have hT' := tokN_cons b t
  rw [← ht] at hT'
  have htk := take_app_take (b :: r) r' _ hml
  by_cases c1 : letterB b = true
  · rw [if_pos c1] at hT hT'
    have e : runN wordB (b :: r) = (tokN (b :: r)).2.2 := by
      rw [hT] at h0 ⊢
      split at h0
      · rename_i h; rw [if_pos h]
      · rename_i h; rw [if_neg h]; split at h0
        · cases h0
        · rename_i h'; rw [if_neg h']
    have hw := hword e
    rw [hT', hw, htk]
    rw [e] at hT
    exact hT.symm
  rw [if_neg c1] at hT hT'
  by_cases c2 : digitB b = true
  · rw [if_pos c2] at hT hT'
    have e : runN wordB (b :: r) = (tokN (b :: r)).2.2 := by
      rw [hT] at h0 ⊢
      split at h0
      · rename_i h; rw [if_pos h]
      · cases h0
    have hw := hword e
    rw [hT', hw, htk]
    rw [e] at hT
    exact hT.symm
  rw [if_neg c2] at hT hT'
  by_cases c3 : b = 34
  · rw [if_pos c3] at hT hT'
    by_cases c4 : (strV (b :: r)).2 = 0
    · rw [if_pos c4] at hT
      have e : (tokN (b :: r)).2.2 = (strV (b :: r)).1.length := by rw [hT]
      have := strV_app (by simp) c4 r'
      rw [← e] at this
      rw [hT', this, if_pos c4, hT]
    · rw [if_neg c4] at hT
      rw [hT] at h0; cases h0
  rw [if_neg c3] at hT hT'
  by_cases c4 : signV (b :: r) = []
  · rw [if_pos c4] at hT
    rw [hT] at h0; cases h0
  · rw [if_neg c4] at hT
    have e : (tokN (b :: r)).2.2 = (signV (b :: r)).length := by rw [hT]
    have := signV_app c4 (r' := r') (by rw [← e]; exact hr)
    rw [← e] at this
    rw [hT', this, if_neg c4, hT]

theorem lead_app : ∀ (c : Bool) (s : Bs) {b : UInt8} {u : Bs}, s.drop (leadS c s) = b :: u → blankB b = false ∧ hashB b = false ∧ ∀ r' : Bs, moreB blankB r' = false → moreB hashB r' = false → leadS c (s.take (leadS c s) ++ r') = leadS c s
  | c, [], b, u, h => by cases c <;> simp at h
  | false, x :: s, b, u, h => by
    rw [leadS] at h ⊢
    by_cases h1 : blankB x = true
    · rw [if_pos h1] at h ⊢
      rw [List.drop_succ_cons] at h
      obtain ⟨i1, i2, i3⟩ := lead_app false s h
      refine ⟨i1, i2, fun r' q1 q2 => ?_⟩
      rw [List.take_succ_cons, List.cons_append, leadS, if_pos h1, i3 r' q1 q2]
    rw [if_neg h1] at h ⊢
    by_cases h2 : hashB x = true
    · rw [if_pos h2] at h ⊢
      rw [List.drop_succ_cons] at h
      obtain ⟨i1, i2, i3⟩ := lead_app true s h
      refine ⟨i1, i2, fun r' q1 q2 => ?_⟩
      rw [List.take_succ_cons, List.cons_append, leadS, if_neg h1, if_pos h2, i3 r' q1 q2]
    rw [if_neg h2] at h ⊢
    cases h
    exact ⟨by simpa using h1, by simpa using h2, fun r' q1 q2 => lead_none q1 q2⟩
  | true, x :: s, b, u, h => by
    rw [leadS] at h ⊢
    by_cases h1 : noNlB x = true
    · rw [if_pos h1] at h ⊢
      rw [List.drop_succ_cons] at h
      obtain ⟨i1, i2, i3⟩ := lead_app true s h
      refine ⟨i1, i2, fun r' q1 q2 => ?_⟩
      rw [List.take_succ_cons, List.cons_append, leadS, if_pos h1, i3 r' q1 q2]
    · rw [if_neg h1] at h ⊢
      rw [List.drop_succ_cons] at h
      obtain ⟨i1, i2, i3⟩ := lead_app false s h
      refine ⟨i1, i2, fun r' q1 q2 => ?_⟩
      rw [List.take_succ_cons, List.cons_append, leadS, if_neg h1, i3 r' q1 q2]

theorem lead_end (t : Bs) : ∀ (c : Bool) (s : Bs), s.drop (leadS c s) = [] → leadS c (s ++ 10 :: t) = s.length + 1 + leadS false t
  | false, [], _ => by
    have : blankB 10 = true := by decide
    simp [leadS, this]; omega
  | true, [], _ => by
    have : noNlB 10 = false := by decide
    simp [leadS, this]; omega
  | false, x :: s, h => by
    rw [leadS] at h
    by_cases h1 : blankB x = true
    · rw [if_pos h1, List.drop_succ_cons] at h
      rw [List.cons_append, leadS, if_pos h1, lead_end t false s h]; simp; omega
    rw [if_neg h1] at h
    by_cases h2 : hashB x = true
    · rw [if_pos h2, List.drop_succ_cons] at h
      rw [List.cons_append, leadS, if_neg h1, if_pos h2, lead_end t true s h]; simp; omega
    rw [if_neg h2] at h
    cases h
  | true, x :: s, h => by
    rw [leadS] at h
    by_cases h1 : noNlB x = true
    · rw [if_pos h1, List.drop_succ_cons] at h
      rw [List.cons_append, leadS, if_pos h1, lead_end t true s h]; simp; omega
    · rw [if_neg h1, List.drop_succ_cons] at h
      rw [List.cons_append, leadS, if_neg h1, lead_end t false s h]; simp; omega

/-- one token more, whatever follows -/
theorem Toks.more {s : Bs} {n : Nat} {r' : Bs} {l : List Tk} (h : (tokN (s.drop (leadS false s))).1 = 0) (h0 : s.drop (leadS false s) ≠ []) (hr : Sep ((s.drop (leadS false s)).drop (tokN (s.drop (leadS false s))).2.2) r')
    (hl : Toks r' (n + leadS false s + (tokN (s.drop (leadS false s))).2.2) l) :
    Toks (s.take (leadS false s) ++ ((s.drop (leadS false s)).take (tokN (s.drop (leadS false s))).2.2 ++ r')) n (⟨(tokN (s.drop (leadS false s))).2.1, n + leadS false s, s.take (leadS false s), (s.drop (leadS false s)).take (tokN (s.drop (leadS false s))).2.2⟩ :: l) := by
  have hloc := tok_loc h0 h hr
  obtain ⟨m1, m2, m3, m4⟩ := tokN_len (s.drop (leadS false s))
  have hm := m3 h h0
  have hll := lead_le false s
  obtain ⟨b, u, hbu⟩ : ∃ b u, s.drop (leadS false s) = b :: u := by
    cases e : s.drop (leadS false s) with
    | nil => exact absurd e h0
    | cons b u => exact ⟨b, u, rfl⟩
  obtain ⟨g1, g2, g3⟩ := lead_app false s hbu
  have hlen : (s.take (leadS false s)).length = leadS false s := by simp; omega
  have hxl : ((s.drop (leadS false s)).take (tokN (s.drop (leadS false s))).2.2).length = (tokN (s.drop (leadS false s))).2.2 := by simp only [List.length_take]; omega
  have hL := g3 ((s.drop (leadS false s)).take (tokN (s.drop (leadS false s))).2.2 ++ r') (by
      rw [hbu] at hm ⊢
      obtain ⟨m', e⟩ : ∃ m', (tokN (b :: u)).2.2 = m' + 1 := ⟨(tokN (b :: u)).2.2 - 1, by omega⟩
      rw [e]; exact g1) (by
      rw [hbu] at hm ⊢
      obtain ⟨m', e⟩ : ∃ m', (tokN (b :: u)).2.2 = m' + 1 := ⟨(tokN (b :: u)).2.2 - 1, by omega⟩
      rw [e]; exact g2)
  generalize hX : (s.drop (leadS false s)).take (tokN (s.drop (leadS false s))).2.2 = X at *
  generalize hD : s.take (leadS false s) = D at *
  generalize leadS false s = L at *
  have e1 : (D ++ (X ++ r')).drop L = X ++ r' := by rw [← hlen, List.drop_left]
  have e2 : (D ++ (X ++ r')).take L = D := by rw [← hlen, List.take_left]
  generalize hTT : tokN (s.drop L) = T at *
  have e3 : (X ++ r').drop T.2.2 = r' := by rw [← hxl, List.drop_left]
  have e4 : (X ++ r').take T.2.2 = X := by rw [← hxl, List.take_left]
  have := Toks.tok (s := D ++ (X ++ r')) (n := n) (l := l) (by rw [hL, e1, hloc]; exact h) (by
      rw [hL, e1]; intro e; rw [List.append_eq_nil_iff] at e
      rw [e.1] at hxl; simp at hxl; omega) (by rw [hL, e1, hloc, e3]; exact hl)
  rw [hL, e1, hloc, e2, e4] at this
  exact this

theorem Toks.ahead {s : Bs} {n : Nat} {l : List Tk} (h : Toks s n l) : ∀ k, k < l.length → Toks (joinS (l.take k)) n (l.take k ++ [⟨0, n + (joinS (l.take k)).length, [], []⟩]) := by
  have hz : ∀ n, Toks [] n [⟨0, n, [], []⟩] := fun n => by
    have := Toks.fin (s := []) (n := n) rfl rfl
    simpa [leadS] using this
  induction h with
  | @fin s n h1 h2 =>
    intro k hk
    have : k = 0 := by simp at hk; omega
    subst this
    exact hz n
  | @tok s n l h1 h2 h3 ih =>
    intro k hk
    cases k with
    | zero => exact hz n
    | succ k =>
      have hk' : k < l.length := by simpa using hk
      have i := ih k hk'
      have hj := h3.join.1
      have hsep : Sep ((s.drop (leadS false s)).drop (tokN (s.drop (leadS false s))).2.2) (joinS (l.take k)) := by
        rw [← hj]
        have e : joinS l = joinS (l.take k) ++ joinS (l.drop k) := by rw [← joinS_app, List.take_append_drop]
        rw [e]
        cases joinS (l.take k) with
        | nil => exact .inl rfl
        | cons b t => exact .inr ⟨b, t, rfl, .inl ⟨t ++ joinS (l.drop k), rfl⟩⟩
      have := Toks.more h1 h2 hsep i
      have e1 : joinS (⟨(tokN (s.drop (leadS false s))).2.1, n + leadS false s, s.take (leadS false s), (s.drop (leadS false s)).take (tokN (s.drop (leadS false s))).2.2⟩ :: l.take k) = s.take (leadS false s) ++ ((s.drop (leadS false s)).take (tokN (s.drop (leadS false s))).2.2 ++ joinS (l.take k)) := by
        simp [joinS]
      have hl := lead_le false s
      obtain ⟨m1, m2, m3, m4⟩ := tokN_len (s.drop (leadS false s))
      rw [List.take_succ_cons, e1, List.cons_append]
      have e2 : n + (s.take (leadS false s) ++ ((s.drop (leadS false s)).take (tokN (s.drop (leadS false s))).2.2 ++ joinS (l.take k))).length = n + leadS false s + (tokN (s.drop (leadS false s))).2.2 + (joinS (l.take k)).length := by
        simp only [List.length_append, List.length_take]; omega
      rw [e2]
      exact this

def kx (t : Tk) : Int × Bs := (t.k, t.x)

theorem Toks.shift {s : Bs} {n : Nat} {l : List Tk} (h : Toks s n l) : ∀ n', ∃ l', Toks s n' l' ∧ l'.map kx = l.map kx := by
  induction h with
  | fin h1 h2 => exact fun n' => ⟨_, .fin h1 h2, rfl⟩
  | tok h1 h2 h3 ih =>
    intro n'
    obtain ⟨l', i1, i2⟩ := ih _
    exact ⟨_, .tok h1 h2 i1, by simp only [List.map_cons, i2]; rfl⟩

theorem Toks.again {s : Bs} {n : Nat} {a : List Tk} (h : Toks s n a) {t : Bs} {p : Nat} {b : List Tk} (hb : Toks t p b) : ∃ c, Toks (s ++ 10 :: t) n c ∧ c.map kx = (a.map kx).dropLast ++ b.map kx := by
  induction h with
  | @fin s n h1 h2 =>
    have hL := lead_end t false s h2
    have hdr : (s ++ 10 :: t).drop (leadS false (s ++ 10 :: t)) = t.drop (leadS false t) := by
      rw [hL]
      have : s ++ 10 :: t = (s ++ [10]) ++ t := by simp
      rw [this, Nat.add_comm, ← List.drop_drop]
      have e : ((s ++ [10]) ++ t).drop (leadS false t + (s.length + 1)) = t.drop (leadS false t) := by
        rw [Nat.add_comm, ← List.drop_drop, show s.length + 1 = (s ++ [10]).length by simp, List.drop_left]
      rw [List.drop_drop, Nat.add_comm]
      rw [Nat.add_comm] at e
      first | exact e | (rw [Nat.add_comm]; exact e)
    cases hb with
    | fin g1 g2 =>
      exact ⟨_, .fin (by rw [hdr]; exact g1) (by rw [hdr]; exact g2), rfl⟩
    | tok g1 g2 g3 =>
      obtain ⟨l', i1, i2⟩ := g3.shift (n + leadS false (s ++ 10 :: t) + (tokN ((s ++ 10 :: t).drop (leadS false (s ++ 10 :: t)))).2.2)
      refine ⟨_, .tok (by rw [hdr]; exact g1) (by rw [hdr]; exact g2) (by rw [hdr] at i1 ⊢; exact i1), ?_⟩
      simp only [List.map_cons, i2, List.map_nil, List.dropLast_singleton, List.nil_append, kx, hdr]
  | @tok s n l h1 h2 h3 ih =>
    obtain ⟨c, i1, i2⟩ := ih
    have hsep : Sep ((s.drop (leadS false s)).drop (tokN (s.drop (leadS false s))).2.2) ((s.drop (leadS false s)).drop (tokN (s.drop (leadS false s))).2.2 ++ 10 :: t) := by
      cases (s.drop (leadS false s)).drop (tokN (s.drop (leadS false s))).2.2 with
      | nil => exact .inr ⟨10, t, rfl, .inr ⟨by decide, by decide⟩⟩
      | cons d u => exact .inr ⟨d, u ++ 10 :: t, rfl, .inl ⟨u, rfl⟩⟩
    have := Toks.more h1 h2 hsep i1
    rw [← List.append_assoc ((s.drop (leadS false s)).take _), List.take_append_drop, ← List.append_assoc, List.take_append_drop] at this
    refine ⟨_, this, ?_⟩
    have hne : l.map kx ≠ [] := fun e => by
      obtain ⟨t0, j, -⟩ := h3.join.2.1
      have : l = [] := List.map_eq_nil_iff.1 e
      rw [this] at j; simp at j
    rw [List.map_cons, List.map_cons, i2, List.dropLast_cons_of_ne_nil hne]
    rfl

theorem strS_last : ∀ {s : Bs} {k : Nat}, strS s = some k → s[k - 1]? = some 34
  | [], k, h => by simp [strS] at h
  | [b], k, h => by
    simp only [strS] at h
    split at h
    · rename_i hb; cases h; subst hb; rfl
    · cases h
  | b :: c :: r, k, h => by
    simp only [strS] at h
    split at h
    · rename_i hb; cases h; subst hb; rfl
    split at h
    · cases e : strS r with
      | none => simp [e] at h
      | some q =>
        have i := strS_last e
        have hq := strS_le e
        simp [e] at h
        subst h
        obtain ⟨q', rfl⟩ : ∃ q', q = q' + 1 := ⟨q - 1, by omega⟩
        simpa using i
    split at h
    · cases h
    · cases e : strS (c :: r) with
      | none => simp [e] at h
      | some q =>
        have i := strS_last e
        have hq := strS_le e
        simp [e] at h
        subst h
        obtain ⟨q', rfl⟩ : ∃ q', q = q' + 1 := ⟨q - 1, by omega⟩
        simpa using i

theorem takeWhile_all (p : UInt8 → Bool) (s : Bs) : ∀ c ∈ s.take (runN p s), p c = true := by
  induction s with
  | nil => simp
  | cons b s ih =>
    cases hb : p b with
    | false => simp [runN, hb]
    | true =>
      have e : runN p (b :: s) = runN p s + 1 := by simp [runN, hb]
      rw [e, List.take_succ_cons]
      intro c hc
      rcases List.mem_cons.1 hc with rfl | hc
      · exact hb
      · exact ih c hc

/-- a token ends with a byte of its own -/
theorem tok_last {s : Bs} (hs : s ≠ []) (h0 : (tokN s).1 = 0) {b : UInt8} (hb : (s.take (tokN s).2.2).getLast? = some b) : b.toNat < 128 := by
  cases s with
  | nil => exact absurd rfl hs
  | cons x r =>
  have hT := tokN_cons x r
  have hmem := List.mem_of_getLast? hb
  by_cases c1 : letterB x = true
  · rw [if_pos c1] at hT
    have e : runN wordB (x :: r) = (tokN (x :: r)).2.2 := by
      rw [hT] at h0 ⊢
      split at h0
      · rename_i h; rw [if_pos h]
      · rename_i h; rw [if_neg h]; split at h0
        · cases h0
        · rename_i h'; rw [if_neg h']
    rw [← e] at hmem
    exact word_ascii (takeWhile_all wordB _ b hmem)
  rw [if_neg c1] at hT
  by_cases c2 : digitB x = true
  · rw [if_pos c2] at hT
    have e : runN wordB (x :: r) = (tokN (x :: r)).2.2 := by
      rw [hT] at h0 ⊢
      split at h0
      · rename_i h; rw [if_pos h]
      · cases h0
    rw [← e] at hmem
    exact word_ascii (takeWhile_all wordB _ b hmem)
  rw [if_neg c2] at hT
  by_cases c3 : x = 34
  · rw [if_pos c3] at hT
    by_cases c4 : (strV (x :: r)).2 = 0
    · rw [if_pos c4] at hT
      have e : (tokN (x :: r)).2.2 = (strV (x :: r)).1.length := by rw [hT]
      rw [e, strV_take _ c4] at hb
      unfold strV at hb c4
      simp only [List.drop_succ_cons, List.drop_zero] at hb c4
      cases hk : strS r with
      | none => rw [hk] at hb; simp at hb
      | some k =>
        rw [hk] at hb
        have hl := strS_last hk
        have hle := strS_le hk
        simp only at hb
        rw [List.getLast?_eq_getElem?, List.length_take, List.getElem?_take] at hb
        have e1 : min (k + 1) (x :: r).length - 1 = k := by simp; omega
        rw [e1, if_pos (by omega)] at hb
        obtain ⟨k', rfl⟩ : ∃ k', k = k' + 1 := ⟨k - 1, by omega⟩
        simp at hb hl
        rw [hl] at hb
        cases hb
        decide
    · rw [if_neg c4] at hT
      rw [hT] at h0; cases h0
  rw [if_neg c3] at hT
  by_cases c4 : signV (x :: r) = []
  · rw [if_pos c4] at hT
    rw [hT] at h0; cases h0
  · rw [if_neg c4] at hT
    have e : (tokN (x :: r)).2.2 = (signV (x :: r)).length := by rw [hT]
    rw [e, signV_take] at hmem
    have hall : ∀ y ∈ signsT, ∀ c ∈ y, c.toNat < 128 := by decide
    unfold signV at hmem
    cases hf : signsT.find? (fun y => y.isPrefixOf (x :: r)) with
    | none => rw [hf] at hmem; simp at hmem
    | some y =>
      rw [hf] at hmem
      exact hall y (List.mem_of_find?_eq_some hf) b hmem

theorem Toks.last {s : Bs} {n : Nat} {l : List Tk} (h : Toks s n l) : ∀ (k : Nat) (b : UInt8), k < l.length → (joinS (l.take k)).getLast? = some b → b.toNat < 128 := by
  induction h with
  | @fin s n h1 h2 =>
    intro k b hk hb
    have : k = 0 := by simp at hk; omega
    subst this
    simp [joinS] at hb
  | @tok s n l h1 h2 h3 ih =>
    intro k b hk hb
    cases k with
    | zero => simp [joinS] at hb
    | succ k =>
      have e1 : joinS (⟨(tokN (s.drop (leadS false s))).2.1, n + leadS false s, s.take (leadS false s), (s.drop (leadS false s)).take (tokN (s.drop (leadS false s))).2.2⟩ :: l.take k) = s.take (leadS false s) ++ ((s.drop (leadS false s)).take (tokN (s.drop (leadS false s))).2.2 ++ joinS (l.take k)) := by
        simp [joinS]
      rw [List.take_succ_cons, e1, List.getLast?_append, List.getLast?_append] at hb
      cases hJ : (joinS (l.take k)).getLast? with
      | some c =>
        rw [hJ] at hb
        simp at hb
        subst hb
        exact ih k c (by simpa using hk) hJ
      | none =>
        rw [hJ] at hb
        have hm := (tokN_len (s.drop (leadS false s))).2.2.1 h1 h2
        cases hx : ((s.drop (leadS false s)).take (tokN (s.drop (leadS false s))).2.2).getLast? with
        | none =>
          have := List.getLast?_eq_none_iff.1 hx
          have hl := congrArg List.length this
          have := (tokN_len (s.drop (leadS false s))).1
          simp only [List.length_take, List.length_nil] at hl
          omega
        | some c =>
          rw [hx] at hb
          simp at hb
          subst hb
          exact tok_last h2 h1 hx

end Go.Zam

namespace Go.Zam
set_option linter.all false
set_option maxRecDepth 100000
set_option maxHeartbeats 1000000

/-- one step of it -/
def ppB (L : List Tk) (q : G → Nat → PR) (g : G) (i : Nat) : PR := match g with
    | .file ks => if kdT L i = 0 then .ok (N.new 1 0 i [] 0 ks) i
        else if isT L i kUse then (q .use i).then fun m j => q (.file (ks ++ [m])) j else (q .defn i).then fun m j => q (.file (ks ++ [m])) j
    | .use => wantR L i kUse fun _ => wordR L (i + 1) fun m _ => wantR L (i + 2) [46] fun _ => wordR L (i + 3) fun w _ => wantR L (i + 4) [59] fun _ =>
        .ok (N.new 2 i (i + 5) w (i + 3) [N.new 23 (i + 1) (i + 2) m (i + 1) []]) (i + 5)
    | .defn => wantR L i kDef fun _ => wordR L (i + 1) fun w _ => (q .params (i + 2)).then fun p j => (q .typed j).then fun t j => (q .block j).then fun b j => .ok (N.new 3 i j w (i + 1) [p, t, b]) j
    | .params => wantR L i [40] fun _ => (q (.list .param [41]) (i + 1)).then fun m j => .ok (N.new 4 i j [] 0 m.ks) j
    | .param => wordR L i fun w _ => (q .typed (i + 1)).then fun t j => .ok (N.new 5 i j w i [t]) j
    | .typed => if isT L i [58] then q .kind (i + 1) else .ok N.none i
    | .kind => if isT L i kInt then .ok (N.new 29 i (i + 1) [] 0 []) (i + 1) else if isT L i kStr then .ok (N.new 30 i (i + 1) [] 0 []) (i + 1) else if isT L i kDyn then .ok (N.new 31 i (i + 1) [] 0 []) (i + 1)
        else if isT L i [123] then (q (.list .tfield [125]) (i + 1)).then fun m j => .ok (N.new 32 i j [] 0 m.ks) j
        else wantR L i kFn fun _ => wantR L (i + 1) [40] fun _ => (q (.list .kind [41]) (i + 2)).then fun m j => wantR L j [58] fun _ => (q .kind (j + 1)).then fun t j => .ok (N.new 34 i j [] 0 (m.ks ++ [t])) j
    | .tfield => wordR L i fun w _ => wantR L (i + 1) [58] fun _ => (q .kind (i + 2)).then fun t j => .ok (N.new 33 i j w i [t]) j
    | .block => wantR L i [123] fun _ => (q (.stmts []) (i + 1)).then fun m j => .ok (N.new 6 i j [] 0 m.ks) j
    | .stmts ks => if isT L i [125] then .ok (N.bag ks) (i + 1) else (q .stmt i).then fun m j => q (.stmts (ks ++ [m])) j
    | .stmt => if isT L i kLet then wordR L (i + 1) fun w _ => (q .typed (i + 2)).then fun t j => wantR L j [61] fun _ => (q .expr (j + 1)).then fun x j => wantR L j [59] fun _ => .ok (N.new 7 i (j + 1) w (i + 1) [t, x]) (j + 1)
        else if isT L i kIf then (q .expr (i + 1)).then fun c j => (q .block j).then fun b j =>
          if isT L j kElse then (q .block (j + 1)).then fun o j => .ok (N.new 9 i j [] 0 [c, b, o]) j else .ok (N.new 9 i j [] 0 [c, b, N.none]) j
        else if isT L i kWhile then (q .expr (i + 1)).then fun c j => (q .block j).then fun b j => .ok (N.new 10 i j [] 0 [c, b]) j
        else if isT L i kPrint then (q .expr (i + 1)).then fun x j => wantR L j [59] fun _ => .ok (N.new 11 i (j + 1) [] 0 [x]) (j + 1)
        else if isT L i kReturn then (q .expr (i + 1)).then fun x j => wantR L j [59] fun _ => .ok (N.new 12 i (j + 1) [] 0 [x]) (j + 1)
        else if kdT L i = 1 ∧ isT L (i + 1) [61] = true then (q .expr (i + 2)).then fun x j => wantR L j [59] fun _ => .ok (N.new 8 i (j + 1) (txT L i) i [x]) (j + 1)
        else (q .expr i).then fun x j => wantR L j [59] fun _ => .ok (N.new 13 i (j + 1) [] 0 [x]) (j + 1)
    | .expr => (q .sum i).then fun a j => if isT L j [60] then (q .sum (j + 1)).then fun b j => .ok (N.new 14 a.f j [] 0 [a, b]) j
        else if isT L j [61, 61] then (q .sum (j + 1)).then fun b j => .ok (N.new 15 a.f j [] 0 [a, b]) j else .ok a j
    | .sum => (q .term i).then fun a j => q (.sumL a) j
    | .sumL a => if isT L i [43] then (q .term (i + 1)).then fun b j => q (.sumL (N.new 16 a.f j [] 0 [a, b])) j
        else if isT L i [45] then (q .term (i + 1)).then fun b j => q (.sumL (N.new 17 a.f j [] 0 [a, b])) j else .ok a i
    | .term => (q .post i).then fun a j => q (.termL a) j
    | .termL a => if isT L i [42] then (q .post (i + 1)).then fun b j => q (.termL (N.new 18 a.f j [] 0 [a, b])) j else .ok a i
    | .post => (q .atom i).then fun a j => q (.postL a) j
    | .postL a => if isT L i [46] then wordR L (i + 1) fun w j => q (.postL (N.new 19 a.f j w (i + 1) [a])) j
        else if isT L i [40] then (q (.list .expr [41]) (i + 1)).then fun m j => q (.postL (N.new 20 a.f j [] 0 (a :: m.ks))) j else .ok a i
    | .atom => if kdT L i = 3 then .ok (N.new 21 i (i + 1) (txT L i) i []) (i + 1) else if kdT L i = 4 then .ok (N.new 22 i (i + 1) (txT L i) i []) (i + 1) else if kdT L i = 1 then .ok (N.new 23 i (i + 1) (txT L i) i []) (i + 1)
        else if isT L i kInput then .ok (N.new 24 i (i + 1) [] 0 []) (i + 1)
        else if isT L i [40] then (q .expr (i + 1)).then fun x j => wantR L j [41] fun _ => .ok (N.new 25 i (j + 1) [] 0 [x]) (j + 1)
        else if isT L i [123] then (q (.list .entry [125]) (i + 1)).then fun m j => .ok (N.new 26 i j [] 0 m.ks) j
        else wantR L i kFn fun _ => (q .params (i + 1)).then fun p j => (q .typed j).then fun t j => (q .block j).then fun b j => .ok (N.new 28 i j [] 0 [p, t, b]) j
    | .entry => wordR L i fun w _ => wantR L (i + 1) [58] fun _ => (q .expr (i + 2)).then fun x j => .ok (N.new 27 i j w i [x]) j
    | .list one e => if isT L i e then .ok (N.bag []) (i + 1) else q (.listL one e []) i
    | .listL one e ks => (q one i).then fun x j => if isT L j e then .ok (N.bag (ks ++ [x])) (j + 1) else wantR L j [44] fun j => q (.listL one e (ks ++ [x])) j


theorem pp_succ (L : List Tk) (n : Nat) (g : G) (i : Nat) : pp L (n + 1) g i = ppB L (pp L n) g i := by
  cases g <;> rfl

/-! more time does no harm -/

def PLe (r r' : PR) : Prop := r ≠ .out → r' = r
section
variable {L : List Tk}
theorem PLe.refl (r : PR) : PLe r r := fun _ => rfl
theorem PLe.want {k : Nat} {x : Bs} {h h' : Nat → PR} (hh : PLe (h (k + 1)) (h' (k + 1))) : PLe (wantR L k x h) (wantR L k x h') := by
  unfold wantR
  split
  · exact hh
  · exact .refl _
theorem PLe.word {k : Nat} {h h' : Bs → Nat → PR} (hh : PLe (h (txT L k) (k + 1)) (h' (txT L k) (k + 1))) : PLe (wordR L k h) (wordR L k h') := by
  unfold wordR
  split
  · exact hh
  · exact .refl _
theorem PLe.ite {c : Prop} [Decidable c] {a b a' b' : PR} (ha : PLe a a') (hb : PLe b b') : PLe (if c then a else b) (if c then a' else b') := by
  split
  · exact ha
  · exact hb
theorem PLe.thenG {x x' : PR} {h h' : N → Nat → PR} (hx : PLe x x') (hh : ∀ m j, PLe (h m j) (h' m j)) : PLe (x.then h) (x'.then h') := by
  intro hne
  cases x with
  | out => exact absurd rfl hne
  | bad q => rw [hx (by intro h; cases h)]; rfl
  | ok m j => rw [hx (by intro h; cases h)]; exact hh m j hne
theorem ppB_le {q q' : G → Nat → PR} (hq : ∀ g i, PLe (q g i) (q' g i)) (g : G) (i : Nat) : PLe (ppB L q g i) (ppB L q' g i) := by
  cases g
  all_goals simp only [ppB]
  all_goals
    repeat' first
      | exact PLe.refl _
      | exact hq _ _
      | (refine PLe.want ?_)
      | (refine PLe.word ?_)
      | (refine PLe.ite ?_ ?_)
      | (refine PLe.thenG (hq _ _) fun m j => ?_)
theorem pp_mono1 : ∀ (n : Nat) (g : G) (i : Nat), PLe (pp L n g i) (pp L (n + 1) g i)
  | 0, g, i => fun h => absurd rfl h
  | n + 1, g, i => by
    rw [pp_succ, pp_succ L (n + 1)]
    exact ppB_le (pp_mono1 n) g i
theorem pp_mono {n n' : Nat} (h : n ≤ n') {g : G} {i : Nat} (hne : pp L n g i ≠ .out) : pp L n' g i = pp L n g i := by
  induction h with
  | refl => rfl
  | step _ ih => rw [pp_mono1 _ g i (by rw [ih]; exact hne), ih]
end

/-! the same tokens, elsewhere -/

theorem N.Sm.symm {p : Bool} {n m : N} (h : N.Sm p n m) : N.Sm p m n := by
  induction h with
  | mk hp hl hk ih =>
    refine .mk (fun e => ?_) hl.symm fun i x y hx hy => ih i y x hy hx
    obtain ⟨rfl, rfl, rfl⟩ := hp e
    exact ⟨rfl, rfl, rfl⟩

def SmL (ks ks' : List N) : Prop := ks.length = ks'.length ∧ ∀ (i : Nat) (x y : N), ks[i]? = some x → ks'[i]? = some y → N.Sm false x y
theorem SmL.nil : SmL [] [] := ⟨rfl, by simp⟩
theorem SmL.cons {x y : N} {a b : List N} (h : N.Sm false x y) (hl : SmL a b) : SmL (x :: a) (y :: b) := by
  refine ⟨by simp [hl.1], fun i u v hu hv => ?_⟩
  cases i with
  | zero => simp at hu hv; subst hu; subst hv; exact h
  | succ i => exact hl.2 i u v (by simpa using hu) (by simpa using hv)
theorem SmL.app {a b c d : List N} (h : SmL a b) (k : SmL c d) : SmL (a ++ c) (b ++ d) := by
  refine ⟨by simp [h.1, k.1], fun i u v hu hv => ?_⟩
  by_cases hi : i < a.length
  · rw [List.getElem?_append_left hi] at hu
    rw [List.getElem?_append_left (by rw [← h.1]; exact hi)] at hv
    exact h.2 i u v hu hv
  · rw [List.getElem?_append_right (by omega)] at hu
    rw [List.getElem?_append_right (by rw [← h.1]; omega), ← h.1] at hv
    exact k.2 _ u v hu hv
theorem Sm_new {k f t f' t' : Int} {w : Bs} {a a' : Int} {ks ks' : List N} (h : SmL ks ks') : N.Sm false (.new k f t w a ks) (.new k f' t' w a' ks') := .mk (fun e => by cases e) h.1 h.2
theorem Sm_ks {n m : N} (h : N.Sm false n m) : SmL n.ks m.ks := by
  cases h with
  | mk hp hl hk => exact ⟨hl, hk⟩
theorem SmL.refl (l : List N) : SmL l l := ⟨rfl, fun i x y hx hy => by rw [hx] at hy; cases hy; exact .refl _ _⟩
theorem Sm_depth {p : Bool} {n m : N} (h : N.Sm p n m) : n.depth = m.depth := by
  induction h with
  | @mk k f t f' t' w a a' z z' ks ks' hp hl hk ih =>
    rw [N.depth_mk, N.depth_mk]
    congr 1
    have : ∀ (l l' : List N), l.length = l'.length → (∀ (i : Nat) (x y : N), l[i]? = some x → l'[i]? = some y → x.depth = y.depth) → N.depths l = N.depths l' := by
      intro l
      induction l with
      | nil => intro l' hl _; cases l' with | nil => rfl | cons _ _ => simp at hl
      | cons x l ihl =>
        intro l' hl h
        cases l' with
        | nil => simp at hl
        | cons y l' =>
          rw [N.depths_cons, N.depths_cons, h 0 x y rfl rfl, ihl l' (by simpa using hl) fun i u v hu hv => h (i + 1) u v (by simpa using hu) (by simpa using hv)]
    exact this ks ks' hl fun i x y hx hy => ih i x y hx hy
theorem SmL.depths {l l' : List N} (h : SmL l l') : N.depths l = N.depths l' := by
  have := Sm_depth (Sm_new (k := 0) (f := 0) (t := 0) (f' := 0) (t' := 0) (w := []) (a := 0) (a' := 0) h)
  simp only [N.new, N.depth_mk] at this
  omega

inductive Gs : G → G → Prop
  | refl (g : G) : Gs g g
  | stmts {a b : List N} (h : SmL a b) : Gs (.stmts a) (.stmts b)
  | sumL {a b : N} (h : N.Sm false a b) : Gs (.sumL a) (.sumL b)
  | termL {a b : N} (h : N.Sm false a b) : Gs (.termL a) (.termL b)
  | postL {a b : N} (h : N.Sm false a b) : Gs (.postL a) (.postL b)
  | listL {o : G} {e : Bs} {a b : List N} (h : SmL a b) : Gs (.listL o e a) (.listL o e b)

def G.look : G → Nat
  | .use | .defn | .block | .params | .stmts _ | .list .. | .listL .. => 0
  | _ => 1
def G.st (g : G) : Nat := if g.strict then 1 else 0
def G.nice2 : G → Prop
  | .list o _ | .listL o _ _ => o.strict = true ∧ o.look = 1 ∧ o.nice2
  | .file _ => False
  | _ => True

def S3 (L L' : List Tk) (i i' : Nat) : Prop := (∀ x, isT L i x = isT L' i' x) ∧ kdT L i = kdT L' i' ∧ txT L i = txT L' i'

def Rb (d b lo c : Nat) (r r' : PR) : Prop := ∀ m j, r = .ok m j → lo ≤ j ∧ (j + c ≤ b → ∃ m', r' = .ok m' (j + d) ∧ N.Sm false m m')

section
variable {L L' : List Tk} {d b lo c : Nat}
theorem Rb.ok {m m' : N} {j j' : Nat} (hl : lo ≤ j) (hj : j' = j + d) (hm : N.Sm false m m') : Rb d b lo c (.ok m j) (.ok m' j') := by
  rintro m0 j0 h
  cases h
  exact ⟨hl, fun _ => ⟨m', by rw [hj], hm⟩⟩
theorem Rb.want (hs : ∀ i, i < b → S3 L L' i (i + d)) {k k' : Nat} {x : Bs} {h h' : Nat → PR} (hk : k' = k + d) (hlo : lo ≤ k + 1) (hh : Rb d b (k + 1) c (h (k + 1)) (h' (k' + 1))) : Rb d b lo c (wantR L k x h) (wantR L' k' x h') := by
  subst hk
  rintro m j he
  unfold wantR at he
  split at he
  · rename_i e
    obtain ⟨h1, h2⟩ := hh m j he
    refine ⟨by omega, fun hb => ?_⟩
    obtain ⟨m', h3, h4⟩ := h2 hb
    refine ⟨m', ?_, h4⟩
    unfold wantR
    rw [if_pos (by rw [← (hs k (by omega)).1]; exact e)]
    exact h3
  · cases he
theorem Rb.word (hs : ∀ i, i < b → S3 L L' i (i + d)) {k k' : Nat} {h h' : Bs → Nat → PR} (hk : k' = k + d) (hlo : lo ≤ k + 1) (hh : ∀ w, Rb d b (k + 1) c (h w (k + 1)) (h' w (k' + 1))) : Rb d b lo c (wordR L k h) (wordR L' k' h') := by
  subst hk
  rintro m j he
  unfold wordR at he
  split at he
  · rename_i e
    obtain ⟨h1, h2⟩ := hh _ m j he
    refine ⟨by omega, fun hb => ?_⟩
    obtain ⟨m', h3, h4⟩ := h2 hb
    refine ⟨m', ?_, h4⟩
    unfold wordR
    have := hs k (by omega)
    rw [if_pos (by rw [← this.2.1]; exact e), ← this.2.2]
    exact h3
  · cases he
theorem Rb.ifT (hs : ∀ i, i < b → S3 L L' i (i + d)) {k k' : Nat} {x : Bs} {a a' e e' : PR} (hk : k' = k + d) (hkc : k < lo + c) (ha : Rb d b lo c a a') (he : Rb d b lo c e e') : Rb d b lo c (if isT L k x then a else e) (if isT L' k' x then a' else e') := by
  subst hk
  rintro m j h
  have key : k < b → (isT L k x = isT L' (k + d) x) := fun hb => (hs k hb).1 x
  split at h
  · rename_i hx
    obtain ⟨h1, h2⟩ := ha m j h
    refine ⟨h1, fun hb => ?_⟩
    rw [← key (by omega), if_pos hx]
    exact h2 hb
  · rename_i hx
    obtain ⟨h1, h2⟩ := he m j h
    refine ⟨h1, fun hb => ?_⟩
    rw [← key (by omega), if_neg hx]
    exact h2 hb
theorem Rb.ifK (hs : ∀ i, i < b → S3 L L' i (i + d)) {k k' : Nat} {x : Int} {a a' e e' : PR} (hk : k' = k + d) (hkc : k < lo + c) (ha : Rb d b lo c a a') (he : Rb d b lo c e e') : Rb d b lo c (if kdT L k = x then a else e) (if kdT L' k' = x then a' else e') := by
  subst hk
  rintro m j h
  have key : k < b → (kdT L k = kdT L' (k + d)) := fun hb => (hs k hb).2.1
  split at h
  · rename_i hx
    obtain ⟨h1, h2⟩ := ha m j h
    refine ⟨h1, fun hb => ?_⟩
    rw [← key (by omega), if_pos hx]
    exact h2 hb
  · rename_i hx
    obtain ⟨h1, h2⟩ := he m j h
    refine ⟨h1, fun hb => ?_⟩
    rw [← key (by omega), if_neg hx]
    exact h2 hb
theorem Rb.ifS (hs : ∀ i, i < b → S3 L L' i (i + d)) {k k' : Nat} {x : Bs} {a a' e e' : PR} (hk : k' = k + d) (hkc : k + 1 < lo + c) (ha : Rb d b lo c a a') (he : Rb d b lo c e e') : Rb d b lo c (if kdT L k = 1 ∧ isT L (k + 1) x = true then a else e) (if kdT L' k' = 1 ∧ isT L' (k' + 1) x = true then a' else e') := by
  subst hk
  rintro m j h
  have key : k + 1 < b → ((kdT L k = 1 ∧ isT L (k + 1) x = true) ↔ (kdT L' (k + d) = 1 ∧ isT L' (k + d + 1) x = true)) := fun hb => by
    rw [(hs k (by omega)).2.1, (hs (k + 1) hb).1 x, show k + 1 + d = k + d + 1 by omega]
  split at h
  · rename_i hx
    obtain ⟨h1, h2⟩ := ha m j h
    refine ⟨h1, fun hb => ?_⟩
    rw [if_pos ((key (by omega)).1 hx)]
    exact h2 hb
  · rename_i hx
    obtain ⟨h1, h2⟩ := he m j h
    refine ⟨h1, fun hb => ?_⟩
    rw [if_neg (fun hc => hx ((key (by omega)).2 hc))]
    exact h2 hb
theorem Rb.thenG {x x' : PR} {h h' : N → Nat → PR} {lo1 lk : Nat} (hx : Rb d b lo1 lk x x') (hlo : ∀ j, lo1 ≤ j → lo ≤ j + (lk - c)) (hh : ∀ m m' j, lo1 ≤ j → N.Sm false m m' → Rb d b (j + (lk - c)) c (h m j) (h' m' (j + d))) : Rb d b lo c (x.then h) (x'.then h') := by
  rintro m2 j2 he
  cases x with
  | out => cases he
  | bad q => cases he
  | ok m j =>
    obtain ⟨h1, h2⟩ := hx m j rfl
    have he' : h m j = .ok m2 j2 := he
    have h3 : j + (lk - c) ≤ j2 := (hh m m j h1 (.refl _ _) m2 j2 he').1
    refine ⟨Nat.le_trans (hlo j h1) h3, fun hb => ?_⟩
    obtain ⟨m', h4, h5⟩ := h2 (by omega)
    rw [h4]
    exact (hh m m' j h1 h5 m2 j2 he').2 hb
theorem Rb.last {x x' : PR} {lo1 lk : Nat} (hx : Rb d b lo1 lk x x') (hl : lo ≤ lo1) (hc : lk ≤ c) : Rb d b lo c x x' := fun m j h => ⟨Nat.le_trans hl (hx m j h).1, fun hb => (hx m j h).2 (by omega)⟩
theorem Rb.bad {q : Nat} {r : PR} : Rb d b lo c (.bad q) r := fun m j h => by cases h
end

end Go.Zam

namespace Go.Zam
set_option linter.all false
set_option maxRecDepth 100000
set_option maxHeartbeats 2000000

section
variable {L L' : List Tk} {d b : Nat}

theorem Rb.ifKt {lo c : Nat} (hs : ∀ i, i < b → S3 L L' i (i + d)) {k k' : Nat} {x : Int} (a a' : Bs → PR) {e e' : PR} (hk : k' = k + d) (hkc : k < lo + c) (ha : ∀ w, Rb d b lo c (a w) (a' w)) (he : Rb d b lo c e e') : Rb d b lo c (if kdT L k = x then a (txT L k) else e) (if kdT L' k' = x then a' (txT L' k') else e') := by
  subst hk
  rintro m j h
  have key : k < b → (kdT L k = kdT L' (k + d)) := fun hb => (hs k hb).2.1
  split at h
  · rename_i hx
    obtain ⟨h1, h2⟩ := ha _ m j h
    refine ⟨h1, fun hb => ?_⟩
    rw [← key (by omega), if_pos hx, ← (hs k (by omega)).2.2]
    exact h2 hb
  · rename_i hx
    obtain ⟨h1, h2⟩ := he m j h
    refine ⟨h1, fun hb => ?_⟩
    rw [← key (by omega), if_neg hx]
    exact h2 hb
theorem Rb.ifSt {lo c : Nat} (hs : ∀ i, i < b → S3 L L' i (i + d)) {k k' : Nat} {x : Bs} (a a' : Bs → PR) {e e' : PR} (hk : k' = k + d) (hkc : k + 1 < lo + c) (ha : ∀ w, Rb d b lo c (a w) (a' w)) (he : Rb d b lo c e e') : Rb d b lo c (if kdT L k = 1 ∧ isT L (k + 1) x = true then a (txT L k) else e) (if kdT L' k' = 1 ∧ isT L' (k' + 1) x = true then a' (txT L' k') else e') := by
  subst hk
  rintro m j h
  have key : k + 1 < b → ((kdT L k = 1 ∧ isT L (k + 1) x = true) ↔ (kdT L' (k + d) = 1 ∧ isT L' (k + d + 1) x = true)) := fun hb => by
    rw [(hs k (by omega)).2.1, (hs (k + 1) hb).1 x, show k + 1 + d = k + d + 1 by omega]
  split at h
  · rename_i hx
    obtain ⟨h1, h2⟩ := ha _ m j h
    refine ⟨h1, fun hb => ?_⟩
    rw [if_pos ((key (by omega)).1 hx), ← (hs k (by omega)).2.2]
    exact h2 hb
  · rename_i hx
    obtain ⟨h1, h2⟩ := he m j h
    refine ⟨h1, fun hb => ?_⟩
    rw [if_neg (fun hc => hx ((key (by omega)).2 hc))]
    exact h2 hb

theorem ppB_rb (hs : ∀ i, i < b → S3 L L' i (i + d)) {q q' : G → Nat → PR} (hq : ∀ g g' k k', Gs g g' → g.nice2 → k' = k + d → Rb d b (k + g.st) g.look (q g k) (q' g' k')) (g g' : G) (k k' : Nat) (hg : Gs g g') (hn : g.nice2) (hk : k' = k + d) :
    Rb d b (k + g.st) g.look (ppB L q g k) (ppB L' q' g' k') := by
  have step := @Rb.thenG d b
  cases g
  case file ks => exact hn.elim
  case listL one e ks =>
    obtain ⟨n1, n2, n3⟩ := hn
    obtain ⟨ks', rfl, hks⟩ : ∃ ks', g' = .listL one e ks' ∧ SmL ks ks' := by
      cases hg with
      | refl => exact ⟨ks, rfl, .refl _⟩
      | listL h => exact ⟨_, rfl, h⟩
    simp only [ppB, G.st, G.look, G.strict, if_true]
    have hx := hq one one k k' (.refl _) n3 hk
    rw [n2] at hx
    refine Rb.thenG (lk := 1) hx (fun j hj => by unfold G.st at hj; rw [n1] at hj; simp at hj; omega) fun m m' j hj hm => ?_
    refine Rb.ifT hs rfl (by omega) (Rb.ok (by omega) (by omega) (Sm_new (hks.app (.cons hm .nil)))) ?_
    refine Rb.want hs rfl (by omega) ?_
    refine Rb.last (hq _ _ _ _ (.listL (hks.app (.cons hm .nil))) ⟨n1, n2, n3⟩ (by omega)) ?_ (Nat.le_refl _)
    simp only [G.st, G.strict, if_true]; omega
  case list one e =>
    obtain ⟨n1, n2, n3⟩ := hn
    obtain rfl : g' = .list one e := by cases hg; rfl
    simp only [ppB, G.st, G.look, G.strict, if_true]
    refine Rb.ifT hs hk (by omega) (Rb.ok (by omega) (by omega) (.refl _ _)) ?_
    refine Rb.last (hq _ _ _ _ (.refl _) ⟨n1, n2, n3⟩ hk) ?_ (Nat.le_refl _)
    simp only [G.st, G.strict, if_true]; omega
  case stmts ks =>
    obtain ⟨ks', rfl, hks⟩ : ∃ ks', g' = .stmts ks' ∧ SmL ks ks' := by
      cases hg with
      | refl => exact ⟨ks, rfl, .refl _⟩
      | stmts h => exact ⟨_, rfl, h⟩
    simp only [ppB, G.st, G.look, G.strict, if_true]
    refine Rb.ifT hs hk (by omega) (Rb.ok (by omega) (by omega) (Sm_new hks)) ?_
    refine Rb.thenG (hq .stmt .stmt k k' (.refl _) trivial hk) (fun j hj => by simp only [G.st, G.look, G.strict, if_true] at hj ⊢; omega) fun m m' j hj hm => ?_
    refine Rb.last (hq _ _ _ _ (.stmts (hks.app (.cons hm .nil))) trivial rfl) ?_ (Nat.le_refl _)
    simp only [G.st, G.look, G.strict, if_true]; omega
  case sumL a =>
    obtain ⟨a', rfl, ha⟩ : ∃ a', g' = .sumL a' ∧ N.Sm false a a' := by
      cases hg with
      | refl => exact ⟨a, rfl, .refl _ _⟩
      | sumL h => exact ⟨_, rfl, h⟩
    simp only [ppB, G.st, G.look, G.strict]
    refine Rb.ifT hs hk (by omega) ?_ (Rb.ifT hs hk (by omega) ?_ (Rb.ok (by simp) hk ha))
    · refine Rb.thenG (hq .term .term (k + 1) (k' + 1) (.refl _) trivial (by omega)) (fun j hj => by simp only [G.st, G.look, G.strict, if_true] at hj ⊢; simp; omega) fun m m' j hj hm => ?_
      refine Rb.last (hq _ _ _ _ (.sumL (Sm_new (.cons ha (.cons hm .nil)))) trivial rfl) ?_ (Nat.le_refl _)
      simp [G.st, G.look, G.strict]
    · refine Rb.thenG (hq .term .term (k + 1) (k' + 1) (.refl _) trivial (by omega)) (fun j hj => by simp only [G.st, G.look, G.strict, if_true] at hj ⊢; simp; omega) fun m m' j hj hm => ?_
      refine Rb.last (hq _ _ _ _ (.sumL (Sm_new (.cons ha (.cons hm .nil)))) trivial rfl) ?_ (Nat.le_refl _)
      simp [G.st, G.look, G.strict]
  case termL a =>
    obtain ⟨a', rfl, ha⟩ : ∃ a', g' = .termL a' ∧ N.Sm false a a' := by
      cases hg with
      | refl => exact ⟨a, rfl, .refl _ _⟩
      | termL h => exact ⟨_, rfl, h⟩
    simp only [ppB, G.st, G.look, G.strict]
    refine Rb.ifT hs hk (by omega) ?_ (Rb.ok (by simp) hk ha)
    refine Rb.thenG (hq .post .post (k + 1) (k' + 1) (.refl _) trivial (by omega)) (fun j hj => by simp only [G.st, G.look, G.strict, if_true] at hj ⊢; simp; omega) fun m m' j hj hm => ?_
    refine Rb.last (hq _ _ _ _ (.termL (Sm_new (.cons ha (.cons hm .nil)))) trivial rfl) ?_ (Nat.le_refl _)
    simp [G.st, G.look, G.strict]
  case postL a =>
    obtain ⟨a', rfl, ha⟩ : ∃ a', g' = .postL a' ∧ N.Sm false a a' := by
      cases hg with
      | refl => exact ⟨a, rfl, .refl _ _⟩
      | postL h => exact ⟨_, rfl, h⟩
    simp only [ppB, G.st, G.look, G.strict]
    refine Rb.ifT hs hk (by omega) ?_ (Rb.ifT hs hk (by omega) ?_ (Rb.ok (by simp) hk ha))
    · refine Rb.word hs (by omega) (by simp; omega) fun w => ?_
      refine Rb.last (hq _ _ _ _ (.postL (Sm_new (.cons ha .nil))) trivial (by omega)) ?_ (Nat.le_refl _)
      simp [G.st, G.look, G.strict]
    · refine Rb.thenG (hq (.list .expr [41]) (.list .expr [41]) (k + 1) (k' + 1) (.refl _) ⟨rfl, rfl, trivial⟩ (by omega)) (fun j hj => by simp only [G.st, G.look, G.strict, if_true] at hj ⊢; simp; omega) fun m m' j hj hm => ?_
      refine Rb.last (hq _ _ _ _ (.postL (Sm_new (.cons ha (Sm_ks hm)))) trivial rfl) ?_ (Nat.le_refl _)
      simp [G.st, G.look, G.strict]
  all_goals
    have hg' := hg
    cases hg'
    simp only [ppB, G.st, G.look, G.strict, if_true]
    subst hk
    repeat' first
      | exact Rb.bad
      | (refine Rb.want hs (by omega) (by (try simp only [Bool.false_eq_true, if_false]); omega) ?_)
      | (refine Rb.word hs (by omega) (by (try simp only [Bool.false_eq_true, if_false]); omega) fun w => ?_)
      | (refine Rb.ifT hs (by omega) (by (try simp only [Bool.false_eq_true, if_false]); omega) ?_ ?_)
      | (refine Rb.ifKt hs (fun w => .ok (N.new 21 k (k + 1) w k []) (k + 1)) (fun w => .ok (N.new 21 ((k + d : Nat) : Int) (((k + d : Nat) : Int) + 1) w ((k + d : Nat) : Int) []) (k + d + 1)) (by omega) (by omega) (fun w => Rb.ok (by omega) (by omega) (Sm_new .nil)) ?_)
      | (refine Rb.ifKt hs (fun w => .ok (N.new 22 k (k + 1) w k []) (k + 1)) (fun w => .ok (N.new 22 ((k + d : Nat) : Int) (((k + d : Nat) : Int) + 1) w ((k + d : Nat) : Int) []) (k + d + 1)) (by omega) (by omega) (fun w => Rb.ok (by omega) (by omega) (Sm_new .nil)) ?_)
      | (refine Rb.ifKt hs (fun w => .ok (N.new 23 k (k + 1) w k []) (k + 1)) (fun w => .ok (N.new 23 ((k + d : Nat) : Int) (((k + d : Nat) : Int) + 1) w ((k + d : Nat) : Int) []) (k + d + 1)) (by omega) (by omega) (fun w => Rb.ok (by omega) (by omega) (Sm_new .nil)) ?_)
      | (refine Rb.ifSt hs (fun w => (q .expr (k + 2)).then fun x j => wantR L j [59] fun _ => .ok (N.new 8 k (j + 1) w k [x]) (j + 1)) (fun w => (q' .expr (k + d + 2)).then fun x j => wantR L' j [59] fun _ => .ok (N.new 8 ((k + d : Nat) : Int) (j + 1) w ((k + d : Nat) : Int) [x]) (j + 1)) (by omega) (by omega) (fun w => ?_) ?_)
      | (refine Rb.ifK hs (by omega) (by (try simp only [Bool.false_eq_true, if_false]); omega) ?_ ?_)
      | (refine Rb.ifS hs (by omega) (by (try simp only [Bool.false_eq_true, if_false]); omega) ?_ ?_)
      | (refine Rb.ok (by (try simp only [Bool.false_eq_true, if_false]); omega) (by omega) ?_)
      | (refine Rb.thenG (hq _ _ _ _ (.refl _) (by simp [G.nice2, G.strict, G.look]) (by omega)) (fun j hj => by (try simp only [G.st, G.look, G.strict, if_true, Bool.false_eq_true, if_false] at hj); (try simp only [G.st, G.look, G.strict, if_true, Bool.false_eq_true, if_false]); omega) fun m m' j hj hm => ?_; (try simp only [G.st, G.look, G.strict, if_true, Bool.false_eq_true, if_false] at hj); (try simp only [G.look]))
      | (refine Rb.last (hq _ _ _ _ (.refl _) (by simp [G.nice2, G.strict, G.look]) (by omega)) (by (try simp only [G.st, G.look, G.strict, if_true, Bool.false_eq_true, if_false]); omega) (by simp [G.look]))
      | (refine Rb.last (hq _ _ _ _ (.sumL (by assumption)) trivial (by omega)) (by (try simp only [G.st, G.look, G.strict, if_true, Bool.false_eq_true, if_false]); omega) (by simp [G.look]))
      | (refine Rb.last (hq _ _ _ _ (.termL (by assumption)) trivial (by omega)) (by (try simp only [G.st, G.look, G.strict, if_true, Bool.false_eq_true, if_false]); omega) (by simp [G.look]))
      | (refine Rb.last (hq _ _ _ _ (.postL (by assumption)) trivial (by omega)) (by (try simp only [G.st, G.look, G.strict, if_true, Bool.false_eq_true, if_false]); omega) (by simp [G.look]))
      | assumption
      | exact N.Sm.refl _ _
      | (refine Sm_new ?_)
      | exact SmL.nil
      | (refine SmL.cons ?_ ?_)
      | exact Sm_ks (by assumption)
      | (refine SmL.app ?_ ?_)

end
end Go.Zam

namespace Go.Zam
set_option linter.all false
set_option maxRecDepth 100000
set_option maxHeartbeats 1000000

section
variable {L L' : List Tk} {d b : Nat}

theorem pp_rb (hs : ∀ i, i < b → S3 L L' i (i + d)) : ∀ (n : Nat) (g g' : G) (k k' : Nat), Gs g g' → g.nice2 → k' = k + d → Rb d b (k + g.st) g.look (pp L n g k) (pp L' n g' k')
  | 0, g, g', k, k', _, _, _ => fun m j h => by cases h
  | n + 1, g, g', k, k', hg, hn, hk => by
    rw [pp_succ, pp_succ]
    exact ppB_rb hs (pp_rb hs n) g g' k k' hg hn hk

theorem then_ok {x : PR} {h : N → Nat → PR} {m : N} {j : Nat} (e : x.then h = .ok m j) : ∃ m1 j1, x = .ok m1 j1 ∧ h m1 j1 = .ok m j := by
  cases x with
  | out => cases e
  | bad q => cases e
  | ok m1 j1 => exact ⟨m1, j1, rfl, e⟩

theorem file_pre (hs : ∀ i, i < b → S3 L L' i (i + 0)) (hend : kdT L b = 0) (hin : ∀ i, i < b → kdT L i ≠ 0) (hlen : L.length = b + 1) (hE : EndsL L) : ∀ (n : Nat) (ks ks' : List N) (i : Nat) (m : N) (j : Nat), SmL ks ks' → i ≤ b → pp L n (.file ks) i = .ok m j →
    j = b ∧ ∃ (ks1 ks1' : List N) (u : Nat), m = N.new 1 0 b [] 0 ks1 ∧ SmL ks1 ks1' ∧ u + i ≤ b ∧ ∀ N', n ≤ N' + u → pp L' (N' + u) (.file ks') i = pp L' N' (.file ks1') b := by
  intro n
  induction n with
  | zero => intro ks ks' i m j _ _ h; cases h
  | succ n ih =>
    intro ks ks' i m j hks hi h
    rw [pp_succ] at h
    simp only [ppB] at h
    by_cases hk : kdT L i = 0
    · rw [if_pos hk] at h
      have hib : i = b := by
        rcases Nat.lt_or_ge i b with h' | h'
        · exact absurd hk (hin i h')
        · omega
      subst hib
      cases h
      exact ⟨rfl, ks, ks', 0, rfl, hks, by omega, fun N' _ => rfl⟩
    rw [if_neg hk] at h
    have hib : i < b := by
      rcases Nat.lt_or_ge i b with h' | h'
      · exact h'
      · have : i = b := by omega
        rw [this] at hk; exact absurd hend hk
    obtain ⟨s1, s2, s3⟩ := hs i hib
    have item : ∀ g : G, g.nice2 → g.look = 0 → g.strict = true → (pp L n g i).then (fun m j => pp L n (.file (ks ++ [m])) j) = .ok m j → (∀ N', pp L' (N' + 1) (.file ks') i = (pp L' N' g i).then fun m j => pp L' N' (.file (ks' ++ [m])) j) →
        j = b ∧ ∃ (ks1 ks1' : List N) (u : Nat), m = N.new 1 0 b [] 0 ks1 ∧ SmL ks1 ks1' ∧ u + i ≤ b ∧ ∀ N', n + 1 ≤ N' + u → pp L' (N' + u) (.file ks') i = pp L' N' (.file ks1') b := by
      intro g hg1 hg2 hg3 h hun
      obtain ⟨m1, j1, e1, e2⟩ := then_ok h
      have hadv := pp_adv (L := L) n g i
      rw [e1] at hadv
      obtain ⟨-, v2, -⟩ := hadv
      have v2 := v2 hg3
      have hbd := pp_bd hE n g i (by omega)
      rw [e1] at hbd
      have hbd : j1 < L.length := hbd
      obtain ⟨-, hrb⟩ := pp_rb hs n g g i i (.refl _) hg1 rfl m1 j1 e1
      obtain ⟨m1', e3, hm⟩ := hrb (by rw [hg2]; omega)
      obtain ⟨hjb, ks1, ks1', u, q1, q2, q3, q4⟩ := ih (ks ++ [m1]) (ks' ++ [m1']) j1 m j (hks.app (.cons hm .nil)) (by omega) e2
      refine ⟨hjb, ks1, ks1', u + 1, q1, q2, by omega, fun N' hN => ?_⟩
      rw [← Nat.add_assoc, hun, pp_mono (n := n) (by omega) (by rw [e3]; intro h; cases h), e3]
      exact q4 N' (by omega)
    by_cases hu : isT L i kUse = true
    · rw [if_pos hu] at h
      refine item .use trivial rfl rfl h fun N' => ?_
      rw [pp_succ]
      simp only [ppB]
      rw [if_neg (by rw [show i = i + 0 from rfl, ← s2]; exact hk), if_pos (by rw [show i = i + 0 from rfl, ← s1]; exact hu)]
    · rw [if_neg hu] at h
      refine item .defn trivial rfl rfl h fun N' => ?_
      rw [pp_succ]
      simp only [ppB]
      rw [if_neg (by rw [show i = i + 0 from rfl, ← s2]; exact hk), if_neg (by rw [show i = i + 0 from rfl, ← s1]; exact hu)]

theorem file_suf (hs : ∀ i, S3 L L' i (i + d)) : ∀ (n : Nat) (ks acc : List N) (i : Nat) (m : N) (j : Nat), pp L n (.file ks) i = .ok m j →
    ∃ ks2, m = N.new 1 0 j [] 0 (ks ++ ks2) ∧ ∀ N', n ≤ N' → ∃ ks2', SmL ks2 ks2' ∧ pp L' N' (.file acc) (i + d) = .ok (N.new 1 0 ((j + d : Nat) : Int) [] 0 (acc ++ ks2')) (j + d) := by
  intro n
  induction n with
  | zero => intro ks acc i m j h; cases h
  | succ n ih =>
    intro ks acc i m j h
    rw [pp_succ] at h
    simp only [ppB] at h
    obtain ⟨s1, s2, s3⟩ := hs i
    by_cases hk : kdT L i = 0
    · rw [if_pos hk] at h
      cases h
      refine ⟨[], by simp, fun N' hN => ⟨[], .nil, ?_⟩⟩
      obtain ⟨N0, rfl⟩ : ∃ N0, N' = N0 + 1 := ⟨N' - 1, by omega⟩
      rw [pp_succ]
      simp only [ppB]
      rw [if_pos (by rw [← s2]; exact hk), List.append_nil]
    rw [if_neg hk] at h
    have item : ∀ g : G, g.nice2 → (pp L n g i).then (fun m j => pp L n (.file (ks ++ [m])) j) = .ok m j → (∀ N', pp L' (N' + 1) (.file acc) (i + d) = (pp L' N' g (i + d)).then fun m j => pp L' N' (.file (acc ++ [m])) j) →
        ∃ ks2, m = N.new 1 0 j [] 0 (ks ++ ks2) ∧ ∀ N', n + 1 ≤ N' → ∃ ks2', SmL ks2 ks2' ∧ pp L' N' (.file acc) (i + d) = .ok (N.new 1 0 ((j + d : Nat) : Int) [] 0 (acc ++ ks2')) (j + d) := by
      intro g hg1 h hun
      obtain ⟨m1, j1, e1, e2⟩ := then_ok h
      obtain ⟨-, hrb⟩ := pp_rb (b := j1 + 2) (fun i _ => hs i) n g g i (i + d) (.refl _) hg1 rfl m1 j1 e1
      obtain ⟨m1', e3, hm⟩ := hrb (by have : g.look ≤ 1 := by cases g <;> simp [G.look]
                                      omega)
      obtain ⟨ks2, q1, -⟩ := ih (ks ++ [m1]) (acc ++ [m1']) j1 m j e2
      refine ⟨m1 :: ks2, by rw [q1]; simp, fun N' hN => ?_⟩
      obtain ⟨N0, rfl⟩ : ∃ N0, N' = N0 + 1 := ⟨N' - 1, by omega⟩
      obtain ⟨ks3, q3, q4⟩ := ih (ks ++ [m1]) (acc ++ [m1']) j1 m j e2
      obtain ⟨ks2', q5, q6⟩ := q4 N0 (by omega)
      have hks : ks2 = ks3 := by
        have := q1.symm.trans q3
        simp only [N.new, N.mk.injEq] at this
        simpa using this.2.2.2.2.2.2
      subst hks
      refine ⟨m1' :: ks2', .cons hm q5, ?_⟩
      rw [hun, pp_mono (n := n) (by omega) (by rw [e3]; intro h; cases h), e3]
      show pp L' N0 (.file (acc ++ [m1'])) (j1 + d) = _
      rw [q6]; simp
    by_cases hu : isT L i kUse = true
    · rw [if_pos hu] at h
      refine item .use trivial h fun N' => ?_
      rw [pp_succ]
      simp only [ppB]
      rw [if_neg (by rw [← s2]; exact hk), if_pos (by rw [← s1]; exact hu)]
    · rw [if_neg hu] at h
      refine item .defn trivial h fun N' => ?_
      rw [pp_succ]
      simp only [ppB]
      rw [if_neg (by rw [← s2]; exact hk), if_neg (by rw [← s1]; exact hu)]
end

theorem S3_of {L L' : List Tk} {i i' : Nat} (h : (L.map kx)[i]? = (L'.map kx)[i']?) : S3 L L' i i' := by
  rw [List.getElem?_map, List.getElem?_map] at h
  unfold S3 isT kdT txT
  cases h1 : L[i]? with
  | none =>
    rw [h1] at h
    cases h2 : L'[i']? with
    | none => simp
    | some t => rw [h2] at h; cases h
  | some t =>
    rw [h1] at h
    cases h2 : L'[i']? with
    | none => rw [h2] at h; cases h
    | some t' =>
      rw [h2] at h
      simp [kx] at h
      simp [h.1, h.2]

theorem Toks.len {s : Bs} {n : Nat} {l : List Tk} (h : Toks s n l) : l.length ≤ s.length + 1 := by
  induction h with
  | fin h h0 => simp
  | @tok s n l h h0 hr ih =>
    have hl := lead_le false s
    obtain ⟨m1, m2, m3, m4⟩ := tokN_len (s.drop (leadS false s))
    have := m3 h h0
    simp only [List.length_drop] at ih m1
    simp only [List.length_cons]
    omega

theorem lexF_five : ∀ (f : Nat) (s : Bs) (n c : Nat) (l : List Tk), s.length < f → Toks s n l → (lexF f s n c).2.1 = 0 ∨ (lexF f s n c).2.1 = 5
  | 0, s, n, c, l, h, _ => by omega
  | f + 1, s, n, c, l, hf, h => by
    rw [lexF]
    obtain ⟨m1, m2, m3, m4⟩ := tokN_len (s.drop (leadS false s))
    have hl := lead_le false s
    cases h with
    | fin h h0 =>
      rw [if_neg (by simp [h])]
      split
      · exact .inr rfl
      · rw [if_pos (m4 h0)]; exact .inl rfl
    | tok h h0 hr =>
      rw [if_neg (by simp [h])]
      split
      · exact .inr rfl
      · rw [if_neg (fun e => h0 (m2 h e))]
        have := m3 h h0
        simp only [List.length_drop] at m1
        have ih := lexF_five f _ _ (c + 1) _ (by simp only [List.length_drop]; omega) hr
        split
        · exact .inl rfl
        · exact ih

theorem lexS_five {s : Bs} {l : List Tk} (hu : Utf s) (h : Toks s 0 l) : (lexS s).2.1 = 0 ∨ ((lexS s).2.1 = 5 ∧ 4000 ≤ s.length) := by
  by_cases h0 : (lexS s).2.1 = 0
  · exact .inl h0
  refine .inr ?_
  have hlen : 16384 < s.length ∨ 4000 < l.length := by
    rcases Nat.lt_or_ge 16384 s.length with h1 | h1
    · exact .inl h1
    · rcases Nat.lt_or_ge 4000 l.length with h2 | h2
      · exact .inr h2
      · exact absurd ((lexS_ok s).1.2 ⟨h1, hu, l, h, h2⟩) h0
  have hl := h.len
  refine ⟨?_, by omega⟩
  have h5 : (lexS s).2.1 = 0 ∨ (lexS s).2.1 = 5 := by
    unfold lexS
    split
    · exact .inr rfl
    · split
      · rename_i e; exact absurd e ((badS_utf s).2 hu)
      · exact lexF_five _ _ _ _ _ (by omega) h
  exact h5.resolve_left h0

theorem parseO_ok {s : Bs} (h : (parseO s).2.2.1 = 0) : (lexS s).2.1 = 0 ∧ (parseP (lexS s).1).2.1 = 0 ∧ (parseO s).2.1 = (parseP (lexS s).1).1 ∧ (parseO s).1 = (lexS s).1 := by
  unfold parseO at h ⊢
  by_cases h1 : (lexS s).2.1 ≠ 0
  · rw [if_pos h1] at h; exact absurd h h1
  rw [if_neg h1] at h ⊢
  by_cases h2 : (parseP (lexS s).1).2.1 ≠ 0
  · rw [if_pos h2] at h; exact absurd h h2
  rw [if_neg h2]
  exact ⟨by simpa using h1, by simpa using h2, rfl, rfl⟩

theorem parseO_of {s : Bs} (h : (lexS s).2.1 = 0) (h2 : (parseP (lexS s).1).2.1 = 0) : (parseO s).2.2.1 = 0 ∧ (parseO s).2.1 = (parseP (lexS s).1).1 := by
  unfold parseO
  rw [if_neg (by simp [h]), if_neg (by simp [h2])]
  exact ⟨rfl, rfl⟩

theorem parseP_ok {L : List Tk} (h : (parseP L).2.1 = 0) : ∃ j, parseF L = .ok (parseP L).1 j ∧ (parseP L).1.depth ≤ 60 := by
  unfold parseP at h ⊢
  by_cases h1 : L = [] ∨ kdT L (L.length - 1) ≠ 0 ∨ 4000 < L.length
  · rw [if_pos h1] at h; exact absurd h (by simp)
  rw [if_neg h1] at h ⊢
  cases hF : parseF L with
  | out => rw [hF] at h; simp at h
  | bad q => rw [hF] at h; simp at h
  | ok m j =>
    rw [hF] at h
    simp only at h ⊢
    by_cases h6 : 60 < m.depth
    · rw [if_pos h6] at h; simp at h
    · rw [if_neg h6]; exact ⟨j, rfl, by simp only; omega⟩

theorem depths_app (a b : List N) : N.depths (a ++ b) = max (N.depths a) (N.depths b) := by
  induction a with
  | nil => simp [N.depths]
  | cons q a ih => rw [List.cons_append, N.depths_cons, N.depths_cons, ih]; omega

theorem parse_joins {s t : Bs} (hs : (parseO s).2.2.1 = 0) (ht : (parseO t).2.2.1 = 0) :
    ((parseO (s ++ 10 :: t)).2.2.1 = 5 ∧ 3000 < s.length + t.length) ∨ ((parseO (s ++ 10 :: t)).2.2.1 = 0 ∧ SmL ((parseO s).2.1.ks ++ (parseO t).2.1.ks) (parseO (s ++ 10 :: t)).2.1.ks) := by
  obtain ⟨a1, a2, a3, -⟩ := parseO_ok hs
  obtain ⟨b1, b2, b3, -⟩ := parseO_ok ht
  obtain ⟨ja, a4, a5⟩ := parseP_ok a2
  obtain ⟨jb, b4, b5⟩ := parseP_ok b2
  rw [a3, b3]
  clear a3 b3
  obtain ⟨la1, la2⟩ := lexS_ok s
  obtain ⟨lb1, lb2⟩ := lexS_ok t
  obtain ⟨ta, ca⟩ := la2 a1
  obtain ⟨tb, cb⟩ := lb2 b1
  obtain ⟨c, k1, k2⟩ := ta.again tb
  have hutf : Utf (s ++ 10 :: t) := Utf.app (la1.1 a1).2.1 (by
    have : (10 :: t : Bs) = [10] ++ t := rfl
    rw [this]
    exact Utf.app (Utf.ascii (by simp)) (lb1.1 b1).2.1)
  rcases lexS_five hutf k1 with h0 | ⟨h5, hl⟩
  case inr =>
    refine .inl ?_
    have : (parseO (s ++ 10 :: t)).2.2.1 = (lexS (s ++ 10 :: t)).2.1 := by
      unfold parseO
      rw [if_pos (by rw [h5]; decide)]
    rw [this, h5]
    simp only [List.length_append, List.length_cons] at hl
    exact ⟨rfl, by omega⟩
  refine .inr ?_
  have hlc := lexS_like h0
  obtain ⟨c1, c2, c3, c4, c5⟩ := hlc
  have hla := lexS_like a1
  obtain ⟨d1, d2, d3, d4, d5⟩ := hla
  have hlb := lexS_like b1
  obtain ⟨e1, e2, e3, e4, e5⟩ := hlb
  have hcc : (lexS (s ++ 10 :: t)).1 = c := (((lexS_ok (s ++ 10 :: t)).2 h0).1).uniq k1
  have hO := parseO_of h0
  rw [hcc] at c1 c2 c3 c4 c5 hO
  generalize (lexS s).1 = A at *
  generalize (lexS t).1 = B at *
  have hA : 0 < A.length := List.length_pos_iff.2 d1
  have hB : 0 < B.length := List.length_pos_iff.2 e1
  obtain ⟨b, hb⟩ : ∃ b, A.length = b + 1 := ⟨A.length - 1, by omega⟩
  have hcl : c.length = b + B.length := by
    have := congrArg List.length k2
    simp at this; omega
  have hdl : (A.map kx).dropLast = (A.map kx).take b := by rw [List.dropLast_eq_take]; simp [hb]
  have hdll : ((A.map kx).dropLast).length = b := by simp [hb]
  have hsp : ∀ i, i < b → S3 A c i (i + 0) := fun i hi => S3_of (by
    rw [k2, Nat.add_zero, List.getElem?_append_left (by omega), hdl, List.getElem?_take_of_lt hi])
  have hss : ∀ i, S3 B c i (i + b) := fun i => S3_of (by
    rw [k2, List.getElem?_append_right (by omega), hdll]; congr 1; omega)
  obtain ⟨rfl, ksa, ksa', u, q1, q2, q3, q4⟩ := file_pre hsp (d2 b (by omega)) (fun i hi => d3 i (by omega)) hb d2 _ [] [] 0 _ ja .nil (by omega) a4
  obtain ⟨ksb, q5, q6⟩ := file_suf hss _ [] ksa' 0 _ jb b4
  obtain ⟨ksb', q7, q8⟩ := q6 (16 * c.length + 8 - u) (by omega)
  have hfin : parseF c = .ok (N.new 1 0 ((jb + ja : Nat) : Int) [] 0 (ksa' ++ ksb')) (jb + ja) := by
    have h1 := q4 (16 * c.length + 8 - u) (by omega)
    rw [show 16 * c.length + 8 - u + u = 16 * c.length + 8 by omega] at h1
    unfold parseF
    rw [h1, show ja = 0 + ja by omega, q8]
    simp
  have hda : N.depths ksa' ≤ 59 := by rw [← q2.depths]; rw [q1, N.new, N.depth_mk] at a5; omega
  have hdb : N.depths ksb' ≤ 59 := by rw [← q7.depths]; rw [q5, N.new, N.depth_mk] at b5; simp only [List.nil_append] at b5; omega
  have hpc : parseP c = (N.new 1 0 ((jb + ja : Nat) : Int) [] 0 (ksa' ++ ksb'), 0, 0) := by
    unfold parseP
    rw [if_neg, hfin]
    · simp only
      rw [if_neg]
      rw [N.new, N.depth_mk, depths_app]; omega
    · rintro (h | h | h)
      · exact c1 h
      · exact h (c2 _ (by omega))
      · omega
  obtain ⟨o1, o2⟩ := hO (by rw [hpc])
  rw [hpc] at o2
  refine ⟨o1, ?_⟩
  rw [o2]
  rw [q1, q5]
  show SmL (ksa ++ ([] ++ ksb)) (ksa' ++ ksb')
  rw [List.nil_append]
  exact q2.app q7

end Go.Zam

namespace Go.Zam
set_option linter.all false
set_option maxRecDepth 100000
set_option maxHeartbeats 1000000

/-- a node's tokens are within others'; what is below it is within its own, one behind the other -/
inductive N.Ap : N → Int → Int → Prop
  | none {w : Bs} {a : Int} {z : Bool} {fr to : Int} : N.Ap (.mk 0 0 0 w a z []) fr to
  | use {f t : Int} {w : Bs} {a : Int} {z : Bool} {p : N} {r : List N} {fr to : Int} (hf : 0 ≤ f) (h1 : fr ≤ f) (h2 : t ≤ to) (h3 : f ≤ t) (hw : f ≤ a ∧ a < t) (hp : p.f = f + 1 ∧ p.t = f + 2 ∧ f + 1 < a) : N.Ap (.mk 2 f t w a z (p :: r)) fr to
  | node {k f t : Int} {w : Bs} {a : Int} {z : Bool} {ks : List N} {fr to : Int} (P : Nat → Int) (hk : k ≠ 0) (hk2 : k ≠ 2) (h1 : fr ≤ f) (h2 : t ≤ to) (h3 : f ≤ t) (hw : w = [] ∨ f ≤ a ∧ a < t) (h0 : P 0 = f)
      (hs : ∀ (i : Nat) (x : N), ks[i]? = some x → P (i + 1) = if x.k = 0 then P i else x.t) (ih : ∀ (i : Nat) (x : N), ks[i]? = some x → N.Ap x (P i) t) : N.Ap (.mk k f t w a z ks) fr to

theorem N.Ap.mono {n : N} {fr to fr' to' : Int} (h : n.Ap fr to) (h1 : fr' ≤ fr) (h2 : to ≤ to') : n.Ap fr' to' := by
  cases h with
  | none => exact .none
  | use z a b c d e => exact .use z (by omega) (by omega) c d e
  | node P a b c d e f g h i => exact .node P a b (by omega) (by omega) e f g h i

structure N.Nd (b : Int) (m : N) (e : Int) : Prop where
  k : m.k ≠ 0
  f : m.f = b
  t : m.t = e
  le : b ≤ e
  ap : m.Ap b e

def Stp (b : Int) (p : N) (m : Int) : Prop := (p = N.none ∧ m = b) ∨ (∃ b', b ≤ b' ∧ N.Nd b' p m)
def SeqE : Int → List N → Int → Prop
  | b, [], e => b ≤ e
  | b, p :: r, e => ∃ m, Stp b p m ∧ SeqE m r e

theorem Stp.mono {b b' : Int} {p : N} {m : Int} (h : Stp b p m) (hb : b' ≤ b) : ∃ m', m' ≤ m ∧ Stp b' p m' := by
  rcases h with ⟨rfl, rfl⟩ | ⟨c, hc, hn⟩
  · exact ⟨b', hb, .inl ⟨rfl, rfl⟩⟩
  · exact ⟨m, by omega, .inr ⟨c, by omega, hn⟩⟩
theorem Stp.le {b : Int} {p : N} {m : Int} (h : Stp b p m) : b ≤ m := by
  rcases h with ⟨rfl, rfl⟩ | ⟨c, hc, hn⟩
  · omega
  · have := hn.le; omega
theorem SeqE.mono : ∀ {ks : List N} {b e b' e' : Int}, SeqE b ks e → b' ≤ b → e ≤ e' → SeqE b' ks e'
  | [], b, e, b', e', h, h1, h2 => by simp only [SeqE] at h ⊢; omega
  | p :: r, b, e, b', e', ⟨m, h, hr⟩, h1, h2 => by
    obtain ⟨m', hm, h'⟩ := h.mono h1
    exact ⟨m', h', hr.mono hm h2⟩
theorem SeqE.le : ∀ {ks : List N} {b e : Int}, SeqE b ks e → b ≤ e
  | [], b, e, h => h
  | p :: r, b, e, ⟨m, h, hr⟩ => by have := h.le; have := hr.le; omega
theorem SeqE.nil {b e : Int} (h : b ≤ e) : SeqE b [] e := h
theorem SeqE.consN {b i j e : Int} {p : N} {r : List N} (h : N.Nd i p j) (hi : b ≤ i) (hr : SeqE j r e) : SeqE b (p :: r) e := ⟨j, .inr ⟨i, hi, h⟩, hr⟩
theorem SeqE.cons {b i j e : Int} {p : N} {r : List N} (h : Stp i p j) (hi : b ≤ i) (hr : SeqE j r e) : SeqE b (p :: r) e := by
  obtain ⟨m', hm, h'⟩ := h.mono hi
  exact ⟨m', h', hr.mono hm (Int.le_refl _)⟩
theorem SeqE.consNone {b e : Int} {r : List N} (hr : SeqE b r e) : SeqE b (N.none :: r) e := ⟨b, .inl ⟨rfl, rfl⟩, hr⟩
theorem SeqE.app : ∀ {ks r : List N} {b e e' : Int}, SeqE b ks e → SeqE e r e' → SeqE b (ks ++ r) e'
  | [], r, b, e, e', h, hr => hr.mono h (Int.le_refl _)
  | p :: l, r, b, e, e', ⟨m, h, hl⟩, hr => ⟨m, h, hl.app hr⟩
theorem SeqE.snoc {b i j e e' : Int} {ks : List N} {x : N} (h : SeqE b ks e) (hn : N.Nd i x j) (h1 : e ≤ i) (h2 : j ≤ e') : SeqE b (ks ++ [x]) e' := h.app (SeqE.consN hn h1 (SeqE.nil h2))

theorem SeqE.pos : ∀ {ks : List N} {b e t : Int}, SeqE b ks e → e ≤ t → ∃ P : Nat → Int, P 0 = b ∧ (∀ (i : Nat) (x : N), ks[i]? = some x → P (i + 1) = if x.k = 0 then P i else x.t) ∧ ∀ (i : Nat) (x : N), ks[i]? = some x → N.Ap x (P i) t
  | [], b, e, t, h, ht => ⟨fun _ => b, rfl, (fun i x hx => by simp at hx), (fun i x hx => by simp at hx)⟩
  | p :: r, b, e, t, ⟨m, h, hr⟩, ht => by
    obtain ⟨P, h0, hs, ha⟩ := hr.pos ht
    have hle := hr.le
    refine ⟨fun i => match i with | 0 => b | i + 1 => P i, rfl, fun i x hx => ?_, fun i x hx => ?_⟩
    · cases i with
      | zero =>
        cases hx
        show P 0 = _
        rw [h0]
        rcases h with ⟨rfl, rfl⟩ | ⟨c, hc, hn⟩
        · rfl
        · rw [if_neg hn.k, hn.t]
      | succ i => exact hs i x hx
    · cases i with
      | zero =>
        cases hx
        show N.Ap _ b t
        rcases h with ⟨rfl, rfl⟩ | ⟨c, hc, hn⟩
        · exact .none
        · exact hn.ap.mono hc (by omega)
      | succ i => exact ha i x hx

theorem N.Nd.new {K f t b e : Int} {w : Bs} {a : Int} {ks : List N} (hk : K ≠ 0) (hk2 : K ≠ 2) (hf : f = b) (ht : t = e) (hle : b ≤ e) (hw : w = [] ∨ b ≤ a ∧ a < e) (hs : SeqE b ks e) : N.Nd b (N.new K f t w a ks) e := by
  subst hf; subst ht
  obtain ⟨P, h0, h1, h2⟩ := hs.pos (Int.le_refl _)
  exact ⟨hk, rfl, rfl, hle, .node P hk hk2 (Int.le_refl _) (Int.le_refl _) hle hw h0 h1 h2⟩
theorem N.Nd.stp {b e : Int} {m : N} (h : N.Nd b m e) {c : Int} (hc : c ≤ b) : Stp c m e := .inr ⟨b, hc, h⟩

def ApP (i : Nat) : G → N → Nat → Prop
  | .typed, m, j => Stp i m j
  | .list _ _, m, j => SeqE i m.ks j
  | .stmts ks, m, j | .listL _ _ ks, m, j => ∀ b : Int, SeqE b ks i → SeqE b m.ks j
  | .file ks, m, j => SeqE 0 ks i → N.Nd 0 m j
  | .sumL a, m, j | .termL a, m, j | .postL a, m, j => ∀ b : Int, N.Nd b a i → N.Nd b m j
  | _, m, j => N.Nd i m j
def ApR (P : N → Nat → Prop) : PR → Prop
  | .ok m j => P m j
  | _ => True
def G.one : G → Bool
  | .param | .tfield | .kind | .expr | .entry => true
  | _ => false
def G.flat : G → Prop
  | .list o _ | .listL o _ _ => o.one = true
  | _ => True
theorem G.one_flat {o : G} (h : o.one = true) : o.flat ∧ o.strict = true := by cases o <;> simp [G.one] at h <;> exact ⟨trivial, rfl⟩
theorem ApP.one {o : G} (h : o.one = true) {i : Nat} {m : N} {j : Nat} (hp : ApP i o m j) : N.Nd i m j := by cases o <;> simp [G.one] at h <;> exact hp

section
variable {L : List Tk} {P : N → Nat → Prop}
theorem ApR.want {k : Nat} {x : Bs} {h : Nat → PR} (hh : ApR P (h (k + 1))) : ApR P (wantR L k x h) := by
  unfold wantR
  split
  · exact hh
  · trivial
theorem ApR.word {k : Nat} {h : Bs → Nat → PR} (hh : ApR P (h (txT L k) (k + 1))) : ApR P (wordR L k h) := by
  unfold wordR
  split
  · exact hh
  · trivial
theorem ApR.ite {c : Prop} [Decidable c] {a b : PR} (ha : ApR P a) (hb : ApR P b) : ApR P (if c then a else b) := by
  split
  · exact ha
  · exact hb
theorem ApR.last {n : Nat} (ih : ∀ g i, g.flat → ApR (ApP i g) (pp L n g i)) {g : G} {k : Nat} (hg : g.flat) (hh : ∀ m j, k ≤ j → (g.strict = true → k < j) → ApP k g m j → P m j) : ApR P (pp L n g k) := by
  have h1 := ih g k hg
  have h2 := pp_adv (L := L) n g k
  generalize pp L n g k = r at h1 h2
  cases r with
  | out => trivial
  | bad j => trivial
  | ok m j => exact hh _ j h2.1 h2.2.1 h1
theorem ApR.thenG {n : Nat} (ih : ∀ g i, g.flat → ApR (ApP i g) (pp L n g i)) {g : G} {k : Nat} {h : N → Nat → PR} (hg : g.flat) (hh : ∀ m j, k ≤ j → (g.strict = true → k < j) → ApP k g m j → ApR P (h m j)) : ApR P ((pp L n g k).then h) := by
  have h1 := ih g k hg
  have h2 := pp_adv (L := L) n g k
  generalize pp L n g k = r at h1 h2
  cases r with
  | out => trivial
  | bad j => trivial
  | ok m j => exact hh m j h2.1 h2.2.1 h1
theorem ApR.ok {m : N} {j : Nat} (h : P m j) : ApR P (.ok m j) := h

theorem pp_apart : ∀ (n : Nat) (g : G) (i : Nat), g.flat → ApR (ApP i g) (pp L n g i)
  | 0, g, i, _ => trivial
  | n + 1, g, i, hg => by
    have ih := pp_apart n
    cases g
    case listL one e ks =>
      simp only [pp]
      refine ApR.thenG ih (G.one_flat hg).1 fun m j h1 h2 h3 => ?_
      have h3 := ApP.one hg h3
      refine ApR.ite (ApR.ok fun b hb => ?_) (ApR.want (ApR.last ih hg fun x j' h1' h2' h3' b hb => h3' b (SeqE.snoc hb h3 (Int.le_refl _) (by omega))))
      exact SeqE.snoc hb h3 (Int.le_refl _) (by omega)
    case list one e =>
      simp only [pp]
      refine ApR.ite (ApR.ok ?_) (ApR.last ih hg fun x j h1 h2 h3 => h3 i (SeqE.nil (Int.le_refl _)))
      exact SeqE.nil (by omega)
    case stmts ks =>
      simp only [pp]
      refine ApR.ite (ApR.ok fun b hb => hb.mono (Int.le_refl _) (by omega)) (ApR.thenG ih trivial fun m j h1 h2 h3 => ApR.last ih trivial fun x j' h1' h2' h3' b hb => h3' b (SeqE.snoc hb h3 (Int.le_refl _) (Int.le_refl _)))
    case file ks =>
      simp only [pp]
      refine ApR.ite (ApR.ok fun hb => N.Nd.new (by decide) (by decide) rfl rfl hb.le (.inl rfl) hb) (ApR.ite ?_ ?_)
      all_goals exact ApR.thenG ih trivial fun m j h1 h2 h3 => ApR.last ih trivial fun x j' h1' h2' h3' hb => h3' (SeqE.snoc hb h3 (Int.le_refl _) (Int.le_refl _))
    case use =>
      simp only [pp]
      refine ApR.want (ApR.word (ApR.want (ApR.word (ApR.want (ApR.ok ?_)))))
      exact ⟨by show (2 : Int) ≠ 0; decide, rfl, rfl, by omega, .use (by omega) (Int.le_refl _) (by omega) (by omega) ⟨by omega, by omega⟩ ⟨rfl, rfl, by omega⟩⟩
    case typed =>
      simp only [pp]
      refine ApR.ite (ApR.last ih trivial fun m j h1 h2 h3 => ?_) (ApR.ok (.inl ⟨rfl, rfl⟩))
      exact N.Nd.stp h3 (by omega)
    case sumL a =>
      simp only [pp]
      refine ApR.ite ?_ (ApR.ite ?_ (ApR.ok fun b hb => hb))
      all_goals
        refine ApR.thenG ih trivial fun m j h1 h2 h3 => ApR.last ih trivial fun x j' h1' h2' h3' b hb => h3' b ?_
        have := hb.le
        exact N.Nd.new (by decide) (by decide) hb.f rfl (by omega) (.inl rfl) (SeqE.consN hb (Int.le_refl _) (SeqE.consN h3 (by omega) (SeqE.nil (Int.le_refl _))))
    case termL a =>
      simp only [pp]
      refine ApR.ite ?_ (ApR.ok fun b hb => hb)
      refine ApR.thenG ih trivial fun m j h1 h2 h3 => ApR.last ih trivial fun x j' h1' h2' h3' b hb => h3' b ?_
      have := hb.le
      exact N.Nd.new (by decide) (by decide) hb.f rfl (by omega) (.inl rfl) (SeqE.consN hb (Int.le_refl _) (SeqE.consN h3 (by omega) (SeqE.nil (Int.le_refl _))))
    case postL a =>
      simp only [pp]
      refine ApR.ite (ApR.word ?_) (ApR.ite ?_ (ApR.ok fun b hb => hb))
      · refine ApR.last ih trivial fun x j' h1' h2' h3' b hb => h3' b ?_
        have := hb.le
        exact N.Nd.new (by decide) (by decide) hb.f rfl (by omega) (.inr ⟨by omega, by omega⟩) (SeqE.consN hb (Int.le_refl _) (SeqE.nil (by omega)))
      · refine ApR.thenG ih rfl fun m j h1 h2 h3 => ApR.last ih trivial fun x j' h1' h2' h3' b hb => h3' b ?_
        have := hb.le
        exact N.Nd.new (by decide) (by decide) hb.f rfl (by omega) (.inl rfl) (SeqE.consN hb (Int.le_refl _) (SeqE.mono h3 (by omega) (Int.le_refl _)))
    case block =>
      simp only [pp]
      refine ApR.want (ApR.thenG ih trivial fun m j h1 h2 h3 => ApR.ok ?_)
      have h3 := h3 _ (SeqE.nil (Int.le_refl _))
      exact N.Nd.new (by decide) (by decide) rfl rfl (by omega) (.inl rfl) (h3.mono (by omega) (Int.le_refl _))
    case expr =>
      simp only [pp]
      refine ApR.thenG ih trivial fun a j h1 h2 h3 => ApR.ite ?_ (ApR.ite ?_ (ApR.ok h3))
      all_goals
        refine ApR.thenG ih trivial fun m j' h1' h2' h3' => ApR.ok ?_
        have := N.Nd.le h3
        exact N.Nd.new (by decide) (by decide) (N.Nd.f h3) rfl (by omega) (.inl rfl) (SeqE.consN h3 (Int.le_refl _) (SeqE.consN h3' (by omega) (SeqE.nil (Int.le_refl _))))
    case sum =>
      simp only [pp]
      exact ApR.thenG ih trivial fun a j h1 h2 h3 => ApR.last ih trivial fun x j' h1' h2' h3' => h3' _ h3
    case term =>
      simp only [pp]
      exact ApR.thenG ih trivial fun a j h1 h2 h3 => ApR.last ih trivial fun x j' h1' h2' h3' => h3' _ h3
    case post =>
      simp only [pp]
      exact ApR.thenG ih trivial fun a j h1 h2 h3 => ApR.last ih trivial fun x j' h1' h2' h3' => h3' _ h3
    all_goals simp only [pp]
    all_goals
      repeat' first
        | (refine ApR.want ?_)
        | (refine ApR.word ?_)
        | (refine ApR.ite ?_ ?_)
        | exact trivial
        | (refine ApR.thenG ih (by first | trivial | rfl) fun m j h1 h2 h3 => ?_; simp only [ApP, G.strict, Bool.false_eq_true, false_implies, true_implies] at h2 h3)
        | (refine ApR.ok (N.Nd.new (by decide) (by decide) rfl (by omega) (by omega) (by first | exact Or.inl rfl | exact Or.inr ⟨by omega, by omega⟩) ?_))
        | exact SeqE.nil (by omega)
        | exact SeqE.snoc (SeqE.mono (by assumption) (by omega) (Int.le_refl _)) (by assumption) (by omega) (by omega)
        | exact SeqE.mono (by assumption) (by omega) (by omega)
        | (refine SeqE.consNone ?_)
        | (refine SeqE.consN (by assumption) (by omega) ?_)
        | (refine SeqE.cons (by assumption) (by omega) ?_)
end

/-- where a file's tree ends there is an end -/
theorem pp_file {L : List Tk} : ∀ (n : Nat) (ks : List N) (i : Nat), ApR (fun m j => kdT L j = 0) (pp L n (.file ks) i)
  | 0, ks, i => trivial
  | n + 1, ks, i => by
    have h : ∀ g : G, ApR (fun m j => kdT L j = 0) ((pp L n g i).then fun m j => pp L n (.file (ks ++ [m])) j) := fun g => by
      generalize pp L n g i = r
      cases r with
      | out => trivial
      | bad j => trivial
      | ok m j => exact pp_file n _ j
    simp only [pp]
    split
    · rename_i e; exact e
    · exact ApR.ite (h _) (h _)

end Go.Zam

namespace Go.Zam
set_option linter.all false
set_option maxRecDepth 100000
set_option maxHeartbeats 1000000

def awakeT : Bs := [100, 101, 102, 32, 109, 97, 105, 110, 40, 41, 32, 123, 125]
def awakeN : N := N.new 1 0 6 [] 0 [N.new 3 0 6 [109, 97, 105, 110] 1 [N.new 4 2 4 [] 0 [], N.none, N.new 6 4 6 [] 0 []]]
theorem awake_lex : (lexS awakeT).1.map kx = [(2, [100, 101, 102]), (1, [109, 97, 105, 110]), (5, [40]), (5, [41]), (5, [123]), (5, [125]), (0, [])] ∧ (lexS awakeT).2 = (0, 0) := by constructor <;> kernel_rfl
theorem awake_parse : (parseO awakeT).2.1 = awakeN ∧ (parseO awakeT).2.2.1 = 0 := by constructor <;> kernel_rfl

theorem parseP_size (L : List Tk) : (parseP L).1.size ≤ 1 + 4 * L.length := by
  have hn : N.none.size = 1 := N.size_none
  unfold parseP
  split
  · simp only; omega
  · cases hF : parseF L with
    | out => simp only; omega
    | bad q => simp only; omega
    | ok m j =>
      simp only
      split
      · simp only; omega
      · have hsz := pp_size (L := L) (16 * L.length + 8) (.file []) 0 trivial
        rw [show pp L (16 * L.length + 8) (.file []) 0 = .ok m j from hF] at hsz
        simp only [Sz, G.k1, G.sz, N.sizes_nil] at hsz
        have hadv := pp_adv (L := L) (16 * L.length + 8) (.file []) 0
        rw [show pp L (16 * L.length + 8) (.file []) 0 = .ok m j from hF] at hadv
        obtain ⟨v1, -, v3⟩ := hadv
        simp only; omega

theorem parseO_size (s : Bs) : (parseO s).2.1.size ≤ 16001 := by
  unfold parseO
  split
  · simp only [N.size_none]; omega
  · rename_i h
    split
    · simp only [N.size_none]; omega
    · have := parseP_size (lexS s).1
      have := (lexS_like (s := s) (by simpa using h)).2.2.2.2
      simp only; omega

theorem awake_kd : awakeN.Kd := by
  refine .mk ⟨by decide, by decide⟩ fun p hp => ?_
  simp at hp
  subst hp
  refine .mk ⟨by decide, by decide⟩ fun p hp => ?_
  simp at hp
  rcases hp with rfl | rfl | rfl
  · exact .mk ⟨by decide, by decide⟩ fun p hp => by simp at hp
  · exact .mk ⟨by decide, by decide⟩ fun p hp => by simp at hp
  · exact .mk ⟨by decide, by decide⟩ fun p hp => by simp at hp

theorem awake_show : awakeN.show = [40, 102, 105, 108, 101, 32, 40, 100, 101, 102, 32, 109, 97, 105, 110, 32, 40, 112, 97, 114, 97, 109, 115, 41, 32, 45, 32, 40, 98, 108, 111, 99, 107, 41, 41, 41] := by kernel_rfl

theorem node_ex (a : N) : ∃ (k f t : Int) (w : Bs) (q : Int) (za : Bool) (ks : List N), a.ks = ks ∧ a.enc = [.int .i64 k, .int .i64 f, .int .i64 t, .str w, .int .i64 q, .sl za 6 (ks.map N.enc)] ∧ a.v = .agg [.d (.int .i64 k), .d (.int .i64 f), .d (.int .i64 t), .d (.str w), .d (.int .i64 q), .d (.sl za 6 (ks.map N.enc))] := by
  obtain ⟨k, f, t, w, q, za, ks⟩ := a
  exact ⟨k, f, t, w, q, za, ks, rfl, by rw [N.enc_mk], by rw [N.v_mk]⟩

theorem parseO_none {s : Bs} (h : (parseO s).2.2.1 ≠ 0) : (parseO s).1 = [] ∧ (parseO s).2.1 = N.none := by
  unfold parseO at h ⊢
  split
  · exact ⟨rfl, rfl⟩
  · split
    · exact ⟨rfl, rfl⟩
    · rename_i h1 h2
      rw [if_neg h1, if_neg h2] at h
      exact absurd rfl h

theorem parse_parts {s : Bs} (h : (parseO s).2.2.1 = 0) : parseP (parseO s).1 = ((parseO s).2.1, 0, 0) ∧ N.Ap (parseO s).2.1 0 ((parseO s).1.length : Int) ∧ (parseO s).2.1.f = 0 ∧ (parseO s).2.1.t = (parseO s).1.length - 1 ∧ joinS (parseO s).1 = s ∧ (parseO s).2.1.depth ≤ 60 ∧
    (parseO s).1.length ≤ 4000 ∧ (∀ i, isT (parseO s).1 i [61] = true → kdT (parseO s).1 i = 5) := by
  have hO : parseO s = if (lexS s).2.1 ≠ 0 then ([], N.none, (lexS s).2.1, (lexS s).2.2)
      else if (parseP (lexS s).1).2.1 ≠ 0 then ([], N.none, (parseP (lexS s).1).2.1, match (lexS s).1[(parseP (lexS s).1).2.2.toNat]? with | some t => (t.a : Int) | none => 0)
      else ((lexS s).1, (parseP (lexS s).1).1, 0, 0) := rfl
  by_cases h1 : (lexS s).2.1 = 0
  case neg =>
    rw [if_pos h1] at hO
    rw [hO] at h
    exact absurd h h1
  rw [if_neg (by simp [h1])] at hO
  by_cases h2 : (parseP (lexS s).1).2.1 = 0
  case neg =>
    rw [if_pos h2] at hO
    rw [hO] at h
    exact absurd h h2
  rw [if_neg (by simp [h2])] at hO
  rw [hO]
  simp only
  obtain ⟨l1, l2, l3, l4, l5⟩ := lexS_like h1
  obtain ⟨hT, -⟩ := (lexS_ok s).2 h1
  have hj := hT.join.1
  generalize (lexS s).1 = L at *
  have hl := List.length_pos_iff.2 l1
  have hP : parseP L = if L = [] ∨ kdT L (L.length - 1) ≠ 0 ∨ 4000 < L.length then ((N.none, 1, 0) : N × Int × Int) else
    match parseF L with
    | .ok n _ => if 60 < n.depth then (N.none, 25, 0) else (n, 0, 0)
    | .bad q => (N.none, 24, (q : Int))
    | .out => (N.none, 24, 0) := rfl
  by_cases h3 : L = [] ∨ kdT L (L.length - 1) ≠ 0 ∨ 4000 < L.length
  · rw [if_pos h3] at hP
    rw [hP] at h2
    exact absurd h2 (by decide)
  rw [if_neg h3] at hP
  cases hF : parseF L with
  | out => rw [hF] at hP; rw [hP] at h2; exact absurd h2 (by simp)
  | bad q => rw [hF] at hP; rw [hP] at h2; exact absurd h2 (by simp)
  | ok m j =>
    rw [hF] at hP
    simp only at hP
    by_cases h4 : 60 < m.depth
    · rw [if_pos h4] at hP
      rw [hP] at h2
      exact absurd h2 (by decide)
    rw [if_neg h4] at hP
    rw [hP]
    simp only
    have g1 := pp_apart (L := L) (16 * L.length + 8) (.file []) 0 trivial
    rw [show pp L (16 * L.length + 8) (.file []) 0 = .ok m j from hF] at g1
    have g1 : N.Nd 0 m j := g1 (SeqE.nil (Int.le_refl _))
    have g2 := pp_file (L := L) (16 * L.length + 8) [] 0
    rw [show pp L (16 * L.length + 8) (.file []) 0 = .ok m j from hF] at g2
    have g2 : kdT L j = 0 := g2
    have g3 := pp_bd l2 (16 * L.length + 8) (.file []) 0 hl
    rw [show pp L (16 * L.length + 8) (.file []) 0 = .ok m j from hF] at g3
    have g3 : j < L.length := g3
    have g4 : j + 1 = L.length := by
      rcases Nat.lt_or_ge (j + 1) L.length with h | h
      · exact absurd g2 (l3 j h)
      · omega
    exact ⟨trivial, g1.ap.mono (Int.le_refl _) (by omega), g1.f, by rw [g1.t]; omega, hj, by omega, l5, l4⟩

end Go.Zam

namespace Go.Proofs.Zr
open Go Go.Zam Go.Proofs
open Go.RowKit (Below)
set_option maxRecDepth 100000
set_option linter.all false
set_option maxHeartbeats 1000000

theorem kindCalls (k f t a : Int) (wd : ByteArray) (ks : Value) (w : World) (hk : 0 ≤ k ∧ k < 35) (s : ByteArray) (hc : w.cell? ⟨0, k.toNat, none⟩ = some (.string s)) :
    Calls Tryz.prog 73 #[.agg #[.int .i64 k, .int .i64 f, .int .i64 t, .string wd, .int .i64 a, ks]] w fun e w' => e = .returned (.string s) ∧ Below w.heap.size w w' := by
  go_enter Tryz.func73, Tryz.ntmps73
  have h0 : 0 < w.heap.size := by
    obtain ⟨cs, ty, fr, hh⟩ := cells_of_cell hc
    exact (Array.getElem?_eq_some_iff.1 hh).1
  have hc' : ∀ o, (w.alloc o).cell? ⟨0, k.toNat, none⟩ = some (.string s) := fun o => (World.cell?_alloc_lt (w := w) (o := o) (a := ⟨0, k.toNat, none⟩) h0).trans hc
  go_wp2
  go_ret
  exact ⟨rfl, (Below.refl _ w).alloc (Nat.le_refl _) _⟩

theorem kindOk {H0 : Hp} (hN : NamesG 0 H0) : KindOk Tryz.prog H0 73 := by
  intro n H hp hk κ w vs hr hl hv
  obtain ⟨k, f, t, wd, a, z, ks⟩ := n
  simp only [N.k] at hk ⊢
  rw [N.v_mk] at hv
  match vs, hl with
  | [v0], _ =>
  have h0 := hv 0 v0 _ rfl rfl
  cases h0 with
  | agg us _ hul hu =>
  match us, hul with
  | [u0, u1, u2, u3, u4, u5], _ =>
  have e0 := (hu 0 u0 _ rfl rfl).d_inv.int_inv
  have e1 := (hu 1 u1 _ rfl rfl).d_inv.int_inv
  have e2 := (hu 2 u2 _ rfl rfl).d_inv.int_inv
  have e3 := (hu 3 u3 _ rfl rfl).d_inv.str_inv
  have e4 := (hu 4 u4 _ rfl rfl).d_inv.int_inv
  subst e0; subst e1; subst e2; subst e3; subst e4
  refine (kindCalls k f t a _ u5 w hk _ (names_of hr hp hN k.toNat (by omega))).mono ?_
  rintro e w' ⟨rfl, hb⟩
  refine ⟨_, κ, _, H, rfl, K.le_refl κ, hr.later hb, ?_, rfl, rfl⟩
  exact .d (.str _)

theorem pcf20 : compF Tryz.prog [3] Tryz.f20 = some (irTShowTop 36 23 25 60 5) := by kernel_rfl
theorem pcf36 : compF Tryz.prog [] Tryz.f36 = some (irTShow 72 73 22 36 25) := by kernel_rfl
theorem showOk {H0 : Hp} (hN : NamesG 0 H0) (n : N) (hk : n.Kd) (hl : n.show.length ≤ 1048576) (hsz : n.size ≤ 1048576) (H : Hp) (hH : Pre0 H0 H) : ACall Tryz.prog 20 [n.v] H (fun r H' => r = .d (.str n.show) ∧ H' = H) :=
  HasT.showTop ⟨_, Tryz.func20, pcf20⟩ stringOk' (Has.showT ⟨_, Tryz.func36, pcf36⟩ writeBOk writeSOk (kindOk hN)) n hk hl hsz H hH

end Go.Proofs.Zr

namespace Go.Proofs.Zr
open Go Go.Zam Go.Proofs
set_option maxRecDepth 100000
set_option linter.all false
set_option maxHeartbeats 1000000

variable {H0 : Hp}

theorem awakeOk (hG : TabsG 1 2 3 4 H0) (hN : NamesG 0 H0) (H : Hp) (hH : Pre0 H0 H) : ACall Tryz.prog 8 [] H (fun r H' => r = .d (.bool true) ∧ H' = H) := by
  refine acall_fin Tryz.func8 cf8 (by simp [ir8]) fun hcl _ => ?_
  have g := ofOk hG awakeT (by decide) H hH
  rw [awake_parse.1, awake_parse.2] at g
  have g2 := fun X => showOk hN awakeN awake_kd (by rw [awake_show]; decide) (by decide +kernel) (H ++ X) (hH.app X)
  rw [awake_show] at g2
  generalize (parseO awakeT).1 = LA at g
  generalize (parseO awakeT).2.2.2 = PA at g
  obtain ⟨k, f, t, w, q, za, ks, -, he, hv⟩ := node_ex awakeN
  rw [hv] at g g2
  unfold awakeT at g
  simp [ir8]
  refine CallK_of' g ?_
  simp
  refine CallK_of' (g2 _) ?_
  simp
  simp [RetK, cut_app hcl]

theorem apartOk {n : N} {fr to : Int} (h : N.Ap n fr to) : n.size ≤ 1125899906842624 → to ≤ 1125899906842624 → ∀ H, ACall Tryz.prog 12 [n.v, .d (.int .i64 fr), .d (.int .i64 to)] H (fun r H' => r = .d (.bool true) ∧ H' = H) := by
  induction h with
  | none =>
    intro _ _ H
    refine acall_fin Tryz.func12 cf12 (by simp [ir12]) fun hcl _ => ?_
    rw [N.v_mk]
    simp [ir12]
    simp [RetK, cut_app hcl]
  | @use f t w a z p r fr to hf0 h1 h2 h3 hw hp =>
    intro hsz hto H
    refine acall_fin Tryz.func12 cf12 (by simp [ir12]) fun hcl _ => ?_
    rw [N.v_mk]
    have a1 : ¬ f < fr := by omega
    have a2 : ¬ to < t := by omega
    have a3 : ¬ t < f := by omega
    obtain ⟨p1, p2, p3⟩ := hp
    rw [N.size_mk] at hsz
    have hlen := N.sizes_len (p :: r)
    obtain ⟨k2, f2, t2, w2, q2, z2, ks2⟩ := p
    simp only [N.f, N.t] at p1 p2
    subst p1; subst p2
    obtain ⟨o, ho⟩ : ∃ o : Ob, o = .box 25 [.d (.int .i64 2), .d (.int .i64 f), .d (.int .i64 t), .d (.str w), .d (.int .i64 a), .d (.sl z 6 ((N.mk k2 (f + 1) (f + 2) w2 q2 z2 ks2 :: r).map N.enc))] := ⟨_, rfl⟩
    have hcut1 : ∀ X, Hp.cut (H.length + 1) (H ++ o :: X) = H ++ [o] := fun X => by rw [cut_appk hcl, ho]; rfl
    rw [List.map_cons, N.enc_mk] at ho
    have rowAt_zero : ∀ (x : List D) l, Zam.rowAt (x :: l) 0 = some x := fun x l => rfl
    have w1 : IntKind.i64.wrap (f + 1) = f + 1 := wrap_i64 (by omega) (by omega)
    have w2' : IntKind.i64.wrap (f + 1 + 1) = f + 2 := by rw [wrap_i64 (by omega) (by omega)]; omega
    by_cases hw0 : w = []
    · simp [ir12, N.enc_mk, a1, a2, a3, hw0]
      rw [hw0] at ho
      rw [← ho]
      refine LoopK_outR 0 (fun fr H' => False) (fun fr H' => fr 6 = .d (.bool true) ∧ ∃ X, H' = H ++ X) ?_ ?_ (fun _ _ h => h.elim)
      · refine RangeK_of (H.length + 1) (r.length + 1) (fun i fr H' => i = 0 ∧ fr 3 = .ptr H.length 0 ∧ fr 66 = .d (.sl z 6 ([.int .i64 k2, .int .i64 (f + 1), .int .i64 (f + 2), .str w2, .int .i64 q2, .sl z2 6 (ks2.map N.enc)] :: r.map N.enc)) ∧ H' = H ++ [o]) (by simp at hlen; omega) (by decide) (by simp) (by simp) ?_ ?_ ?_
        · simp [hcut1, N.enc_mk]
        · rintro i fr H' hi f68 f67 ⟨rfl, f3, f66, rfl⟩
          subst ho
          simp [f68, f67, f66, f3, rowAt_zero, w1, w2', p3]
        · rintro fr H' f68 f67 ⟨e, f3, f66, rfl⟩
          exact absurd e (by omega)
      · rintro fr H' ⟨f6, X, rfl⟩
        simp [f6]
        simp [RetK, cut_app hcl]
    · have b1 : ¬ a < f := by omega
      have b2 : ¬ t ≤ a := by omega
      simp [ir12, N.enc_mk, a1, a2, a3, hw0, b1, b2]
      rw [← ho]
      refine LoopK_outR 0 (fun fr H' => False) (fun fr H' => fr 6 = .d (.bool true) ∧ ∃ X, H' = H ++ X) ?_ ?_ (fun _ _ h => h.elim)
      · refine RangeK_of (H.length + 1) (r.length + 1) (fun i fr H' => i = 0 ∧ fr 3 = .ptr H.length 0 ∧ fr 66 = .d (.sl z 6 ([.int .i64 k2, .int .i64 (f + 1), .int .i64 (f + 2), .str w2, .int .i64 q2, .sl z2 6 (ks2.map N.enc)] :: r.map N.enc)) ∧ H' = H ++ [o]) (by simp at hlen; omega) (by decide) (by simp) (by simp) ?_ ?_ ?_
        · simp [hcut1, N.enc_mk]
        · rintro i fr H' hi f68 f67 ⟨rfl, f3, f66, rfl⟩
          subst ho
          simp [f68, f67, f66, f3, rowAt_zero, w1, w2', p3]
        · rintro fr H' f68 f67 ⟨e, f3, f66, rfl⟩
          exact absurd e (by omega)
      · rintro fr H' ⟨f6, X, rfl⟩
        simp [f6]
        simp [RetK, cut_app hcl]
  | @node k f t w a z ks fr to P hk hk2 h1 h2 h3 hw h0 hs hap ih =>
    intro hsz hto H
    refine acall_fin Tryz.func12 cf12 (by simp [ir12]) fun hcl _ => ?_
    rw [N.size_mk] at hsz
    have hlen := N.sizes_len ks
    rw [N.v_mk]
    have a1 : ¬ f < fr := by omega
    have a2 : ¬ to < t := by omega
    have a3 : ¬ t < f := by omega
    obtain ⟨o, ho⟩ : ∃ o : Ob, o = .box 25 [.d (.int .i64 k), .d (.int .i64 f), .d (.int .i64 t), .d (.str w), .d (.int .i64 a), .d (.sl z 6 (ks.map N.enc))] := ⟨_, rfl⟩
    have hcut1 : ∀ X, Hp.cut (H.length + 1) (H ++ o :: X) = H ++ [o] := fun X => by rw [cut_appk hcl, ho]; rfl
    by_cases hw0 : w = []
    · simp [ir12, hk, a1, a2, a3, hw0]
      rw [hw0] at ho
      rw [← ho]
      refine LoopK_out 0 (fun fr H' => ∃ X, H' = H ++ X) ?_ ?_
      · refine RangeK_of (H.length + 1) ks.length (fun i fr H' => fr 7 = .d (.int .i64 (P i)) ∧ fr 3 = .ptr H.length 0 ∧ fr 66 = .d (.sl z 6 (ks.map N.enc)) ∧ H' = H ++ [o]) (by omega) (by decide) (by simp) (by simp) ?_ ?_ ?_
        · simp [hcut1, h0]
        · rintro i fr H' hi f68 f67 ⟨f7, f3, f66, rfl⟩
          have hr := rowAt_map N.enc hi
          have hx : ks[i]? = some ks[i] := List.getElem?_eq_getElem hi
          have hm := List.getElem_mem hi
          have hstep := hs i ks[i] hx
          have ih' := ih i ks[i] hx (by have := N.sizes_mem hm; omega) (by omega)
          generalize ks[i] = x at hr hx hstep ih'
          obtain ⟨k2, f2, t2, w2, q2, z2, ks2⟩ := x
          rw [N.enc_mk] at hr
          rw [N.v_mk] at ih'
          simp only [N.k, N.t] at hstep
          subst ho
          by_cases hk0 : k2 = 0
          · simp [f68, f67, f66, f3, hr, hk2, f7]
            refine CallK_of' (ih' _) ?_
            simp [hk0]
            refine NextK_of (H.length + 1) (Nat.le_refl _) (by simp [f68, f67]) ?_
            have hstep := hstep.trans (if_pos hk0)
            simp [f7, f3, f66, hcut1, hstep]
          · simp [f68, f67, f66, f3, hr, hk2, f7]
            refine CallK_of' (ih' _) ?_
            simp [hk0]
            refine NextK_of (H.length + 1) (Nat.le_refl _) (by simp [f68, f67]) ?_
            have hstep := hstep.trans (if_neg hk0)
            simp [f7, f3, f66, hcut1, hstep]
        · rintro fr H' f68 f67 ⟨f7, f3, f66, rfl⟩
          simp
      · rintro fr H' ⟨X, rfl⟩
        simp
        simp [RetK, cut_app hcl]
    · have b1 : ¬ a < f := by rcases hw with h | h; exact absurd h hw0; omega
      have b2 : ¬ t ≤ a := by rcases hw with h | h; exact absurd h hw0; omega
      simp [ir12, hk, a1, a2, a3, hw0, b1, b2]
      rw [← ho]
      refine LoopK_out 0 (fun fr H' => ∃ X, H' = H ++ X) ?_ ?_
      · refine RangeK_of (H.length + 1) ks.length (fun i fr H' => fr 7 = .d (.int .i64 (P i)) ∧ fr 3 = .ptr H.length 0 ∧ fr 66 = .d (.sl z 6 (ks.map N.enc)) ∧ H' = H ++ [o]) (by omega) (by decide) (by simp) (by simp) ?_ ?_ ?_
        · simp [hcut1, h0]
        · rintro i fr H' hi f68 f67 ⟨f7, f3, f66, rfl⟩
          have hr := rowAt_map N.enc hi
          have hx : ks[i]? = some ks[i] := List.getElem?_eq_getElem hi
          have hm := List.getElem_mem hi
          have hstep := hs i ks[i] hx
          have ih' := ih i ks[i] hx (by have := N.sizes_mem hm; omega) (by omega)
          generalize ks[i] = x at hr hx hstep ih'
          obtain ⟨k2, f2, t2, w2, q2, z2, ks2⟩ := x
          rw [N.enc_mk] at hr
          rw [N.v_mk] at ih'
          simp only [N.k, N.t] at hstep
          subst ho
          by_cases hk0 : k2 = 0
          · simp [f68, f67, f66, f3, hr, hk2, f7]
            refine CallK_of' (ih' _) ?_
            simp [hk0]
            refine NextK_of (H.length + 1) (Nat.le_refl _) (by simp [f68, f67]) ?_
            have hstep := hstep.trans (if_pos hk0)
            simp [f7, f3, f66, hcut1, hstep]
          · simp [f68, f67, f66, f3, hr, hk2, f7]
            refine CallK_of' (ih' _) ?_
            simp [hk0]
            refine NextK_of (H.length + 1) (Nat.le_refl _) (by simp [f68, f67]) ?_
            have hstep := hstep.trans (if_neg hk0)
            simp [f7, f3, f66, hcut1, hstep]
        · rintro fr H' f68 f67 ⟨f7, f3, f66, rfl⟩
          simp
      · rintro fr H' ⟨X, rfl⟩
        simp
        simp [RetK, cut_app hcl]

theorem partsOk (hG : TabsG 1 2 3 4 H0) (hN : NamesG 0 H0) (s : Bs) (hs : s.length ≤ 1048576) (H : Hp) (hH : Pre0 H0 H) : ACall Tryz.prog 4 [.d (.str s)] H (fun r H' => r = .d (.bool true) ∧ H' = H) := by
  refine acall_fin Tryz.func4 cf4 (by simp [ir4]) fun hcl _ => ?_
  have g := ofOk hG s hs
  have haw := awakeOk hG hN
  have hz := parseO_size s
  have hno := parseO_none (s := s)
  have hpp := parse_parts (s := s)
  generalize parseO s = O at g hz hno hpp
  obtain ⟨L, n, e, at_⟩ := O
  simp only at g hz hno hpp
  by_cases he : e = 0
  case neg =>
    obtain ⟨rfl, rfl⟩ := hno he
    simp [ir4]
    refine CallK_of' (g H hH) ?_
    rw [show N.none = N.mk 0 0 0 [] 0 true [] from rfl, N.v_mk]
    simp [he]
    refine CallK_of' (haw _ (hH.app _)) ?_
    simp
    simp [RetK, cut_app hcl]
  obtain ⟨p1, p2, p3, p4, p5, p6, p7, p8⟩ := hpp he
  have gp := parseOk true L (by omega) p8
  rw [p1] at gp
  have gj := joinOk true L (by omega) (by rw [p5]; exact hs)
  rw [p5] at gj
  have ga := apartOk p2 (by omega) (by omega)
  have gd := depthOk n (by omega)
  have gs := fun H => Has.same6 ph10 true (N.Sm.refl true n) (by omega) H
  have hw : IntKind.i64.wrap ((L.length : Int) - 1) = (L.length : Int) - 1 := wrap_i64 (by omega) (by omega)
  have p6' : (n.depth : Int) ≤ 60 := by omega
  generalize n.depth = dn at gd p6'
  obtain ⟨k, f, t, w, q, z, ks⟩ := n
  simp only [N.f, N.t] at p3 p4
  subst p3; subst p4
  rw [N.v_mk] at g gp ga gd gs
  simp [ir4]
  refine CallK_of' (g H hH) ?_
  simp [he]
  refine CallK_of' (gp _) ?_
  simp
  refine CallK_of' (haw _ (hH.app _)) ?_
  simp
  refine CallK_of' (ga _) ?_
  simp [hw]
  refine CallK_of' (gs _) ?_
  simp
  refine CallK_of' (gj _) ?_
  simp
  refine CallK_of' (gd _) ?_
  simp [p6']
  simp [RetK, cut_app hcl]

end Go.Proofs.Zr
