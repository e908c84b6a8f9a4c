/-
  Texts of one proof, one behind the other.
-/
import Derived.Test.YtnlfihdegglkfaaGreatDoorM5
import Derived.Test.YtnlfihdegglkfaaGreatDoorM4
import Derived.ProofKit
set_option linter.all false
set_option maxRecDepth 100000
set_option maxHeartbeats 4000000
namespace Go.Zam
theorem tokN_cons (b : UInt8) (r : Bs) : tokN (b :: r) = if letterB b then
 if (b :: r).take (runN wordB (b :: r)) ∈ keysL then (0,2,runN wordB (b :: r)) else if 40 < runN wordB (b :: r) then (26,0,0) else (0,1,runN wordB (b :: r))
 else if digitB b then
  if numOk ((b :: r).take (runN wordB (b :: r))) then (0,3,runN wordB (b :: r)) else (23,0,0)
 else if b = 34 then
  if (strV (b :: r)).2 = 0 then (0,4,(strV (b :: r)).1.length) else (22,0,0)
 else if signV (b :: r) = [] then (21,0,0) else (0,5,(signV (b :: r)).length) := rfl
theorem take_app_take (s r' : Bs) (m : Nat) (h : m ≤ s.length) : (s.take m ++ r').take m = s.take m := by
 rw [List.take_append_of_le_length (by simp; omega),List.take_take,Nat.min_self]
theorem tok_loc {s : Bs} (hs : s ≠ []) (h0 : (tokN s).1 = 0) {r' : Bs} (hr : Sep (s.drop (tokN s).2.2) r') : tokN (s.take (tokN s).2.2 ++ r') = tokN s := by
 cases s with
 | nil => exact absurd rfl hs
 | cons b r =>
 have hm := (tokN_len (b :: r)).2.2.1 h0 hs
 have hml := (tokN_len (b :: r)).1
 have hS : ∀ m,1 ≤ m → ∃ t,(b :: r).take m ++ r' = b :: t := fun m hm => by
  obtain ⟨m',rfl⟩ : ∃ m',m = m' + 1 := ⟨m - 1,by omega⟩
  exact ⟨r.take m' ++ r',rfl⟩
 have hword : runN wordB (b :: r) = (tokN (b :: r)).2.2 → runN wordB ((b :: r).take (tokN (b :: r)).2.2 ++ r') = (tokN (b :: r)).2.2 := fun e => by
  rw [← e] at hr ⊢
  refine runN_split wordB (b :: r) r' ?_
  rcases hr with rfl | ⟨d,t,rfl,⟨u,hu⟩ | ⟨h1,h2⟩⟩
  · exact .inl rfl
  · rcases runN_rest wordB (b :: r) with h | ⟨d',t',h,hd⟩
    · rw [h] at hu; cases hu
    · rw [h] at hu; cases hu
      exact .inr ⟨_,t,rfl,hd⟩
  · exact .inr ⟨d,t,rfl,h1⟩
 have hT := tokN_cons b r
 obtain ⟨t,ht⟩ := hS _ hm
 have hT' := tokN_cons b t
 rw [← ht] at hT'
 have htk := take_app_take (b :: r) r' _ hml
 by_cases c1 : letterB b = true
 · rw [if_pos c1] at hT hT'
   have e : runN wordB (b :: r) = (tokN (b :: r)).2.2 := by
    rw [hT] at h0 ⊢
    split at h0
    · rename_i h; rw [if_pos h]
    · rename_i h; rw [if_neg h]; split at h0
      · cases h0
      · rename_i h'; rw [if_neg h']
   have hw := hword e
   rw [hT',hw,htk]
   rw [e] at hT
   exact hT.symm
 rw [if_neg c1] at hT hT'
 by_cases c2 : digitB b = true
 · rw [if_pos c2] at hT hT'
   have e : runN wordB (b :: r) = (tokN (b :: r)).2.2 := by
    rw [hT] at h0 ⊢
    split at h0
    · rename_i h; rw [if_pos h]
    · cases h0
   have hw := hword e
   rw [hT',hw,htk]
   rw [e] at hT
   exact hT.symm
 rw [if_neg c2] at hT hT'
 by_cases c3 : b = 34
 · rw [if_pos c3] at hT hT'
   by_cases c4 : (strV (b :: r)).2 = 0
   · rw [if_pos c4] at hT
     have e : (tokN (b :: r)).2.2 = (strV (b :: r)).1.length := by rw [hT]
     have := strV_app (by simp) c4 r'
     rw [← e] at this
     rw [hT',this,if_pos c4,hT]
   · rw [if_neg c4] at hT
     rw [hT] at h0; cases h0
 rw [if_neg c3] at hT hT'
 by_cases c4 : signV (b :: r) = []
 · rw [if_pos c4] at hT
   rw [hT] at h0; cases h0
 · rw [if_neg c4] at hT
   have e : (tokN (b :: r)).2.2 = (signV (b :: r)).length := by rw [hT]
   have := signV_app c4 (r' := r') (by rw [← e]; exact hr)
   rw [← e] at this
   rw [hT',this,if_neg c4,hT]
theorem lead_app : ∀ (c : Bool) (s : Bs) {b : UInt8} {u : Bs},s.drop (leadS c s) = b :: u → blankB b = false ∧ hashB b = false ∧ ∀ r' : Bs,moreB blankB r' = false → moreB hashB r' = false → leadS c (s.take (leadS c s) ++ r') = leadS c s
 | c,[],b,u,h => by cases c <;> simp at h
 | false, x :: s, b, u, h => by
   rw [leadS] at h ⊢
   by_cases h1 : blankB x = true
   · rw [if_pos h1] at h ⊢
     rw [List.drop_succ_cons] at h
     obtain ⟨i1,i2,i3⟩ := lead_app false s h
     refine ⟨i1,i2,fun r' q1 q2 => ?_⟩
     rw [List.take_succ_cons,List.cons_append,leadS,if_pos h1,i3 r' q1 q2]
   rw [if_neg h1] at h ⊢
   by_cases h2 : hashB x = true
   · rw [if_pos h2] at h ⊢
     rw [List.drop_succ_cons] at h
     obtain ⟨i1,i2,i3⟩ := lead_app true s h
     refine ⟨i1,i2,fun r' q1 q2 => ?_⟩
     rw [List.take_succ_cons,List.cons_append,leadS,if_neg h1,if_pos h2,i3 r' q1 q2]
   rw [if_neg h2] at h ⊢
   cases h
   exact ⟨by simpa using h1,by simpa using h2,fun r' q1 q2 => lead_none q1 q2⟩
 | true, x :: s, b, u, h => by
   rw [leadS] at h ⊢
   by_cases h1 : noNlB x = true
   · rw [if_pos h1] at h ⊢
     rw [List.drop_succ_cons] at h
     obtain ⟨i1,i2,i3⟩ := lead_app true s h
     refine ⟨i1,i2,fun r' q1 q2 => ?_⟩
     rw [List.take_succ_cons,List.cons_append,leadS,if_pos h1,i3 r' q1 q2]
   · rw [if_neg h1] at h ⊢
     rw [List.drop_succ_cons] at h
     obtain ⟨i1,i2,i3⟩ := lead_app false s h
     refine ⟨i1,i2,fun r' q1 q2 => ?_⟩
     rw [List.take_succ_cons,List.cons_append,leadS,if_neg h1,i3 r' q1 q2]
theorem lead_end (t : Bs) : ∀ (c : Bool) (s : Bs),s.drop (leadS c s) = [] → leadS c (s ++ 10 :: t) = s.length + 1 + leadS false t
 | false, [], _ => by
   have : blankB 10 = true := by decide
   simp [leadS,this]; omega
 | true, [], _ => by
   have : noNlB 10 = false := by decide
   simp [leadS,this]; omega
 | false, x :: s, h => by
   rw [leadS] at h
   by_cases h1 : blankB x = true
   · rw [if_pos h1,List.drop_succ_cons] at h
     rw [List.cons_append,leadS,if_pos h1,lead_end t false s h]; simp; omega
   rw [if_neg h1] at h
   by_cases h2 : hashB x = true
   · rw [if_pos h2,List.drop_succ_cons] at h
     rw [List.cons_append,leadS,if_neg h1,if_pos h2,lead_end t true s h]; simp; omega
   rw [if_neg h2] at h
   cases h
 | true, x :: s, h => by
   rw [leadS] at h
   by_cases h1 : noNlB x = true
   · rw [if_pos h1,List.drop_succ_cons] at h
     rw [List.cons_append,leadS,if_pos h1,lead_end t true s h]; simp; omega
   · rw [if_neg h1,List.drop_succ_cons] at h
     rw [List.cons_append,leadS,if_neg h1,lead_end t false s h]; simp; omega
theorem Toks.more {s : Bs} {n : Nat} {r' : Bs} {l : List Tk} (h : (tokN (s.drop (leadS false s))).1 = 0) (h0 : s.drop (leadS false s) ≠ []) (hr : Sep ((s.drop (leadS false s)).drop (tokN (s.drop (leadS false s))).2.2) r')
 (hl : Toks r' (n + leadS false s + (tokN (s.drop (leadS false s))).2.2) l) :
 Toks (s.take (leadS false s) ++ ((s.drop (leadS false s)).take (tokN (s.drop (leadS false s))).2.2 ++ r')) n (⟨(tokN (s.drop (leadS false s))).2.1,n + leadS false s,s.take (leadS false s),(s.drop (leadS false s)).take (tokN (s.drop (leadS false s))).2.2⟩ :: l) := by
 have hloc := tok_loc h0 h hr
 obtain ⟨m1,m2,m3,m4⟩ := tokN_len (s.drop (leadS false s))
 have hm := m3 h h0
 have hll := lead_le false s
 obtain ⟨b,u,hbu⟩ : ∃ b u,s.drop (leadS false s) = b :: u := by
  cases e : s.drop (leadS false s) with
  | nil => exact absurd e h0
  | cons b u => exact ⟨b,u,rfl⟩
 obtain ⟨g1,g2,g3⟩ := lead_app false s hbu
 have hlen : (s.take (leadS false s)).length = leadS false s := by simp; omega
 have hxl : ((s.drop (leadS false s)).take (tokN (s.drop (leadS false s))).2.2).length = (tokN (s.drop (leadS false s))).2.2 := by simp only [List.length_take]; omega
 have hL := g3 ((s.drop (leadS false s)).take (tokN (s.drop (leadS false s))).2.2 ++ r') (by
  rw [hbu] at hm ⊢
  obtain ⟨m',e⟩ : ∃ m',(tokN (b :: u)).2.2 = m' + 1 := ⟨(tokN (b :: u)).2.2 - 1,by omega⟩
  rw [e]; exact g1) (by
  rw [hbu] at hm ⊢
  obtain ⟨m',e⟩ : ∃ m',(tokN (b :: u)).2.2 = m' + 1 := ⟨(tokN (b :: u)).2.2 - 1,by omega⟩
  rw [e]; exact g2)
 generalize hX : (s.drop (leadS false s)).take (tokN (s.drop (leadS false s))).2.2 = X at *
 generalize hD : s.take (leadS false s) = D at *
 generalize leadS false s = L at *
 have e1 : (D ++ (X ++ r')).drop L = X ++ r' := by rw [← hlen,List.drop_left]
 have e2 : (D ++ (X ++ r')).take L = D := by rw [← hlen,List.take_left]
 generalize hTT : tokN (s.drop L) = T at *
 have e3 : (X ++ r').drop T.2.2 = r' := by rw [← hxl,List.drop_left]
 have e4 : (X ++ r').take T.2.2 = X := by rw [← hxl,List.take_left]
 have := Toks.tok (s := D ++ (X ++ r')) (n := n) (l := l) (by rw [hL,e1,hloc]; exact h) (by
  rw [hL,e1]; intro e; rw [List.append_eq_nil_iff] at e
  rw [e.1] at hxl; simp at hxl; omega) (by rw [hL,e1,hloc,e3]; exact hl)
 rw [hL,e1,hloc,e2,e4] at this
 exact this
theorem Toks.ahead {s : Bs} {n : Nat} {l : List Tk} (h : Toks s n l) : ∀ k,k < l.length → Toks (joinS (l.take k)) n (l.take k ++ [⟨0,n + (joinS (l.take k)).length,[],[]⟩]) := by
 have hz : ∀ n,Toks [] n [⟨0,n,[],[]⟩] := fun n => by
  have := Toks.fin (s := []) (n := n) rfl rfl
  simpa [leadS] using this
 induction h with
 | @fin s n h1 h2 =>
   intro k hk
   have : k = 0 := by simp at hk; omega
   subst this
   exact hz n
 | @tok s n l h1 h2 h3 ih =>
   intro k hk
   cases k with
   | zero => exact hz n
   | succ k =>
     have hk' : k < l.length := by simpa using hk
     have i := ih k hk'
     have hj := h3.join.1
     have hsep : Sep ((s.drop (leadS false s)).drop (tokN (s.drop (leadS false s))).2.2) (joinS (l.take k)) := by
      rw [← hj]
      have e : joinS l = joinS (l.take k) ++ joinS (l.drop k) := by rw [← joinS_app,List.take_append_drop]
      rw [e]
      cases joinS (l.take k) with
      | nil => exact .inl rfl
      | cons b t => exact .inr ⟨b,t,rfl,.inl ⟨t ++ joinS (l.drop k),rfl⟩⟩
     have := Toks.more h1 h2 hsep i
     have e1 : joinS (⟨(tokN (s.drop (leadS false s))).2.1,n + leadS false s,s.take (leadS false s),(s.drop (leadS false s)).take (tokN (s.drop (leadS false s))).2.2⟩ :: l.take k) = s.take (leadS false s) ++ ((s.drop (leadS false s)).take (tokN (s.drop (leadS false s))).2.2 ++ joinS (l.take k)) := by
      simp [joinS]
     have hl := lead_le false s
     obtain ⟨m1,m2,m3,m4⟩ := tokN_len (s.drop (leadS false s))
     rw [List.take_succ_cons,e1,List.cons_append]
     have e2 : n + (s.take (leadS false s) ++ ((s.drop (leadS false s)).take (tokN (s.drop (leadS false s))).2.2 ++ joinS (l.take k))).length = n + leadS false s + (tokN (s.drop (leadS false s))).2.2 + (joinS (l.take k)).length := by
      simp only [List.length_append,List.length_take]; omega
     rw [e2]
     exact this
def kx (t : Tk) : Int × Bs := (t.k,t.x)
theorem Toks.shift {s : Bs} {n : Nat} {l : List Tk} (h : Toks s n l) : ∀ n',∃ l',Toks s n' l' ∧ l'.map kx = l.map kx := by
 induction h with
 | fin h1 h2 => exact fun n' => ⟨_,.fin h1 h2,rfl⟩
 | tok h1 h2 h3 ih =>
   intro n'
   obtain ⟨l',i1,i2⟩ := ih _
   exact ⟨_,.tok h1 h2 i1,by simp only [List.map_cons,i2]; rfl⟩
theorem Toks.again {s : Bs} {n : Nat} {a : List Tk} (h : Toks s n a) {t : Bs} {p : Nat} {b : List Tk} (hb : Toks t p b) : ∃ c,Toks (s ++ 10 :: t) n c ∧ c.map kx = (a.map kx).dropLast ++ b.map kx := by
 induction h with
 | @fin s n h1 h2 =>
   have hL := lead_end t false s h2
   have hdr : (s ++ 10 :: t).drop (leadS false (s ++ 10 :: t)) = t.drop (leadS false t) := by
    rw [hL]
    have : s ++ 10 :: t = (s ++ [10]) ++ t := by simp
    rw [this,Nat.add_comm,← List.drop_drop]
    have e : ((s ++ [10]) ++ t).drop (leadS false t + (s.length + 1)) = t.drop (leadS false t) := by
     rw [Nat.add_comm,← List.drop_drop,show s.length + 1 = (s ++ [10]).length by simp,List.drop_left]
    rw [List.drop_drop,Nat.add_comm]
    rw [Nat.add_comm] at e
    first | exact e | (rw [Nat.add_comm]; exact e)
   cases hb with
   | fin g1 g2 =>
     exact ⟨_,.fin (by rw [hdr]; exact g1) (by rw [hdr]; exact g2),rfl⟩
   | tok g1 g2 g3 =>
     obtain ⟨l',i1,i2⟩ := g3.shift (n + leadS false (s ++ 10 :: t) + (tokN ((s ++ 10 :: t).drop (leadS false (s ++ 10 :: t)))).2.2)
     refine ⟨_,.tok (by rw [hdr]; exact g1) (by rw [hdr]; exact g2) (by rw [hdr] at i1 ⊢; exact i1),?_⟩
     simp only [List.map_cons,i2,List.map_nil,List.dropLast_singleton,List.nil_append,kx,hdr]
 | @tok s n l h1 h2 h3 ih =>
   obtain ⟨c,i1,i2⟩ := ih
   have hsep : Sep ((s.drop (leadS false s)).drop (tokN (s.drop (leadS false s))).2.2) ((s.drop (leadS false s)).drop (tokN (s.drop (leadS false s))).2.2 ++ 10 :: t) := by
    cases (s.drop (leadS false s)).drop (tokN (s.drop (leadS false s))).2.2 with
    | nil => exact .inr ⟨10,t,rfl,.inr ⟨by decide,by decide⟩⟩
    | cons d u => exact .inr ⟨d,u ++ 10 :: t,rfl,.inl ⟨u,rfl⟩⟩
   have := Toks.more h1 h2 hsep i1
   rw [← List.append_assoc ((s.drop (leadS false s)).take _),List.take_append_drop,← List.append_assoc,List.take_append_drop] at this
   refine ⟨_,this,?_⟩
   have hne : l.map kx ≠ [] := fun e => by
    obtain ⟨t0,j,-⟩ := h3.join.2.1
    have : l = [] := List.map_eq_nil_iff.1 e
    rw [this] at j; simp at j
   rw [List.map_cons,List.map_cons,i2,List.dropLast_cons_of_ne_nil hne]
   rfl
theorem strS_last : ∀ {s : Bs} {k : Nat},strS s = some k → s[k - 1]? = some 34
 | [],k,h => by simp [strS] at h
 | [b], k, h => by
   simp only [strS] at h
   split at h
   · rename_i hb; cases h; subst hb; rfl
   · cases h
 | b :: c :: r, k, h => by
   simp only [strS] at h
   split at h
   · rename_i hb; cases h; subst hb; rfl
   split at h
   · cases e : strS r with
     | none => simp [e] at h
     | some q =>
       have i := strS_last e
       have hq := strS_le e
       simp [e] at h
       subst h
       obtain ⟨q',rfl⟩ : ∃ q',q = q' + 1 := ⟨q - 1,by omega⟩
       simpa using i
   split at h
   · cases h
   · cases e : strS (c :: r) with
     | none => simp [e] at h
     | some q =>
       have i := strS_last e
       have hq := strS_le e
       simp [e] at h
       subst h
       obtain ⟨q',rfl⟩ : ∃ q',q = q' + 1 := ⟨q - 1,by omega⟩
       simpa using i
theorem takeWhile_all (p : UInt8 → Bool) (s : Bs) : ∀ c ∈ s.take (runN p s),p c = true := by
 induction s with
 | nil => simp
 | cons b s ih =>
   cases hb : p b with
   | false => simp [runN,hb]
   | true =>
     have e : runN p (b :: s) = runN p s + 1 := by simp [runN,hb]
     rw [e,List.take_succ_cons]
     intro c hc
     rcases List.mem_cons.1 hc with rfl | hc
     · exact hb
     · exact ih c hc
theorem tok_last {s : Bs} (hs : s ≠ []) (h0 : (tokN s).1 = 0) {b : UInt8} (hb : (s.take (tokN s).2.2).getLast? = some b) : b.toNat < 128 := by
 cases s with
 | nil => exact absurd rfl hs
 | cons x r =>
 have hT := tokN_cons x r
 have hmem := List.mem_of_getLast? hb
 by_cases c1 : letterB x = true
 · rw [if_pos c1] at hT
   have e : runN wordB (x :: r) = (tokN (x :: r)).2.2 := by
    rw [hT] at h0 ⊢
    split at h0
    · rename_i h; rw [if_pos h]
    · rename_i h; rw [if_neg h]; split at h0
      · cases h0
      · rename_i h'; rw [if_neg h']
   rw [← e] at hmem
   exact word_ascii (takeWhile_all wordB _ b hmem)
 rw [if_neg c1] at hT
 by_cases c2 : digitB x = true
 · rw [if_pos c2] at hT
   have e : runN wordB (x :: r) = (tokN (x :: r)).2.2 := by
    rw [hT] at h0 ⊢
    split at h0
    · rename_i h; rw [if_pos h]
    · cases h0
   rw [← e] at hmem
   exact word_ascii (takeWhile_all wordB _ b hmem)
 rw [if_neg c2] at hT
 by_cases c3 : x = 34
 · rw [if_pos c3] at hT
   by_cases c4 : (strV (x :: r)).2 = 0
   · rw [if_pos c4] at hT
     have e : (tokN (x :: r)).2.2 = (strV (x :: r)).1.length := by rw [hT]
     rw [e,strV_take _ c4] at hb
     unfold strV at hb c4
     simp only [List.drop_succ_cons,List.drop_zero] at hb c4
     cases hk : strS r with
     | none => rw [hk] at hb; simp at hb
     | some k =>
       rw [hk] at hb
       have hl := strS_last hk
       have hle := strS_le hk
       simp only at hb
       rw [List.getLast?_eq_getElem?,List.length_take,List.getElem?_take] at hb
       have e1 : min (k + 1) (x :: r).length - 1 = k := by simp; omega
       rw [e1,if_pos (by omega)] at hb
       obtain ⟨k',rfl⟩ : ∃ k',k = k' + 1 := ⟨k - 1,by omega⟩
       simp at hb hl
       rw [hl] at hb
       cases hb
       decide
   · rw [if_neg c4] at hT
     rw [hT] at h0; cases h0
 rw [if_neg c3] at hT
 by_cases c4 : signV (x :: r) = []
 · rw [if_pos c4] at hT
   rw [hT] at h0; cases h0
 · rw [if_neg c4] at hT
   have e : (tokN (x :: r)).2.2 = (signV (x :: r)).length := by rw [hT]
   rw [e,signV_take] at hmem
   have hall : ∀ y ∈ signsT,∀ c ∈ y,c.toNat < 128 := by decide
   unfold signV at hmem
   cases hf : signsT.find? (fun y => y.isPrefixOf (x :: r)) with
   | none => rw [hf] at hmem; simp at hmem
   | some y =>
     rw [hf] at hmem
     exact hall y (List.mem_of_find?_eq_some hf) b hmem
theorem Toks.last {s : Bs} {n : Nat} {l : List Tk} (h : Toks s n l) : ∀ (k : Nat) (b : UInt8),k < l.length → (joinS (l.take k)).getLast? = some b → b.toNat < 128 := by
 induction h with
 | @fin s n h1 h2 =>
   intro k b hk hb
   have : k = 0 := by simp at hk; omega
   subst this
   simp [joinS] at hb
 | @tok s n l h1 h2 h3 ih =>
   intro k b hk hb
   cases k with
   | zero => simp [joinS] at hb
   | succ k =>
     have e1 : joinS (⟨(tokN (s.drop (leadS false s))).2.1,n + leadS false s,s.take (leadS false s),(s.drop (leadS false s)).take (tokN (s.drop (leadS false s))).2.2⟩ :: l.take k) = s.take (leadS false s) ++ ((s.drop (leadS false s)).take (tokN (s.drop (leadS false s))).2.2 ++ joinS (l.take k)) := by
      simp [joinS]
     rw [List.take_succ_cons,e1,List.getLast?_append,List.getLast?_append] at hb
     cases hJ : (joinS (l.take k)).getLast? with
     | some c =>
       rw [hJ] at hb
       simp at hb
       subst hb
       exact ih k c (by simpa using hk) hJ
     | none =>
       rw [hJ] at hb
       have hm := (tokN_len (s.drop (leadS false s))).2.2.1 h1 h2
       cases hx : ((s.drop (leadS false s)).take (tokN (s.drop (leadS false s))).2.2).getLast? with
       | none =>
         have := List.getLast?_eq_none_iff.1 hx
         have hl := congrArg List.length this
         have := (tokN_len (s.drop (leadS false s))).1
         simp only [List.length_take,List.length_nil] at hl
         omega
       | some c =>
         rw [hx] at hb
         simp at hb
         subst hb
         exact tok_last h2 h1 hx
section
def PLe (r r' : PR) : Prop := r ≠ .out → r' = r
section
variable {L : List Tk}
theorem PLe.refl (r : PR) : PLe r r := fun _ => rfl
theorem PLe.want {k : Nat} {x : Bs} {h h' : Nat → PR} (hh : PLe (h (k + 1)) (h' (k + 1))) : PLe (wantR L k x h) (wantR L k x h') := by
 unfold wantR
 split
 · exact hh
 · exact .refl _
theorem PLe.word {k : Nat} {h h' : Bs → Nat → PR} (hh : PLe (h (txT L k) (k + 1)) (h' (txT L k) (k + 1))) : PLe (wordR L k h) (wordR L k h') := by
 unfold wordR
 split
 · exact hh
 · exact .refl _
theorem PLe.ite {c : Prop} [Decidable c] {a b a' b' : PR} (ha : PLe a a') (hb : PLe b b') : PLe (if c then a else b) (if c then a' else b') := by
 split
 · exact ha
 · exact hb
theorem PLe.thenG {x x' : PR} {h h' : N → Nat → PR} (hx : PLe x x') (hh : ∀ m j,PLe (h m j) (h' m j)) : PLe (x.then h) (x'.then h') := by
 intro hne
 cases x with
 | out => exact absurd rfl hne
 | bad q => rw [hx (by intro h; cases h)]; rfl
 | ok m j => rw [hx (by intro h; cases h)]; exact hh m j hne
end
theorem N.Sm.symm {p : Bool} {n m : N} (h : N.Sm p n m) : N.Sm p m n := by
 induction h with
 | mk hp hl hk ih =>
   refine .mk (fun e => ?_) hl.symm fun i x y hx hy => ih i y x hy hx
   obtain ⟨rfl,rfl,rfl⟩ := hp e
   exact ⟨rfl,rfl,rfl⟩
def SmL (ks ks' : List N) : Prop := ks.length = ks'.length ∧ ∀ (i : Nat) (x y : N),ks[i]? = some x → ks'[i]? = some y → N.Sm false x y
theorem SmL.nil : SmL [] [] := ⟨rfl,by simp⟩
theorem SmL.cons {x y : N} {a b : List N} (h : N.Sm false x y) (hl : SmL a b) : SmL (x :: a) (y :: b) := by
 refine ⟨by simp [hl.1],fun i u v hu hv => ?_⟩
 cases i with
 | zero => simp at hu hv; subst hu; subst hv; exact h
 | succ i => exact hl.2 i u v (by simpa using hu) (by simpa using hv)
theorem SmL.app {a b c d : List N} (h : SmL a b) (k : SmL c d) : SmL (a ++ c) (b ++ d) := by
 refine ⟨by simp [h.1,k.1],fun i u v hu hv => ?_⟩
 by_cases hi : i < a.length
 · rw [List.getElem?_append_left hi] at hu
   rw [List.getElem?_append_left (by rw [← h.1]; exact hi)] at hv
   exact h.2 i u v hu hv
 · rw [List.getElem?_append_right (by omega)] at hu
   rw [List.getElem?_append_right (by rw [← h.1]; omega),← h.1] at hv
   exact k.2 _ u v hu hv
theorem Sm_new {k f t f' t' : Int} {w : Bs} {a a' : Int} {ks ks' : List N} (h : SmL ks ks') : N.Sm false (.new k f t w a ks) (.new k f' t' w a' ks') := .mk (fun e => by cases e) h.1 h.2
theorem SmL.refl (l : List N) : SmL l l := ⟨rfl,fun i x y hx hy => by rw [hx] at hy; cases hy; exact .refl _ _⟩
theorem Sm_depth {p : Bool} {n m : N} (h : N.Sm p n m) : n.depth = m.depth := by
 induction h with
 | @mk k f t f' t' w a a' z z' ks ks' hp hl hk ih =>
   rw [N.depth_mk,N.depth_mk]
   congr 1
   have : ∀ (l l' : List N),l.length = l'.length → (∀ (i : Nat) (x y : N),l[i]? = some x → l'[i]? = some y → x.depth = y.depth) → N.depths l = N.depths l' := by
    intro l
    induction l with
    | nil => intro l' hl _; cases l' with | nil => rfl | cons _ _ => simp at hl
    | cons x l ihl =>
      intro l' hl h
      cases l' with
      | nil => simp at hl
      | cons y l' =>
        rw [N.depths_cons,N.depths_cons,h 0 x y rfl rfl,ihl l' (by simpa using hl) fun i u v hu hv => h (i + 1) u v (by simpa using hu) (by simpa using hv)]
   exact this ks ks' hl fun i x y hx hy => ih i x y hx hy
theorem SmL.depths {l l' : List N} (h : SmL l l') : N.depths l = N.depths l' := by
 have := Sm_depth (Sm_new (k := 0) (f := 0) (t := 0) (f' := 0) (t' := 0) (w := []) (a := 0) (a' := 0) h)
 simp only [N.new,N.depth_mk] at this
 omega
inductive Gs : G → G → Prop
 | refl (g : G) : Gs g g
 | stmts {a b : List N} (h : SmL a b) : Gs (.stmts a) (.stmts b)
 | sumL {a b : N} (h : N.Sm false a b) : Gs (.sumL a) (.sumL b)
 | termL {a b : N} (h : N.Sm false a b) : Gs (.termL a) (.termL b)
 | postL {a b : N} (h : N.Sm false a b) : Gs (.postL a) (.postL b)
 | listL {o : G} {e : Bs} {a b : List N} (h : SmL a b) : Gs (.listL o e a) (.listL o e b)
def G.st (g : G) : Nat := if g.strict then 1 else 0
def S3 (L L' : List Tk) (i i' : Nat) : Prop := (∀ x,isT L i x = isT L' i' x) ∧ kdT L i = kdT L' i' ∧ txT L i = txT L' i'
def Rb (d b lo c : Nat) (r r' : PR) : Prop := ∀ m j,r = .ok m j → lo ≤ j ∧ (j + c ≤ b → ∃ m',r' = .ok m' (j + d) ∧ N.Sm false m m')
section
variable {L L' : List Tk} {d b lo c : Nat}
theorem Rb.ok {m m' : N} {j j' : Nat} (hl : lo ≤ j) (hj : j' = j + d) (hm : N.Sm false m m') : Rb d b lo c (.ok m j) (.ok m' j') := by
 rintro m0 j0 h
 cases h
 exact ⟨hl,fun _ => ⟨m',by rw [hj],hm⟩⟩
theorem Rb.want (hs : ∀ i,i < b → S3 L L' i (i + d)) {k k' : Nat} {x : Bs} {h h' : Nat → PR} (hk : k' = k + d) (hlo : lo ≤ k + 1) (hh : Rb d b (k + 1) c (h (k + 1)) (h' (k' + 1))) : Rb d b lo c (wantR L k x h) (wantR L' k' x h') := by
 subst hk
 rintro m j he
 unfold wantR at he
 split at he
 · rename_i e
   obtain ⟨h1,h2⟩ := hh m j he
   refine ⟨by omega,fun hb => ?_⟩
   obtain ⟨m',h3,h4⟩ := h2 hb
   refine ⟨m',?_,h4⟩
   unfold wantR
   rw [if_pos (by rw [← (hs k (by omega)).1]; exact e)]
   exact h3
 · cases he
theorem Rb.word (hs : ∀ i,i < b → S3 L L' i (i + d)) {k k' : Nat} {h h' : Bs → Nat → PR} (hk : k' = k + d) (hlo : lo ≤ k + 1) (hh : ∀ w,Rb d b (k + 1) c (h w (k + 1)) (h' w (k' + 1))) : Rb d b lo c (wordR L k h) (wordR L' k' h') := by
 subst hk
 rintro m j he
 unfold wordR at he
 split at he
 · rename_i e
   obtain ⟨h1,h2⟩ := hh _ m j he
   refine ⟨by omega,fun hb => ?_⟩
   obtain ⟨m',h3,h4⟩ := h2 hb
   refine ⟨m',?_,h4⟩
   unfold wordR
   have := hs k (by omega)
   rw [if_pos (by rw [← this.2.1]; exact e),← this.2.2]
   exact h3
 · cases he
theorem Rb.ifT (hs : ∀ i,i < b → S3 L L' i (i + d)) {k k' : Nat} {x : Bs} {a a' e e' : PR} (hk : k' = k + d) (hkc : k < lo + c) (ha : Rb d b lo c a a') (he : Rb d b lo c e e') : Rb d b lo c (if isT L k x then a else e) (if isT L' k' x then a' else e') := by
 subst hk
 rintro m j h
 have key : k < b → (isT L k x = isT L' (k + d) x) := fun hb => (hs k hb).1 x
 split at h
 · rename_i hx
   obtain ⟨h1,h2⟩ := ha m j h
   refine ⟨h1,fun hb => ?_⟩
   rw [← key (by omega),if_pos hx]
   exact h2 hb
 · rename_i hx
   obtain ⟨h1,h2⟩ := he m j h
   refine ⟨h1,fun hb => ?_⟩
   rw [← key (by omega),if_neg hx]
   exact h2 hb
theorem Rb.ifK (hs : ∀ i,i < b → S3 L L' i (i + d)) {k k' : Nat} {x : Int} {a a' e e' : PR} (hk : k' = k + d) (hkc : k < lo + c) (ha : Rb d b lo c a a') (he : Rb d b lo c e e') : Rb d b lo c (if kdT L k = x then a else e) (if kdT L' k' = x then a' else e') := by
 subst hk
 rintro m j h
 have key : k < b → (kdT L k = kdT L' (k + d)) := fun hb => (hs k hb).2.1
 split at h
 · rename_i hx
   obtain ⟨h1,h2⟩ := ha m j h
   refine ⟨h1,fun hb => ?_⟩
   rw [← key (by omega),if_pos hx]
   exact h2 hb
 · rename_i hx
   obtain ⟨h1,h2⟩ := he m j h
   refine ⟨h1,fun hb => ?_⟩
   rw [← key (by omega),if_neg hx]
   exact h2 hb
theorem Rb.ifS (hs : ∀ i,i < b → S3 L L' i (i + d)) {k k' : Nat} {x : Bs} {a a' e e' : PR} (hk : k' = k + d) (hkc : k + 1 < lo + c) (ha : Rb d b lo c a a') (he : Rb d b lo c e e') : Rb d b lo c (if kdT L k = 1 ∧ isT L (k + 1) x = true then a else e) (if kdT L' k' = 1 ∧ isT L' (k' + 1) x = true then a' else e') := by
 subst hk
 rintro m j h
 have key : k + 1 < b → ((kdT L k = 1 ∧ isT L (k + 1) x = true) ↔ (kdT L' (k + d) = 1 ∧ isT L' (k + d + 1) x = true)) := fun hb => by
  rw [(hs k (by omega)).2.1,(hs (k + 1) hb).1 x,show k + 1 + d = k + d + 1 by omega]
 split at h
 · rename_i hx
   obtain ⟨h1,h2⟩ := ha m j h
   refine ⟨h1,fun hb => ?_⟩
   rw [if_pos ((key (by omega)).1 hx)]
   exact h2 hb
 · rename_i hx
   obtain ⟨h1,h2⟩ := he m j h
   refine ⟨h1,fun hb => ?_⟩
   rw [if_neg (fun hc => hx ((key (by omega)).2 hc))]
   exact h2 hb
theorem Rb.thenG {x x' : PR} {h h' : N → Nat → PR} {lo1 lk : Nat} (hx : Rb d b lo1 lk x x') (hlo : ∀ j,lo1 ≤ j → lo ≤ j + (lk - c)) (hh : ∀ m m' j,lo1 ≤ j → N.Sm false m m' → Rb d b (j + (lk - c)) c (h m j) (h' m' (j + d))) : Rb d b lo c (x.then h) (x'.then h') := by
 rintro m2 j2 he
 cases x with
 | out => cases he
 | bad q => cases he
 | ok m j =>
   obtain ⟨h1,h2⟩ := hx m j rfl
   have he' : h m j = .ok m2 j2 := he
   have h3 : j + (lk - c) ≤ j2 := (hh m m j h1 (.refl _ _) m2 j2 he').1
   refine ⟨Nat.le_trans (hlo j h1) h3,fun hb => ?_⟩
   obtain ⟨m',h4,h5⟩ := h2 (by omega)
   rw [h4]
   exact (hh m m' j h1 h5 m2 j2 he').2 hb
theorem Rb.last {x x' : PR} {lo1 lk : Nat} (hx : Rb d b lo1 lk x x') (hl : lo ≤ lo1) (hc : lk ≤ c) : Rb d b lo c x x' := fun m j h => ⟨Nat.le_trans hl (hx m j h).1,fun hb => (hx m j h).2 (by omega)⟩
theorem Rb.bad {q : Nat} {r : PR} : Rb d b lo c (.bad q) r := fun m j h => by cases h
end
end
section
section
variable {L L' : List Tk} {d b : Nat}
end
end
section
section
variable {L L' : List Tk} {d b : Nat}
end
theorem Toks.len {s : Bs} {n : Nat} {l : List Tk} (h : Toks s n l) : l.length ≤ s.length + 1 := by
 induction h with
 | fin h h0 => simp
 | @tok s n l h h0 hr ih =>
   have hl := lead_le false s
   obtain ⟨m1,m2,m3,m4⟩ := tokN_len (s.drop (leadS false s))
   have := m3 h h0
   simp only [List.length_drop] at ih m1
   simp only [List.length_cons]
   omega
end
section
inductive N.Ap : N → Int → Int → Prop
 | none {w : Bs} {a : Int} {z : Bool} {fr to : Int} : N.Ap (.mk 0 0 0 w a z []) fr to
 | use {f t : Int} {w : Bs} {a : Int} {z : Bool} {p : N} {r : List N} {fr to : Int} (hf : 0 ≤ f) (h1 : fr ≤ f) (h2 : t ≤ to) (h3 : f ≤ t) (hw : f ≤ a ∧ a < t) (hp : p.f = f + 1 ∧ p.t = f + 2 ∧ f + 1 < a) : N.Ap (.mk 2 f t w a z (p :: r)) fr to
 | node {k f t : Int} {w : Bs} {a : Int} {z : Bool} {ks : List N} {fr to : Int} (P : Nat → Int) (hk : k ≠ 0) (hk2 : k ≠ 2) (h1 : fr ≤ f) (h2 : t ≤ to) (h3 : f ≤ t) (hw : w = [] ∨ f ≤ a ∧ a < t) (h0 : P 0 = f)
  (hs : ∀ (i : Nat) (x : N),ks[i]? = some x → P (i + 1) = if x.k = 0 then P i else x.t) (ih : ∀ (i : Nat) (x : N),ks[i]? = some x → N.Ap x (P i) t) : N.Ap (.mk k f t w a z ks) fr to
theorem N.Ap.mono {n : N} {fr to fr' to' : Int} (h : n.Ap fr to) (h1 : fr' ≤ fr) (h2 : to ≤ to') : n.Ap fr' to' := by
 cases h with
 | none => exact .none
 | use z a b c d e => exact .use z (by omega) (by omega) c d e
 | node P a b c d e f g h i => exact .node P a b (by omega) (by omega) e f g h i
structure N.Nd (b : Int) (m : N) (e : Int) : Prop where
 k : m.k ≠ 0
 f : m.f = b
 t : m.t = e
 le : b ≤ e
 ap : m.Ap b e
def Stp (b : Int) (p : N) (m : Int) : Prop := (p = N.none ∧ m = b) ∨ (∃ b',b ≤ b' ∧ N.Nd b' p m)
def SeqE : Int → List N → Int → Prop
 | b,[],e => b ≤ e
 | b,p :: r,e => ∃ m,Stp b p m ∧ SeqE m r e
theorem Stp.mono {b b' : Int} {p : N} {m : Int} (h : Stp b p m) (hb : b' ≤ b) : ∃ m',m' ≤ m ∧ Stp b' p m' := by
 rcases h with ⟨rfl,rfl⟩ | ⟨c,hc,hn⟩
 · exact ⟨b',hb,.inl ⟨rfl,rfl⟩⟩
 · exact ⟨m,by omega,.inr ⟨c,by omega,hn⟩⟩
theorem Stp.le {b : Int} {p : N} {m : Int} (h : Stp b p m) : b ≤ m := by
 rcases h with ⟨rfl,rfl⟩ | ⟨c,hc,hn⟩
 · omega
 · have := hn.le; omega
theorem SeqE.mono : ∀ {ks : List N} {b e b' e' : Int},SeqE b ks e → b' ≤ b → e ≤ e' → SeqE b' ks e'
 | [],b,e,b',e',h,h1,h2 => by simp only [SeqE] at h ⊢; omega
 | p :: r, b, e, b', e', ⟨m, h, hr⟩, h1, h2 => by
   obtain ⟨m',hm,h'⟩ := h.mono h1
   exact ⟨m',h',hr.mono hm h2⟩
theorem SeqE.le : ∀ {ks : List N} {b e : Int},SeqE b ks e → b ≤ e
 | [],b,e,h => h
 | p :: r,b,e,⟨m,h,hr⟩ => by have := h.le; have := hr.le; omega
theorem SeqE.nil {b e : Int} (h : b ≤ e) : SeqE b [] e := h
theorem SeqE.cons {b i j e : Int} {p : N} {r : List N} (h : Stp i p j) (hi : b ≤ i) (hr : SeqE j r e) : SeqE b (p :: r) e := by
 obtain ⟨m',hm,h'⟩ := h.mono hi
 exact ⟨m',h',hr.mono hm (Int.le_refl _)⟩
theorem SeqE.app : ∀ {ks r : List N} {b e e' : Int},SeqE b ks e → SeqE e r e' → SeqE b (ks ++ r) e'
 | [],r,b,e,e',h,hr => hr.mono h (Int.le_refl _)
 | p :: l,r,b,e,e',⟨m,h,hl⟩,hr => ⟨m,h,hl.app hr⟩
theorem SeqE.pos : ∀ {ks : List N} {b e t : Int},SeqE b ks e → e ≤ t → ∃ P : Nat → Int,P 0 = b ∧ (∀ (i : Nat) (x : N),ks[i]? = some x → P (i + 1) = if x.k = 0 then P i else x.t) ∧ ∀ (i : Nat) (x : N),ks[i]? = some x → N.Ap x (P i) t
 | [],b,e,t,h,ht => ⟨fun _ => b,rfl,(fun i x hx => by simp at hx),(fun i x hx => by simp at hx)⟩
 | p :: r, b, e, t, ⟨m, h, hr⟩, ht => by
   obtain ⟨P,h0,hs,ha⟩ := hr.pos ht
   have hle := hr.le
   refine ⟨fun i => match i with | 0 => b | i + 1 => P i,rfl,fun i x hx => ?_,fun i x hx => ?_⟩
   · cases i with
     | zero =>
       cases hx
       show P 0 = _
       rw [h0]
       rcases h with ⟨rfl,rfl⟩ | ⟨c,hc,hn⟩
       · rfl
       · rw [if_neg hn.k,hn.t]
     | succ i => exact hs i x hx
   · cases i with
     | zero =>
       cases hx
       show N.Ap _ b t
       rcases h with ⟨rfl,rfl⟩ | ⟨c,hc,hn⟩
       · exact .none
       · exact hn.ap.mono hc (by omega)
     | succ i => exact ha i x hx
theorem N.Nd.new {K f t b e : Int} {w : Bs} {a : Int} {ks : List N} (hk : K ≠ 0) (hk2 : K ≠ 2) (hf : f = b) (ht : t = e) (hle : b ≤ e) (hw : w = [] ∨ b ≤ a ∧ a < e) (hs : SeqE b ks e) : N.Nd b (N.new K f t w a ks) e := by
 subst hf; subst ht
 obtain ⟨P,h0,h1,h2⟩ := hs.pos (Int.le_refl _)
 exact ⟨hk,rfl,rfl,hle,.node P hk hk2 (Int.le_refl _) (Int.le_refl _) hle hw h0 h1 h2⟩
def ApP (i : Nat) : G → N → Nat → Prop
 | .typed,m,j => Stp i m j
 | .list _ _,m,j => SeqE i m.ks j
 | .stmts ks,m,j | .listL _ _ ks,m,j => ∀ b : Int,SeqE b ks i → SeqE b m.ks j
 | .file ks,m,j => SeqE 0 ks i → N.Nd 0 m j
 | .sumL a,m,j | .termL a,m,j | .postL a,m,j => ∀ b : Int,N.Nd b a i → N.Nd b m j
 | _,m,j => N.Nd i m j
def ApR (P : N → Nat → Prop) : PR → Prop
 | .ok m j => P m j
 | _ => True
def G.one : G → Bool
 | .param | .tfield | .kind | .expr | .entry => true
 | _ => false
def G.flat : G → Prop
 | .list o _ | .listL o _ _ => o.one = true
 | _ => True
theorem ApP.one {o : G} (h : o.one = true) {i : Nat} {m : N} {j : Nat} (hp : ApP i o m j) : N.Nd i m j := by cases o <;> simp [G.one] at h <;> exact hp
section
variable {L : List Tk} {P : N → Nat → Prop}
theorem ApR.want {k : Nat} {x : Bs} {h : Nat → PR} (hh : ApR P (h (k + 1))) : ApR P (wantR L k x h) := by
 unfold wantR
 split
 · exact hh
 · trivial
theorem ApR.word {k : Nat} {h : Bs → Nat → PR} (hh : ApR P (h (txT L k) (k + 1))) : ApR P (wordR L k h) := by
 unfold wordR
 split
 · exact hh
 · trivial
theorem ApR.ite {c : Prop} [Decidable c] {a b : PR} (ha : ApR P a) (hb : ApR P b) : ApR P (if c then a else b) := by
 split
 · exact ha
 · exact hb
theorem ApR.last {n : Nat} (ih : ∀ g i,g.flat → ApR (ApP i g) (pp L n g i)) {g : G} {k : Nat} (hg : g.flat) (hh : ∀ m j,k ≤ j → (g.strict = true → k < j) → ApP k g m j → P m j) : ApR P (pp L n g k) := by
 have h1 := ih g k hg
 have h2 := pp_adv (L := L) n g k
 generalize pp L n g k = r at h1 h2
 cases r with
 | out => trivial
 | bad j => trivial
 | ok m j => exact hh _ j h2.1 h2.2.1 h1
theorem ApR.thenG {n : Nat} (ih : ∀ g i,g.flat → ApR (ApP i g) (pp L n g i)) {g : G} {k : Nat} {h : N → Nat → PR} (hg : g.flat) (hh : ∀ m j,k ≤ j → (g.strict = true → k < j) → ApP k g m j → ApR P (h m j)) : ApR P ((pp L n g k).then h) := by
 have h1 := ih g k hg
 have h2 := pp_adv (L := L) n g k
 generalize pp L n g k = r at h1 h2
 cases r with
 | out => trivial
 | bad j => trivial
 | ok m j => exact hh m j h2.1 h2.2.1 h1
theorem ApR.ok {m : N} {j : Nat} (h : P m j) : ApR P (.ok m j) := h
end
end
def awakeT : Bs := [100,101,102,32,109,97,105,110,40,41,32,123,125]
def awakeN : N := N.new 1 0 6 [] 0 [N.new 3 0 6 [109,97,105,110] 1 [N.new 4 2 4 [] 0 [],N.none,N.new 6 4 6 [] 0 []]]
theorem awake_parse : (parseO awakeT).2.1 = awakeN ∧ (parseO awakeT).2.2.1 = 0 := by constructor <;> kernel_rfl
theorem awake_kd : awakeN.Kd := by
 refine .mk ⟨by decide,by decide⟩ fun p hp => ?_
 simp at hp
 subst hp
 refine .mk ⟨by decide,by decide⟩ fun p hp => ?_
 simp at hp
 rcases hp with rfl | rfl | rfl
 · exact .mk ⟨by decide,by decide⟩ fun p hp => by simp at hp
 · exact .mk ⟨by decide,by decide⟩ fun p hp => by simp at hp
 · exact .mk ⟨by decide,by decide⟩ fun p hp => by simp at hp
theorem awake_show : awakeN.show = [40,102,105,108,101,32,40,100,101,102,32,109,97,105,110,32,40,112,97,114,97,109,115,41,32,45,32,40,98,108,111,99,107,41,41,41] := by kernel_rfl
theorem node_ex (a : N) : ∃ (k f t : Int) (w : Bs) (q : Int) (za : Bool) (ks : List N),a.ks = ks ∧ a.enc = [.int .i64 k,.int .i64 f,.int .i64 t,.str w,.int .i64 q,.sl za 6 (ks.map N.enc)] ∧ a.v = .agg [.d (.int .i64 k),.d (.int .i64 f),.d (.int .i64 t),.d (.str w),.d (.int .i64 q),.d (.sl za 6 (ks.map N.enc))] := by
 obtain ⟨k,f,t,w,q,za,ks⟩ := a
 exact ⟨k,f,t,w,q,za,ks,rfl,by rw [N.enc_mk],by rw [N.v_mk]⟩
end Go.Zam
namespace Go.Proofs.Zf
section
open Go Go.Zam Go.Proofs
open Go.RowKit (Below)
theorem kindCalls (k f t a : Int) (wd : ByteArray) (ks : Value) (w : World) (hk : 0 ≤ k ∧ k < 35) (s : ByteArray) (hc : w.cell? ⟨0,k.toNat,none⟩ = some (.string s)) :
 Calls Tryz.prog 69 #[.agg #[.int .i64 k,.int .i64 f,.int .i64 t,.string wd,.int .i64 a,ks]] w fun e w' => e = .returned (.string s) ∧ Below w.heap.size w w' := by
 go_enter Tryz.func69,Tryz.ntmps69
 have h0 : 0 < w.heap.size := by
  obtain ⟨cs,ty,fr,hh⟩ := cells_of_cell hc
  exact (Array.getElem?_eq_some_iff.1 hh).1
 have hc' : ∀ o,(w.alloc o).cell? ⟨0,k.toNat,none⟩ = some (.string s) := fun o => (World.cell?_alloc_lt (w := w) (o := o) (a := ⟨0,k.toNat,none⟩) h0).trans hc
 go_wp2
 go_ret
 exact ⟨rfl,(Below.refl _ w).alloc (Nat.le_refl _) _⟩
theorem kindOk {H0 : Hp} (hN : NamesG 0 H0) : KindOk Tryz.prog H0 69 := by
 intro n H hp hk κ w vs hr hl hv
 obtain ⟨k,f,t,wd,a,z,ks⟩ := n
 simp only [N.k] at hk ⊢
 rw [N.v_mk] at hv
 match vs,hl with
 | [v0],_ =>
 have h0 := hv 0 v0 _ rfl rfl
 cases h0 with
 | agg us _ hul hu =>
 match us,hul with
 | [u0,u1,u2,u3,u4,u5],_ =>
 have e0 := (hu 0 u0 _ rfl rfl).d_inv.int_inv
 have e1 := (hu 1 u1 _ rfl rfl).d_inv.int_inv
 have e2 := (hu 2 u2 _ rfl rfl).d_inv.int_inv
 have e3 := (hu 3 u3 _ rfl rfl).d_inv.str_inv
 have e4 := (hu 4 u4 _ rfl rfl).d_inv.int_inv
 subst e0; subst e1; subst e2; subst e3; subst e4
 refine (kindCalls k f t a _ u5 w hk _ (names_of hr hp hN k.toNat (by omega))).mono ?_
 rintro e w' ⟨rfl,hb⟩
 refine ⟨_,κ,_,H,rfl,K.le_refl κ,hr.later hb,?_,rfl,rfl⟩
 exact .d (.str _)
theorem pcf16 : compF Tryz.prog [3] Tryz.f16 = some (irTShowTop 31 32 25 74 5) := by kernel_rfl
theorem pcf31 : compF Tryz.prog [] Tryz.f31 = some (irTShow 67 69 68 31 25) := by kernel_rfl
theorem cfWS : compF Tryz.prog [] Tryz.f68 = some (irWrite 83) := by kernel_rfl
theorem writeSOk : WriteSOk Tryz.prog 68 74 := fun H i t a bs s => write_acall Tryz.func68 cfWS copyOk H i t a bs s
theorem showOk {H0 : Hp} (hN : NamesG 0 H0) (n : N) (hk : n.Kd) (hl : n.show.length ≤ 1048576) (hsz : n.size ≤ 1048576) (H : Hp) (hH : Pre0 H0 H) : ACall Tryz.prog 16 [n.v] H (fun r H' => r = .d (.str n.show) ∧ H' = H) :=
 HasT.showTop ⟨_,Tryz.func16,pcf16⟩ stringOk' (Has.showT ⟨_,Tryz.func31,pcf31⟩ writeBOk writeSOk (kindOk hN)) n hk hl hsz H hH
end
end Go.Proofs.Zf
namespace Go.Zam
def irR7Type (c1 c2 c3 t1 t2 : Nat) : IFn := { nt := 47, res := [.cell 2 6 true,.t 3], body := ( .seq (.ops [ ⟨some 2,none,.alloc t1 [(.int .i64 0),(.int .i64 0),(.int .i64 0),(.str []),(.int .i64 0),(.sl true 6 [])]⟩, ⟨some 3,none,.mv (.c (.int .i64 0))⟩] false) (.seq (.ops [ ⟨some 11,none,.mv (.t 0)⟩, ⟨some 12,none,.call c1 [(.t 11)]⟩, ⟨some 10,none,.mv (.t 12)⟩, ⟨some 13,none,.ext (.t 10) 0⟩, ⟨some 14,none,.ext (.t 10) 1⟩, ⟨some 15,none,.ext (.t 10) 2⟩, ⟨some 4,none,.mv (.t 13)⟩, ⟨some 5,none,.mv (.t 14)⟩, ⟨some 6,none,.mv (.t 15)⟩] false) (.seq (.seq (.ops [ ⟨some 16,none,.mv (.t 5)⟩, ⟨some 17,none,.bin .neq (.t 16) (.c (.int .i64 0))⟩] false) (.cond (.t 17) (.seq (.ops [ ⟨some 18,none,.build [(.int .i64 0),(.int .i64 0),(.int .i64 0),(.str []),(.int .i64 0),(.sl true 6 [])] []⟩, ⟨some 19,none,.mv (.t 5)⟩, ⟨none,none,.store 6 (.t 2) (.t 18)⟩, ⟨some 3,none,.mv (.t 19)⟩] false) (.ret)) (.skip))) (.seq (.ops [ ⟨some 20,none,.mv (.t 4)⟩, ⟨some 21,none,.build [(.sl true 4 []),(.int .i64 0)] [(0,1,(.t 20)),(1,1,(.c (.int .i64 (-1))))]⟩, ⟨some 22,none,.box t2 2 (.t 21)⟩, ⟨some 7,none,.mv (.t 22)⟩] false) (.seq (.ops [ ⟨some 24,none,.mv (.t 7)⟩, ⟨some 25,none,.call c2 [(.t 24),(.c (.int .i64 0))]⟩, ⟨some 23,none,.mv (.t 25)⟩, ⟨some 26,none,.ext (.t 23) 0⟩, ⟨some 27,none,.ext (.t 23) 1⟩, ⟨some 8,none,.alloc t1 [(.int .i64 0),(.int .i64 0),(.int .i64 0),(.str []),(.int .i64 0),(.sl true 6 [])]⟩, ⟨none,none,.store 6 (.t 8) (.t 26)⟩, ⟨some 9,none,.mv (.t 27)⟩] false) (.seq (.seq (.ops [ ⟨some 28,none,.mv (.t 7)⟩, ⟨some 29,none,.nilCheck (.t 28)⟩, ⟨some 30,none,.faddr 1 (.t 29)⟩, ⟨some 31,none,.load 1 false (.t 30)⟩, ⟨some 32,none,.bin .geq (.t 31) (.c (.int .i64 0))⟩, ⟨some 33,none,.mv (.t 32)⟩, ⟨some 34, some (33, false),.mv (.t 4)⟩, ⟨some 35, some (33, false),.mv (.t 9)⟩, ⟨some 36, some (33, false),.iaddr 4 (.t 34) (.t 35)⟩, ⟨some 37, some (33, false),.faddr 0 (.t 36)⟩, ⟨some 38, some (33, false),.load 1 false (.t 37)⟩, ⟨some 39, some (33, false),.bin .neq (.t 38) (.c (.int .i64 0))⟩, ⟨some 40,none,.pick (.t 33) (.c (.bool true)) (.t 39)⟩] false) (.cond (.t 40) (.seq (.ops [ ⟨some 41,none,.build [(.int .i64 0),(.int .i64 0),(.int .i64 0),(.str []),(.int .i64 0),(.sl true 6 [])] []⟩, ⟨none,none,.store 6 (.t 2) (.t 41)⟩, ⟨some 3,none,.mv (.c (.int .i64 24))⟩] false) (.ret)) (.skip))) (.seq (.seq (.ops [ ⟨some 42,none,.load 6 true (.t 8)⟩, ⟨some 43,none,.call c3 [(.t 42)]⟩, ⟨some 44,none,.bin .gtr (.t 43) (.c (.int .i64 60))⟩] false) (.cond (.t 44) (.seq (.ops [ ⟨some 45,none,.build [(.int .i64 0),(.int .i64 0),(.int .i64 0),(.str []),(.int .i64 0),(.sl true 6 [])] []⟩, ⟨none,none,.store 6 (.t 2) (.t 45)⟩, ⟨some 3,none,.mv (.c (.int .i64 25))⟩] false) (.ret)) (.skip))) (.seq (.ops [ ⟨some 46,none,.load 6 true (.t 8)⟩, ⟨none,none,.store 6 (.t 2) (.t 46)⟩, ⟨some 3,none,.mv (.c (.int .i64 0))⟩] false) (.ret))))))))) }
def irR7Kind (c1 c2 c3 c4 c5 t1 : Nat) : IFn := { nt := 180, res := [.cell 4 6 true,.t 5], body := ( .seq (.ops [ ⟨some 4,none,.alloc t1 [(.int .i64 0),(.int .i64 0),(.int .i64 0),(.str []),(.int .i64 0),(.sl true 6 [])]⟩, ⟨some 5,none,.mv (.c (.int .i64 0))⟩] false) (.seq (.ops [ ⟨some 16,none,.mv (.t 1)⟩, ⟨some 6,none,.mv (.t 16)⟩] false) (.seq (.seq (.ops [ ⟨some 17,none,.mv (.t 0)⟩, ⟨some 18,none,.nilCheck (.t 17)⟩, ⟨some 19,none,.faddr 1 (.t 18)⟩, ⟨some 20,none,.load 1 false (.t 19)⟩, ⟨some 21,none,.bin .geq (.t 20) (.c (.int .i64 0))⟩] false) (.cond (.t 21) (.seq (.ops [ ⟨some 22,none,.build [(.int .i64 0),(.int .i64 0),(.int .i64 0),(.str []),(.int .i64 0),(.sl true 6 [])] []⟩, ⟨some 23,none,.mv (.t 6)⟩, ⟨none,none,.store 6 (.t 4) (.t 22)⟩, ⟨some 5,none,.mv (.t 23)⟩] false) (.ret)) (.skip))) (.seq (.ops [ ⟨some 24,none,.bslice 1 [(.c (.str [105,110,116])),(.c (.str [115,116,114])),(.c (.str [100,121,110]))]⟩, ⟨some 7,none,.mv (.t 24)⟩] false) (.seq (.seq (.ops [ ⟨some 8,none,.mv (.c (.int .i64 0))⟩] false) (.blk 0 (.loop (.seq (.seq (.ops [ ⟨some 25,none,.mv (.t 8)⟩, ⟨some 26,none,.bin .lss (.t 25) (.c (.int .i64 3))⟩] false) (.cond (.t 26) (.skip) (.exit 0))) (.seq (.blk 1 (.seq (.ops [ ⟨some 29,none,.mv (.t 0)⟩, ⟨some 30,none,.mv (.t 6)⟩, ⟨some 31,none,.mv (.t 7)⟩, ⟨some 32,none,.mv (.t 8)⟩, ⟨some 33,none,.iaddr 1 (.t 31) (.t 32)⟩, ⟨some 34,none,.load 1 false (.t 33)⟩, ⟨some 35,none,.call c1 [(.t 29),(.t 30),(.t 34)]⟩] false) (.cond (.t 35) (.seq (.ops [ ⟨some 36,none,.mv (.t 8)⟩, ⟨some 37,none,.bin .add (.c (.int .i64 29)) (.t 36)⟩, ⟨some 38,none,.mv (.t 1)⟩, ⟨some 39,none,.mv (.t 6)⟩, ⟨some 40,none,.bin .add (.t 39) (.c (.int .i64 1))⟩, ⟨some 41,none,.build [(.int .i64 0),(.int .i64 0),(.int .i64 0),(.str []),(.int .i64 0),(.sl true 6 [])] [(0,1,(.t 37)),(1,1,(.t 38)),(2,1,(.t 40))]⟩, ⟨some 42,none,.mv (.t 6)⟩, ⟨some 43,none,.bin .add (.t 42) (.c (.int .i64 1))⟩, ⟨none,none,.store 6 (.t 4) (.t 41)⟩, ⟨some 5,none,.mv (.t 43)⟩] false) (.ret)) (.skip)))) (.ops [ ⟨some 27,none,.mv (.t 8)⟩, ⟨some 28,none,.bin .add (.t 27) (.c (.int .i64 1))⟩, ⟨some 8,none,.mv (.t 28)⟩] false)))))) (.seq (.ops [ ⟨some 9,none,.nilT 6 t1⟩] false) (.seq (.seq (.ops [ ⟨some 44,none,.mv (.t 0)⟩, ⟨some 45,none,.mv (.t 6)⟩, ⟨some 46,none,.call c1 [(.t 44),(.t 45),(.c (.str [123]))]⟩] false) (.cond (.t 46) (.seq (.ops [ ⟨some 47,none,.mv (.t 6)⟩, ⟨some 48,none,.bin .add (.t 47) (.c (.int .i64 1))⟩, ⟨some 6,none,.mv (.t 48)⟩] false) (.seq (.blk 2 (.loop (.seq (.seq (.ops [ ⟨some 49,none,.mv (.t 0)⟩, ⟨some 50,none,.nilCheck (.t 49)⟩, ⟨some 51,none,.faddr 1 (.t 50)⟩, ⟨some 52,none,.load 1 false (.t 51)⟩, ⟨some 53,none,.bin .lss (.t 52) (.c (.int .i64 0))⟩, ⟨some 54,none,.mv (.t 53)⟩, ⟨some 55, some (54, true),.mv (.t 9)⟩, ⟨some 56, some (54, true),.lenL (.t 55)⟩, ⟨some 57, some (54, true),.bin .eql (.t 56) (.c (.int .i64 0))⟩, ⟨some 58, some (54, true),.mv (.t 57)⟩, ⟨some 59, some (58, true),.mv (.t 0)⟩, ⟨some 60, some (58, true),.mv (.t 6)⟩, ⟨some 61, some (58, true),.call c1 [(.t 59),(.t 60),(.c (.str [125]))]⟩, ⟨some 62, some (54, true),.pick (.t 58) (.t 61) (.c (.bool false))⟩, ⟨some 63, some (54, true),.un .not (.t 62)⟩, ⟨some 64,none,.pick (.t 54) (.t 63) (.c (.bool false))⟩] false) (.cond (.t 64) (.skip) (.exit 2))) (.blk 3 (.seq (.ops [ ⟨some 66,none,.mv (.t 0)⟩, ⟨some 67,none,.mv (.t 6)⟩, ⟨some 68,none,.build [(.int .i64 0),(.int .i64 0),(.int .i64 0),(.str []),(.int .i64 0),(.sl true 6 [])] [(0,1,(.c (.int .i64 33))),(1,1,(.t 67))]⟩, ⟨some 69,none,.mv (.t 6)⟩, ⟨some 70,none,.call c2 [(.t 66),(.t 68),(.t 69)]⟩, ⟨some 65,none,.mv (.t 70)⟩, ⟨some 71,none,.ext (.t 65) 0⟩, ⟨some 72,none,.ext (.t 65) 1⟩, ⟨some 10,none,.alloc t1 [(.int .i64 0),(.int .i64 0),(.int .i64 0),(.str []),(.int .i64 0),(.sl true 6 [])]⟩, ⟨none,none,.store 6 (.t 10) (.t 71)⟩, ⟨some 11,none,.mv (.t 72)⟩] false) (.seq (.ops [ ⟨some 73,none,.mv (.t 0)⟩, ⟨some 74,none,.mv (.t 11)⟩, ⟨some 75,none,.call c3 [(.t 73),(.t 74),(.c (.str [58]))]⟩, ⟨some 11,none,.mv (.t 75)⟩] false) (.seq (.ops [ ⟨some 77,none,.mv (.t 0)⟩, ⟨some 78,none,.mv (.t 11)⟩, ⟨some 79,none,.call c4 [(.t 77),(.t 78)]⟩, ⟨some 76,none,.mv (.t 79)⟩, ⟨some 80,none,.ext (.t 76) 0⟩, ⟨some 81,none,.ext (.t 76) 1⟩, ⟨some 12,none,.alloc t1 [(.int .i64 0),(.int .i64 0),(.int .i64 0),(.str []),(.int .i64 0),(.sl true 6 [])]⟩, ⟨none,none,.store 6 (.t 12) (.t 80)⟩, ⟨some 11,none,.mv (.t 81)⟩] false) (.seq (.ops [ ⟨some 82,none,.mv (.t 11)⟩, ⟨some 6,none,.mv (.t 82)⟩] false) (.seq (.ops [ ⟨some 83,none,.mv (.t 9)⟩, ⟨some 84,none,.load 6 true (.t 10)⟩, ⟨some 85,none,.mv (.t 6)⟩, ⟨some 86,none,.load 6 true (.t 12)⟩, ⟨some 87,none,.bslice 6 [(.t 86)]⟩, ⟨some 88,none,.call c5 [(.t 84),(.t 85),(.t 87)]⟩, ⟨some 89,none,.bslice 6 [(.t 88)]⟩, ⟨some 90,none,.app 6 72 t1 (.t 83) (.t 89)⟩, ⟨some 9,none,.mv (.t 90)⟩] false) (.seq (.seq (.ops [ ⟨some 91,none,.mv (.t 0)⟩, ⟨some 92,none,.nilCheck (.t 91)⟩, ⟨some 93,none,.faddr 1 (.t 92)⟩, ⟨some 94,none,.load 1 false (.t 93)⟩, ⟨some 95,none,.bin .geq (.t 94) (.c (.int .i64 0))⟩, ⟨some 96,none,.mv (.t 95)⟩, ⟨some 97, some (96, false),.mv (.t 0)⟩, ⟨some 98, some (96, false),.mv (.t 6)⟩, ⟨some 99, some (96, false),.call c1 [(.t 97),(.t 98),(.c (.str [125]))]⟩, ⟨some 100,none,.pick (.t 96) (.c (.bool true)) (.t 99)⟩] false) (.cond (.t 100) (.exit 2) (.skip))) (.ops [ ⟨some 101,none,.mv (.t 0)⟩, ⟨some 102,none,.mv (.t 6)⟩, ⟨some 103,none,.call c3 [(.t 101),(.t 102),(.c (.str [44]))]⟩, ⟨some 6,none,.mv (.t 103)⟩] false))))))))))) (.seq (.ops [ ⟨some 104,none,.mv (.t 0)⟩, ⟨some 105,none,.mv (.t 6)⟩, ⟨some 106,none,.call c3 [(.t 104),(.t 105),(.c (.str [125]))]⟩, ⟨some 6,none,.mv (.t 106)⟩] false) (.seq (.ops [ ⟨some 107,none,.mv (.t 1)⟩, ⟨some 108,none,.build [(.int .i64 0),(.int .i64 0),(.int .i64 0),(.str []),(.int .i64 0),(.sl true 6 [])] [(0,1,(.c (.int .i64 32))),(1,1,(.t 107))]⟩, ⟨some 109,none,.mv (.t 6)⟩, ⟨some 110,none,.mv (.t 9)⟩, ⟨some 111,none,.call c5 [(.t 108),(.t 109),(.t 110)]⟩, ⟨some 112,none,.mv (.t 6)⟩, ⟨none,none,.store 6 (.t 4) (.t 111)⟩, ⟨some 5,none,.mv (.t 112)⟩] false) (.ret))))) (.skip))) (.seq (.ops [ ⟨some 113,none,.mv (.t 0)⟩, ⟨some 114,none,.mv (.t 6)⟩, ⟨some 115,none,.call c3 [(.t 113),(.t 114),(.c (.str [102,110]))]⟩, ⟨some 6,none,.mv (.t 115)⟩] false) (.seq (.ops [ ⟨some 116,none,.mv (.t 0)⟩, ⟨some 117,none,.mv (.t 6)⟩, ⟨some 118,none,.call c3 [(.t 116),(.t 117),(.c (.str [40]))]⟩, ⟨some 6,none,.mv (.t 118)⟩] false) (.seq (.blk 4 (.loop (.seq (.seq (.ops [ ⟨some 119,none,.mv (.t 0)⟩, ⟨some 120,none,.nilCheck (.t 119)⟩, ⟨some 121,none,.faddr 1 (.t 120)⟩, ⟨some 122,none,.load 1 false (.t 121)⟩, ⟨some 123,none,.bin .lss (.t 122) (.c (.int .i64 0))⟩, ⟨some 124,none,.mv (.t 123)⟩, ⟨some 125, some (124, true),.mv (.t 9)⟩, ⟨some 126, some (124, true),.lenL (.t 125)⟩, ⟨some 127, some (124, true),.bin .eql (.t 126) (.c (.int .i64 0))⟩, ⟨some 128, some (124, true),.mv (.t 127)⟩, ⟨some 129, some (128, true),.mv (.t 0)⟩, ⟨some 130, some (128, true),.mv (.t 6)⟩, ⟨some 131, some (128, true),.call c1 [(.t 129),(.t 130),(.c (.str [41]))]⟩, ⟨some 132, some (124, true),.pick (.t 128) (.t 131) (.c (.bool false))⟩, ⟨some 133, some (124, true),.un .not (.t 132)⟩, ⟨some 134,none,.pick (.t 124) (.t 133) (.c (.bool false))⟩] false) (.cond (.t 134) (.skip) (.exit 4))) (.blk 5 (.seq (.ops [ ⟨some 136,none,.mv (.t 0)⟩, ⟨some 137,none,.mv (.t 6)⟩, ⟨some 138,none,.call c4 [(.t 136),(.t 137)]⟩, ⟨some 135,none,.mv (.t 138)⟩, ⟨some 139,none,.ext (.t 135) 0⟩, ⟨some 140,none,.ext (.t 135) 1⟩, ⟨some 13,none,.alloc t1 [(.int .i64 0),(.int .i64 0),(.int .i64 0),(.str []),(.int .i64 0),(.sl true 6 [])]⟩, ⟨none,none,.store 6 (.t 13) (.t 139)⟩, ⟨some 14,none,.mv (.t 140)⟩] false) (.seq (.ops [ ⟨some 141,none,.mv (.t 14)⟩, ⟨some 6,none,.mv (.t 141)⟩] false) (.seq (.ops [ ⟨some 142,none,.mv (.t 9)⟩, ⟨some 143,none,.load 6 true (.t 13)⟩, ⟨some 144,none,.bslice 6 [(.t 143)]⟩, ⟨some 145,none,.app 6 72 t1 (.t 142) (.t 144)⟩, ⟨some 9,none,.mv (.t 145)⟩] false) (.seq (.seq (.ops [ ⟨some 146,none,.mv (.t 0)⟩, ⟨some 147,none,.nilCheck (.t 146)⟩, ⟨some 148,none,.faddr 1 (.t 147)⟩, ⟨some 149,none,.load 1 false (.t 148)⟩, ⟨some 150,none,.bin .geq (.t 149) (.c (.int .i64 0))⟩, ⟨some 151,none,.mv (.t 150)⟩, ⟨some 152, some (151, false),.mv (.t 0)⟩, ⟨some 153, some (151, false),.mv (.t 6)⟩, ⟨some 154, some (151, false),.call c1 [(.t 152),(.t 153),(.c (.str [41]))]⟩, ⟨some 155,none,.pick (.t 151) (.c (.bool true)) (.t 154)⟩] false) (.cond (.t 155) (.exit 4) (.skip))) (.ops [ ⟨some 156,none,.mv (.t 0)⟩, ⟨some 157,none,.mv (.t 6)⟩, ⟨some 158,none,.call c3 [(.t 156),(.t 157),(.c (.str [44]))]⟩, ⟨some 6,none,.mv (.t 158)⟩] false))))))))) (.seq (.ops [ ⟨some 159,none,.mv (.t 0)⟩, ⟨some 160,none,.mv (.t 6)⟩, ⟨some 161,none,.call c3 [(.t 159),(.t 160),(.c (.str [41]))]⟩, ⟨some 6,none,.mv (.t 161)⟩] false) (.seq (.ops [ ⟨some 162,none,.mv (.t 0)⟩, ⟨some 163,none,.mv (.t 6)⟩, ⟨some 164,none,.call c3 [(.t 162),(.t 163),(.c (.str [58]))]⟩, ⟨some 6,none,.mv (.t 164)⟩] false) (.seq (.ops [ ⟨some 166,none,.mv (.t 0)⟩, ⟨some 167,none,.mv (.t 6)⟩, ⟨some 168,none,.call c4 [(.t 166),(.t 167)]⟩, ⟨some 165,none,.mv (.t 168)⟩, ⟨some 169,none,.ext (.t 165) 0⟩, ⟨some 170,none,.ext (.t 165) 1⟩, ⟨some 15,none,.alloc t1 [(.int .i64 0),(.int .i64 0),(.int .i64 0),(.str []),(.int .i64 0),(.sl true 6 [])]⟩, ⟨none,none,.store 6 (.t 15) (.t 169)⟩, ⟨some 6,none,.mv (.t 170)⟩] false) (.seq (.ops [ ⟨some 171,none,.mv (.t 1)⟩, ⟨some 172,none,.build [(.int .i64 0),(.int .i64 0),(.int .i64 0),(.str []),(.int .i64 0),(.sl true 6 [])] [(0,1,(.c (.int .i64 34))),(1,1,(.t 171))]⟩, ⟨some 173,none,.mv (.t 6)⟩, ⟨some 174,none,.mv (.t 9)⟩, ⟨some 175,none,.load 6 true (.t 15)⟩, ⟨some 176,none,.bslice 6 [(.t 175)]⟩, ⟨some 177,none,.app 6 72 t1 (.t 174) (.t 176)⟩, ⟨some 178,none,.call c5 [(.t 172),(.t 173),(.t 177)]⟩, ⟨some 179,none,.mv (.t 6)⟩, ⟨none,none,.store 6 (.t 4) (.t 178)⟩, ⟨some 5,none,.mv (.t 179)⟩] false) (.ret))))))))))))))) }
def irR6Depth (c1 t1 : Nat) : IFn := { nt := 25, res := [.t 2], body := ( .seq (.ops [ ⟨some 1,none,.box t1 6 (.t 0)⟩, ⟨some 2,none,.mv (.c (.int .i64 0))⟩] false) (.seq (.ops [ ⟨some 3,none,.mv (.c (.int .i64 1))⟩] false) (.seq (.seq (.ops [ ⟨some 4,none,.mv (.c (.int .i64 0))⟩] false) (.blk 0 (.loop (.seq (.seq (.ops [ ⟨some 6,none,.mv (.t 4)⟩, ⟨some 7,none,.faddr 5 (.t 1)⟩, ⟨some 8,none,.load 1 false (.t 7)⟩, ⟨some 9,none,.lenL (.t 8)⟩, ⟨some 10,none,.bin .lss (.t 6) (.t 9)⟩] false) (.cond (.t 10) (.skip) (.exit 0))) (.seq (.blk 1 (.seq (.ops [ ⟨some 13,none,.faddr 5 (.t 1)⟩, ⟨some 14,none,.load 1 false (.t 13)⟩, ⟨some 15,none,.mv (.t 4)⟩, ⟨some 16,none,.iaddr 6 (.t 14) (.t 15)⟩, ⟨some 17,none,.load 6 true (.t 16)⟩, ⟨some 18,none,.call c1 [(.t 17)]⟩, ⟨some 19,none,.bin .add (.t 18) (.c (.int .i64 1))⟩, ⟨some 5,none,.mv (.t 19)⟩] false) (.seq (.ops [ ⟨some 20,none,.mv (.t 5)⟩, ⟨some 21,none,.mv (.t 3)⟩, ⟨some 22,none,.bin .gtr (.t 20) (.t 21)⟩] false) (.cond (.t 22) (.ops [ ⟨some 23,none,.mv (.t 5)⟩, ⟨some 3,none,.mv (.t 23)⟩] false) (.skip))))) (.ops [ ⟨some 11,none,.mv (.t 4)⟩, ⟨some 12,none,.bin .add (.t 11) (.c (.int .i64 1))⟩, ⟨some 4,none,.mv (.t 12)⟩] false)))))) (.seq (.ops [ ⟨some 24,none,.mv (.t 3)⟩, ⟨some 2,none,.mv (.t 24)⟩] false) (.ret))))) }
def irR7File (c1 c2 c3 c4 t1 : Nat) : IFn := { nt := 45, res := [.cell 2 6 true], body := ( .seq (.ops [ ⟨some 2,none,.alloc t1 [(.int .i64 0),(.int .i64 0),(.int .i64 0),(.str []),(.int .i64 0),(.sl true 6 [])]⟩] false) (.seq (.ops [ ⟨some 3,none,.mv (.c (.int .i64 0))⟩] false) (.seq (.ops [ ⟨some 4,none,.nilT 6 t1⟩] false) (.seq (.blk 0 (.loop (.seq (.seq (.ops [ ⟨some 6,none,.mv (.t 0)⟩, ⟨some 7,none,.nilCheck (.t 6)⟩, ⟨some 8,none,.faddr 1 (.t 7)⟩, ⟨some 9,none,.load 1 false (.t 8)⟩, ⟨some 10,none,.bin .lss (.t 9) (.c (.int .i64 0))⟩, ⟨some 11,none,.mv (.t 10)⟩, ⟨some 12, some (11, true),.mv (.t 0)⟩, ⟨some 13, some (11, true),.nilCheck (.t 12)⟩, ⟨some 14, some (11, true),.faddr 0 (.t 13)⟩, ⟨some 15, some (11, true),.load 1 false (.t 14)⟩, ⟨some 16, some (11, true),.mv (.t 3)⟩, ⟨some 17, some (11, true),.iaddr 4 (.t 15) (.t 16)⟩, ⟨some 18, some (11, true),.faddr 0 (.t 17)⟩, ⟨some 19, some (11, true),.load 1 false (.t 18)⟩, ⟨some 20, some (11, true),.bin .neq (.t 19) (.c (.int .i64 0))⟩, ⟨some 21,none,.pick (.t 11) (.t 20) (.c (.bool false))⟩] false) (.cond (.t 21) (.skip) (.exit 0))) (.blk 1 (.seq (.ops [ ⟨some 5,none,.alloc t1 [(.int .i64 0),(.int .i64 0),(.int .i64 0),(.str []),(.int .i64 0),(.sl true 6 [])]⟩] false) (.seq (.seq (.ops [ ⟨some 22,none,.mv (.t 0)⟩, ⟨some 23,none,.mv (.t 3)⟩, ⟨some 24,none,.call c1 [(.t 22),(.t 23),(.c (.str [117,115,101]))]⟩] false) (.cond (.t 24) (.ops [ ⟨some 26,none,.mv (.t 0)⟩, ⟨some 27,none,.mv (.t 3)⟩, ⟨some 28,none,.call c2 [(.t 26),(.t 27)]⟩, ⟨some 25,none,.mv (.t 28)⟩, ⟨some 29,none,.ext (.t 25) 0⟩, ⟨some 30,none,.ext (.t 25) 1⟩, ⟨none,none,.store 6 (.t 5) (.t 29)⟩, ⟨some 3,none,.mv (.t 30)⟩] false) (.ops [ ⟨some 32,none,.mv (.t 0)⟩, ⟨some 33,none,.mv (.t 3)⟩, ⟨some 34,none,.call c3 [(.t 32),(.t 33)]⟩, ⟨some 31,none,.mv (.t 34)⟩, ⟨some 35,none,.ext (.t 31) 0⟩, ⟨some 36,none,.ext (.t 31) 1⟩, ⟨none,none,.store 6 (.t 5) (.t 35)⟩, ⟨some 3,none,.mv (.t 36)⟩] false))) (.ops [ ⟨some 37,none,.mv (.t 4)⟩, ⟨some 38,none,.load 6 true (.t 5)⟩, ⟨some 39,none,.bslice 6 [(.t 38)]⟩, ⟨some 40,none,.app 6 72 t1 (.t 37) (.t 39)⟩, ⟨some 4,none,.mv (.t 40)⟩] false))))))) (.seq (.ops [ ⟨some 41,none,.build [(.int .i64 0),(.int .i64 0),(.int .i64 0),(.str []),(.int .i64 0),(.sl true 6 [])] [(0,1,(.c (.int .i64 1)))]⟩, ⟨some 42,none,.mv (.t 3)⟩, ⟨some 43,none,.mv (.t 4)⟩, ⟨some 44,none,.call c4 [(.t 41),(.t 42),(.t 43)]⟩, ⟨none,none,.store 6 (.t 2) (.t 44)⟩] false) (.ret)))))) }
def irR7Is (t1 : Nat) : IFn := { nt := 29, res := [.t 6], body := ( .seq (.ops [ ⟨some 6,none,.mv (.c (.bool false))⟩] false) (.seq (.ops [ ⟨some 8,none,.mv (.t 0)⟩, ⟨some 9,none,.nilCheck (.t 8)⟩, ⟨some 10,none,.faddr 0 (.t 9)⟩, ⟨some 11,none,.load 1 false (.t 10)⟩, ⟨some 12,none,.mv (.t 1)⟩, ⟨some 13,none,.iaddr 4 (.t 11) (.t 12)⟩, ⟨some 14,none,.load 4 true (.t 13)⟩, ⟨some 7,none,.alloc t1 [(.int .i64 0),(.int .i64 0),(.str []),(.str [])]⟩, ⟨none,none,.store 4 (.t 7) (.t 14)⟩] false) (.seq (.ops [ ⟨some 15,none,.faddr 0 (.t 7)⟩, ⟨some 16,none,.load 1 false (.t 15)⟩, ⟨some 17,none,.bin .eql (.t 16) (.c (.int .i64 2))⟩, ⟨some 18,none,.mv (.t 17)⟩, ⟨some 19, some (18, false),.faddr 0 (.t 7)⟩, ⟨some 20, some (18, false),.load 1 false (.t 19)⟩, ⟨some 21, some (18, false),.bin .eql (.t 20) (.c (.int .i64 5))⟩, ⟨some 22,none,.pick (.t 18) (.c (.bool true)) (.t 21)⟩, ⟨some 23,none,.mv (.t 22)⟩, ⟨some 24, some (23, true),.faddr 3 (.t 7)⟩, ⟨some 25, some (23, true),.load 1 false (.t 24)⟩, ⟨some 26, some (23, true),.mv (.t 2)⟩, ⟨some 27, some (23, true),.bin .eql (.t 25) (.t 26)⟩, ⟨some 28,none,.pick (.t 23) (.t 27) (.c (.bool false))⟩, ⟨some 6,none,.mv (.t 28)⟩] false) (.ret)))) }
def irR7Word (t1 : Nat) : IFn := { nt := 49, res := [.cell 6 6 true,.t 7], body := ( .seq (.ops [ ⟨some 4,none,.box t1 6 (.t 1)⟩, ⟨some 6,none,.alloc t1 [(.int .i64 0),(.int .i64 0),(.int .i64 0),(.str []),(.int .i64 0),(.sl true 6 [])]⟩, ⟨some 7,none,.mv (.c (.int .i64 0))⟩] false) (.seq (.seq (.ops [ ⟨some 8,none,.mv (.t 0)⟩, ⟨some 9,none,.nilCheck (.t 8)⟩, ⟨some 10,none,.faddr 1 (.t 9)⟩, ⟨some 11,none,.load 1 false (.t 10)⟩, ⟨some 12,none,.bin .lss (.t 11) (.c (.int .i64 0))⟩, ⟨some 13,none,.mv (.t 12)⟩, ⟨some 14, some (13, true),.mv (.t 0)⟩, ⟨some 15, some (13, true),.nilCheck (.t 14)⟩, ⟨some 16, some (13, true),.faddr 0 (.t 15)⟩, ⟨some 17, some (13, true),.load 1 false (.t 16)⟩, ⟨some 18, some (13, true),.mv (.t 2)⟩, ⟨some 19, some (13, true),.iaddr 4 (.t 17) (.t 18)⟩, ⟨some 20, some (13, true),.faddr 0 (.t 19)⟩, ⟨some 21, some (13, true),.load 1 false (.t 20)⟩, ⟨some 22, some (13, true),.bin .neq (.t 21) (.c (.int .i64 1))⟩, ⟨some 23,none,.pick (.t 13) (.t 22) (.c (.bool false))⟩] false) (.cond (.t 23) (.ops [ ⟨some 24,none,.mv (.t 0)⟩, ⟨some 25,none,.mv (.t 2)⟩, ⟨some 26,none,.nilCheck (.t 24)⟩, ⟨some 27,none,.faddr 1 (.t 26)⟩, ⟨none,none,.store 1 (.t 27) (.t 25)⟩] false) (.skip))) (.seq (.seq (.ops [ ⟨some 28,none,.mv (.t 0)⟩, ⟨some 29,none,.nilCheck (.t 28)⟩, ⟨some 30,none,.faddr 1 (.t 29)⟩, ⟨some 31,none,.load 1 false (.t 30)⟩, ⟨some 32,none,.bin .geq (.t 31) (.c (.int .i64 0))⟩] false) (.cond (.t 32) (.seq (.ops [ ⟨some 33,none,.load 6 true (.t 4)⟩, ⟨some 34,none,.mv (.t 2)⟩, ⟨none,none,.store 6 (.t 6) (.t 33)⟩, ⟨some 7,none,.mv (.t 34)⟩] false) (.ret)) (.skip))) (.seq (.ops [ ⟨some 35,none,.mv (.t 0)⟩, ⟨some 36,none,.nilCheck (.t 35)⟩, ⟨some 37,none,.faddr 0 (.t 36)⟩, ⟨some 38,none,.load 1 false (.t 37)⟩, ⟨some 39,none,.mv (.t 2)⟩, ⟨some 40,none,.iaddr 4 (.t 38) (.t 39)⟩, ⟨some 41,none,.faddr 3 (.t 40)⟩, ⟨some 42,none,.load 1 false (.t 41)⟩, ⟨some 43,none,.faddr 3 (.t 4)⟩, ⟨none,none,.store 1 (.t 43) (.t 42)⟩] false) (.seq (.ops [ ⟨some 44,none,.mv (.t 2)⟩, ⟨some 45,none,.faddr 4 (.t 4)⟩, ⟨none,none,.store 1 (.t 45) (.t 44)⟩] false) (.seq (.ops [ ⟨some 46,none,.load 6 true (.t 4)⟩, ⟨some 47,none,.mv (.t 2)⟩, ⟨some 48,none,.bin .add (.t 47) (.c (.int .i64 1))⟩, ⟨none,none,.store 6 (.t 6) (.t 46)⟩, ⟨some 7,none,.mv (.t 48)⟩] false) (.ret))))))) }
def irR7Want (c1 : Nat) : IFn := { nt := 31, res := [.t 6], body := ( .seq (.ops [ ⟨some 6,none,.mv (.c (.int .i64 0))⟩] false) (.seq (.seq (.ops [ ⟨some 7,none,.mv (.t 0)⟩, ⟨some 8,none,.nilCheck (.t 7)⟩, ⟨some 9,none,.faddr 1 (.t 8)⟩, ⟨some 10,none,.load 1 false (.t 9)⟩, ⟨some 11,none,.bin .lss (.t 10) (.c (.int .i64 0))⟩, ⟨some 12,none,.mv (.t 11)⟩, ⟨some 13, some (12, true),.mv (.t 0)⟩, ⟨some 14, some (12, true),.mv (.t 1)⟩, ⟨some 15, some (12, true),.mv (.t 2)⟩, ⟨some 16, some (12, true),.call c1 [(.t 13),(.t 14),(.t 15)]⟩, ⟨some 17, some (12, true),.un .not (.t 16)⟩, ⟨some 18,none,.pick (.t 12) (.t 17) (.c (.bool false))⟩] false) (.cond (.t 18) (.ops [ ⟨some 19,none,.mv (.t 0)⟩, ⟨some 20,none,.mv (.t 1)⟩, ⟨some 21,none,.nilCheck (.t 19)⟩, ⟨some 22,none,.faddr 1 (.t 21)⟩, ⟨none,none,.store 1 (.t 22) (.t 20)⟩] false) (.skip))) (.seq (.seq (.ops [ ⟨some 23,none,.mv (.t 0)⟩, ⟨some 24,none,.nilCheck (.t 23)⟩, ⟨some 25,none,.faddr 1 (.t 24)⟩, ⟨some 26,none,.load 1 false (.t 25)⟩, ⟨some 27,none,.bin .geq (.t 26) (.c (.int .i64 0))⟩] false) (.cond (.t 27) (.seq (.ops [ ⟨some 28,none,.mv (.t 1)⟩, ⟨some 6,none,.mv (.t 28)⟩] false) (.ret)) (.skip))) (.seq (.ops [ ⟨some 29,none,.mv (.t 1)⟩, ⟨some 30,none,.bin .add (.t 29) (.c (.int .i64 1))⟩, ⟨some 6,none,.mv (.t 30)⟩] false) (.ret))))) }
def irR7Ended (t1 : Nat) : IFn := { nt := 12, res := [.cell 6 6 true], body := ( .seq (.ops [ ⟨some 3,none,.box t1 6 (.t 0)⟩, ⟨some 6,none,.alloc t1 [(.int .i64 0),(.int .i64 0),(.int .i64 0),(.str []),(.int .i64 0),(.sl true 6 [])]⟩] false) (.seq (.ops [ ⟨some 7,none,.mv (.t 1)⟩, ⟨some 8,none,.faddr 2 (.t 3)⟩, ⟨none,none,.store 1 (.t 8) (.t 7)⟩] false) (.seq (.ops [ ⟨some 9,none,.mv (.t 2)⟩, ⟨some 10,none,.faddr 5 (.t 3)⟩, ⟨none,none,.store 1 (.t 10) (.t 9)⟩] false) (.seq (.ops [ ⟨some 11,none,.load 6 true (.t 3)⟩, ⟨none,none,.store 6 (.t 6) (.t 11)⟩] false) (.ret))))) }
def irR7Use (c1 c2 c3 t1 : Nat) : IFn := { nt := 42, res := [.cell 4 6 true,.t 5], body := ( .seq (.ops [ ⟨some 4,none,.alloc t1 [(.int .i64 0),(.int .i64 0),(.int .i64 0),(.str []),(.int .i64 0),(.sl true 6 [])]⟩, ⟨some 5,none,.mv (.c (.int .i64 0))⟩] false) (.seq (.ops [ ⟨some 10,none,.mv (.t 0)⟩, ⟨some 11,none,.mv (.t 1)⟩, ⟨some 12,none,.bin .add (.t 11) (.c (.int .i64 1))⟩, ⟨some 13,none,.build [(.int .i64 0),(.int .i64 0),(.int .i64 0),(.str []),(.int .i64 0),(.sl true 6 [])] [(0,1,(.c (.int .i64 23))),(1,1,(.t 12))]⟩, ⟨some 14,none,.mv (.t 1)⟩, ⟨some 15,none,.bin .add (.t 14) (.c (.int .i64 1))⟩, ⟨some 16,none,.call c1 [(.t 10),(.t 13),(.t 15)]⟩, ⟨some 9,none,.mv (.t 16)⟩, ⟨some 17,none,.ext (.t 9) 0⟩, ⟨some 18,none,.ext (.t 9) 1⟩, ⟨some 6,none,.alloc t1 [(.int .i64 0),(.int .i64 0),(.int .i64 0),(.str []),(.int .i64 0),(.sl true 6 [])]⟩, ⟨none,none,.store 6 (.t 6) (.t 17)⟩, ⟨some 7,none,.mv (.t 18)⟩] false) (.seq (.ops [ ⟨some 19,none,.mv (.t 7)⟩, ⟨some 20,none,.faddr 2 (.t 6)⟩, ⟨none,none,.store 1 (.t 20) (.t 19)⟩] false) (.seq (.ops [ ⟨some 21,none,.mv (.t 1)⟩, ⟨some 22,none,.build [(.int .i64 0),(.int .i64 0),(.int .i64 0),(.str []),(.int .i64 0),(.sl true 6 [])] [(0,1,(.c (.int .i64 2))),(1,1,(.t 21))]⟩, ⟨some 8,none,.alloc t1 [(.int .i64 0),(.int .i64 0),(.int .i64 0),(.str []),(.int .i64 0),(.sl true 6 [])]⟩, ⟨none,none,.store 6 (.t 8) (.t 22)⟩] false) (.seq (.ops [ ⟨some 23,none,.mv (.t 0)⟩, ⟨some 24,none,.mv (.t 7)⟩, ⟨some 25,none,.call c2 [(.t 23),(.t 24),(.c (.str [46]))]⟩, ⟨some 7,none,.mv (.t 25)⟩] false) (.seq (.ops [ ⟨some 27,none,.mv (.t 0)⟩, ⟨some 28,none,.load 6 true (.t 8)⟩, ⟨some 29,none,.mv (.t 7)⟩, ⟨some 30,none,.call c1 [(.t 27),(.t 28),(.t 29)]⟩, ⟨some 26,none,.mv (.t 30)⟩, ⟨some 31,none,.ext (.t 26) 0⟩, ⟨some 32,none,.ext (.t 26) 1⟩, ⟨none,none,.store 6 (.t 8) (.t 31)⟩, ⟨some 7,none,.mv (.t 32)⟩] false) (.seq (.ops [ ⟨some 33,none,.mv (.t 0)⟩, ⟨some 34,none,.mv (.t 7)⟩, ⟨some 35,none,.call c2 [(.t 33),(.t 34),(.c (.str [59]))]⟩, ⟨some 7,none,.mv (.t 35)⟩] false) (.seq (.ops [ ⟨some 36,none,.load 6 true (.t 8)⟩, ⟨some 37,none,.mv (.t 7)⟩, ⟨some 38,none,.load 6 true (.t 6)⟩, ⟨some 39,none,.bslice 6 [(.t 38)]⟩, ⟨some 40,none,.call c3 [(.t 36),(.t 37),(.t 39)]⟩, ⟨some 41,none,.mv (.t 7)⟩, ⟨none,none,.store 6 (.t 4) (.t 40)⟩, ⟨some 5,none,.mv (.t 41)⟩] false) (.ret))))))))) }
def irR7Def (c1 c2 c3 c4 t1 : Nat) : IFn := { nt := 31, res := [.cell 4 6 true,.t 5], body := ( .seq (.ops [ ⟨some 4,none,.alloc t1 [(.int .i64 0),(.int .i64 0),(.int .i64 0),(.str []),(.int .i64 0),(.sl true 6 [])]⟩, ⟨some 5,none,.mv (.c (.int .i64 0))⟩] false) (.seq (.ops [ ⟨some 9,none,.mv (.t 0)⟩, ⟨some 10,none,.mv (.t 1)⟩, ⟨some 11,none,.call c1 [(.t 9),(.t 10),(.c (.str [100,101,102]))]⟩, ⟨some 6,none,.mv (.t 11)⟩] false) (.seq (.ops [ ⟨some 13,none,.mv (.t 0)⟩, ⟨some 14,none,.mv (.t 1)⟩, ⟨some 15,none,.build [(.int .i64 0),(.int .i64 0),(.int .i64 0),(.str []),(.int .i64 0),(.sl true 6 [])] [(0,1,(.c (.int .i64 3))),(1,1,(.t 14))]⟩, ⟨some 16,none,.mv (.t 6)⟩, ⟨some 17,none,.call c2 [(.t 13),(.t 15),(.t 16)]⟩, ⟨some 12,none,.mv (.t 17)⟩, ⟨some 18,none,.ext (.t 12) 0⟩, ⟨some 19,none,.ext (.t 12) 1⟩, ⟨some 7,none,.alloc t1 [(.int .i64 0),(.int .i64 0),(.int .i64 0),(.str []),(.int .i64 0),(.sl true 6 [])]⟩, ⟨none,none,.store 6 (.t 7) (.t 18)⟩, ⟨some 6,none,.mv (.t 19)⟩] false) (.seq (.ops [ ⟨some 21,none,.mv (.t 0)⟩, ⟨some 22,none,.mv (.t 6)⟩, ⟨some 23,none,.call c3 [(.t 21),(.t 22)]⟩, ⟨some 20,none,.mv (.t 23)⟩, ⟨some 24,none,.ext (.t 20) 0⟩, ⟨some 25,none,.ext (.t 20) 1⟩, ⟨some 8,none,.mv (.t 24)⟩, ⟨some 6,none,.mv (.t 25)⟩] false) (.seq (.ops [ ⟨some 26,none,.load 6 true (.t 7)⟩, ⟨some 27,none,.mv (.t 6)⟩, ⟨some 28,none,.mv (.t 8)⟩, ⟨some 29,none,.call c4 [(.t 26),(.t 27),(.t 28)]⟩, ⟨some 30,none,.mv (.t 6)⟩, ⟨none,none,.store 6 (.t 4) (.t 29)⟩, ⟨some 5,none,.mv (.t 30)⟩] false) (.ret)))))) }
def irR7Lambda (c1 c2 c3 t1 : Nat) : IFn := { nt := 32, res := [.t 4,.t 5], body := ( .seq (.ops [ ⟨some 4,none,.mv (.c (.sl true 6 []))⟩, ⟨some 5,none,.mv (.c (.int .i64 0))⟩] false) (.seq (.ops [ ⟨some 10,none,.mv (.t 0)⟩, ⟨some 11,none,.mv (.t 1)⟩, ⟨some 12,none,.call c1 [(.t 10),(.t 11)]⟩, ⟨some 9,none,.mv (.t 12)⟩, ⟨some 13,none,.ext (.t 9) 0⟩, ⟨some 14,none,.ext (.t 9) 1⟩, ⟨some 6,none,.alloc t1 [(.int .i64 0),(.int .i64 0),(.int .i64 0),(.str []),(.int .i64 0),(.sl true 6 [])]⟩, ⟨none,none,.store 6 (.t 6) (.t 13)⟩, ⟨some 1,none,.mv (.t 14)⟩] false) (.seq (.ops [ ⟨some 16,none,.mv (.t 0)⟩, ⟨some 17,none,.mv (.t 1)⟩, ⟨some 18,none,.call c2 [(.t 16),(.t 17)]⟩, ⟨some 15,none,.mv (.t 18)⟩, ⟨some 19,none,.ext (.t 15) 0⟩, ⟨some 20,none,.ext (.t 15) 1⟩, ⟨some 7,none,.alloc t1 [(.int .i64 0),(.int .i64 0),(.int .i64 0),(.str []),(.int .i64 0),(.sl true 6 [])]⟩, ⟨none,none,.store 6 (.t 7) (.t 19)⟩, ⟨some 1,none,.mv (.t 20)⟩] false) (.seq (.ops [ ⟨some 22,none,.mv (.t 0)⟩, ⟨some 23,none,.mv (.t 1)⟩, ⟨some 24,none,.call c3 [(.t 22),(.t 23)]⟩, ⟨some 21,none,.mv (.t 24)⟩, ⟨some 25,none,.ext (.t 21) 0⟩, ⟨some 26,none,.ext (.t 21) 1⟩, ⟨some 8,none,.alloc t1 [(.int .i64 0),(.int .i64 0),(.int .i64 0),(.str []),(.int .i64 0),(.sl true 6 [])]⟩, ⟨none,none,.store 6 (.t 8) (.t 25)⟩, ⟨some 1,none,.mv (.t 26)⟩] false) (.seq (.ops [ ⟨some 27,none,.load 6 true (.t 6)⟩, ⟨some 28,none,.load 6 true (.t 7)⟩, ⟨some 29,none,.load 6 true (.t 8)⟩, ⟨some 30,none,.bslice 6 [(.t 27),(.t 28),(.t 29)]⟩, ⟨some 31,none,.mv (.t 1)⟩, ⟨some 4,none,.mv (.t 30)⟩, ⟨some 5,none,.mv (.t 31)⟩] false) (.ret)))))) }
def irR7Params (c1 c2 c3 c4 c5 t1 : Nat) : IFn := { nt := 75, res := [.cell 4 6 true,.t 5], body := ( .seq (.ops [ ⟨some 4,none,.alloc t1 [(.int .i64 0),(.int .i64 0),(.int .i64 0),(.str []),(.int .i64 0),(.sl true 6 [])]⟩, ⟨some 5,none,.mv (.c (.int .i64 0))⟩] false) (.seq (.ops [ ⟨some 11,none,.mv (.t 0)⟩, ⟨some 12,none,.mv (.t 1)⟩, ⟨some 13,none,.call c1 [(.t 11),(.t 12),(.c (.str [40]))]⟩, ⟨some 6,none,.mv (.t 13)⟩] false) (.seq (.ops [ ⟨some 7,none,.nilT 6 t1⟩] false) (.seq (.blk 0 (.loop (.seq (.seq (.ops [ ⟨some 14,none,.mv (.t 0)⟩, ⟨some 15,none,.nilCheck (.t 14)⟩, ⟨some 16,none,.faddr 1 (.t 15)⟩, ⟨some 17,none,.load 1 false (.t 16)⟩, ⟨some 18,none,.bin .lss (.t 17) (.c (.int .i64 0))⟩, ⟨some 19,none,.mv (.t 18)⟩, ⟨some 20, some (19, true),.mv (.t 7)⟩, ⟨some 21, some (19, true),.lenL (.t 20)⟩, ⟨some 22, some (19, true),.bin .eql (.t 21) (.c (.int .i64 0))⟩, ⟨some 23, some (19, true),.mv (.t 22)⟩, ⟨some 24, some (23, true),.mv (.t 0)⟩, ⟨some 25, some (23, true),.mv (.t 6)⟩, ⟨some 26, some (23, true),.call c2 [(.t 24),(.t 25),(.c (.str [41]))]⟩, ⟨some 27, some (19, true),.pick (.t 23) (.t 26) (.c (.bool false))⟩, ⟨some 28, some (19, true),.un .not (.t 27)⟩, ⟨some 29,none,.pick (.t 19) (.t 28) (.c (.bool false))⟩] false) (.cond (.t 29) (.skip) (.exit 0))) (.blk 1 (.seq (.ops [ ⟨some 31,none,.mv (.t 0)⟩, ⟨some 32,none,.mv (.t 6)⟩, ⟨some 33,none,.build [(.int .i64 0),(.int .i64 0),(.int .i64 0),(.str []),(.int .i64 0),(.sl true 6 [])] [(0,1,(.c (.int .i64 5))),(1,1,(.t 32))]⟩, ⟨some 34,none,.mv (.t 6)⟩, ⟨some 35,none,.call c3 [(.t 31),(.t 33),(.t 34)]⟩, ⟨some 30,none,.mv (.t 35)⟩, ⟨some 36,none,.ext (.t 30) 0⟩, ⟨some 37,none,.ext (.t 30) 1⟩, ⟨some 8,none,.alloc t1 [(.int .i64 0),(.int .i64 0),(.int .i64 0),(.str []),(.int .i64 0),(.sl true 6 [])]⟩, ⟨none,none,.store 6 (.t 8) (.t 36)⟩, ⟨some 9,none,.mv (.t 37)⟩] false) (.seq (.ops [ ⟨some 39,none,.mv (.t 0)⟩, ⟨some 40,none,.mv (.t 9)⟩, ⟨some 41,none,.call c4 [(.t 39),(.t 40)]⟩, ⟨some 38,none,.mv (.t 41)⟩, ⟨some 42,none,.ext (.t 38) 0⟩, ⟨some 43,none,.ext (.t 38) 1⟩, ⟨some 10,none,.alloc t1 [(.int .i64 0),(.int .i64 0),(.int .i64 0),(.str []),(.int .i64 0),(.sl true 6 [])]⟩, ⟨none,none,.store 6 (.t 10) (.t 42)⟩, ⟨some 9,none,.mv (.t 43)⟩] false) (.seq (.ops [ ⟨some 44,none,.mv (.t 9)⟩, ⟨some 6,none,.mv (.t 44)⟩] false) (.seq (.ops [ ⟨some 45,none,.mv (.t 7)⟩, ⟨some 46,none,.load 6 true (.t 8)⟩, ⟨some 47,none,.mv (.t 6)⟩, ⟨some 48,none,.load 6 true (.t 10)⟩, ⟨some 49,none,.bslice 6 [(.t 48)]⟩, ⟨some 50,none,.call c5 [(.t 46),(.t 47),(.t 49)]⟩, ⟨some 51,none,.bslice 6 [(.t 50)]⟩, ⟨some 52,none,.app 6 72 t1 (.t 45) (.t 51)⟩, ⟨some 7,none,.mv (.t 52)⟩] false) (.seq (.seq (.ops [ ⟨some 53,none,.mv (.t 0)⟩, ⟨some 54,none,.nilCheck (.t 53)⟩, ⟨some 55,none,.faddr 1 (.t 54)⟩, ⟨some 56,none,.load 1 false (.t 55)⟩, ⟨some 57,none,.bin .geq (.t 56) (.c (.int .i64 0))⟩, ⟨some 58,none,.mv (.t 57)⟩, ⟨some 59, some (58, false),.mv (.t 0)⟩, ⟨some 60, some (58, false),.mv (.t 6)⟩, ⟨some 61, some (58, false),.call c2 [(.t 59),(.t 60),(.c (.str [41]))]⟩, ⟨some 62,none,.pick (.t 58) (.c (.bool true)) (.t 61)⟩] false) (.cond (.t 62) (.exit 0) (.skip))) (.ops [ ⟨some 63,none,.mv (.t 0)⟩, ⟨some 64,none,.mv (.t 6)⟩, ⟨some 65,none,.call c1 [(.t 63),(.t 64),(.c (.str [44]))]⟩, ⟨some 6,none,.mv (.t 65)⟩] false)))))))))) (.seq (.ops [ ⟨some 66,none,.mv (.t 0)⟩, ⟨some 67,none,.mv (.t 6)⟩, ⟨some 68,none,.call c1 [(.t 66),(.t 67),(.c (.str [41]))]⟩, ⟨some 6,none,.mv (.t 68)⟩] false) (.seq (.ops [ ⟨some 69,none,.mv (.t 1)⟩, ⟨some 70,none,.build [(.int .i64 0),(.int .i64 0),(.int .i64 0),(.str []),(.int .i64 0),(.sl true 6 [])] [(0,1,(.c (.int .i64 4))),(1,1,(.t 69))]⟩, ⟨some 71,none,.mv (.t 6)⟩, ⟨some 72,none,.mv (.t 7)⟩, ⟨some 73,none,.call c5 [(.t 70),(.t 71),(.t 72)]⟩, ⟨some 74,none,.mv (.t 6)⟩, ⟨none,none,.store 6 (.t 4) (.t 73)⟩, ⟨some 5,none,.mv (.t 74)⟩] false) (.ret))))))) }
def irR7Typed (c1 c2 t1 : Nat) : IFn := { nt := 25, res := [.cell 4 6 true,.t 5], body := ( .seq (.ops [ ⟨some 4,none,.alloc t1 [(.int .i64 0),(.int .i64 0),(.int .i64 0),(.str []),(.int .i64 0),(.sl true 6 [])]⟩, ⟨some 5,none,.mv (.c (.int .i64 0))⟩] false) (.seq (.seq (.ops [ ⟨some 6,none,.mv (.t 0)⟩, ⟨some 7,none,.nilCheck (.t 6)⟩, ⟨some 8,none,.faddr 1 (.t 7)⟩, ⟨some 9,none,.load 1 false (.t 8)⟩, ⟨some 10,none,.bin .geq (.t 9) (.c (.int .i64 0))⟩, ⟨some 11,none,.mv (.t 10)⟩, ⟨some 12, some (11, false),.mv (.t 0)⟩, ⟨some 13, some (11, false),.mv (.t 1)⟩, ⟨some 14, some (11, false),.call c1 [(.t 12),(.t 13),(.c (.str [58]))]⟩, ⟨some 15, some (11, false),.un .not (.t 14)⟩, ⟨some 16,none,.pick (.t 11) (.c (.bool true)) (.t 15)⟩] false) (.cond (.t 16) (.seq (.ops [ ⟨some 17,none,.build [(.int .i64 0),(.int .i64 0),(.int .i64 0),(.str []),(.int .i64 0),(.sl true 6 [])] []⟩, ⟨some 18,none,.mv (.t 1)⟩, ⟨none,none,.store 6 (.t 4) (.t 17)⟩, ⟨some 5,none,.mv (.t 18)⟩] false) (.ret)) (.skip))) (.seq (.ops [ ⟨some 19,none,.mv (.t 0)⟩, ⟨some 20,none,.mv (.t 1)⟩, ⟨some 21,none,.bin .add (.t 20) (.c (.int .i64 1))⟩, ⟨some 22,none,.call c2 [(.t 19),(.t 21)]⟩, ⟨some 23,none,.ext (.t 22) 0⟩, ⟨some 24,none,.ext (.t 22) 1⟩, ⟨none,none,.store 6 (.t 4) (.t 23)⟩, ⟨some 5,none,.mv (.t 24)⟩] false) (.ret)))) }
def irR7Block (c1 c2 c3 c4 t1 : Nat) : IFn := { nt := 44, res := [.cell 4 6 true,.t 5], body := ( .seq (.ops [ ⟨some 4,none,.alloc t1 [(.int .i64 0),(.int .i64 0),(.int .i64 0),(.str []),(.int .i64 0),(.sl true 6 [])]⟩, ⟨some 5,none,.mv (.c (.int .i64 0))⟩] false) (.seq (.ops [ ⟨some 10,none,.mv (.t 0)⟩, ⟨some 11,none,.mv (.t 1)⟩, ⟨some 12,none,.call c1 [(.t 10),(.t 11),(.c (.str [123]))]⟩, ⟨some 6,none,.mv (.t 12)⟩] false) (.seq (.ops [ ⟨some 7,none,.nilT 6 t1⟩] false) (.seq (.blk 0 (.loop (.seq (.seq (.ops [ ⟨some 13,none,.mv (.t 0)⟩, ⟨some 14,none,.nilCheck (.t 13)⟩, ⟨some 15,none,.faddr 1 (.t 14)⟩, ⟨some 16,none,.load 1 false (.t 15)⟩, ⟨some 17,none,.bin .lss (.t 16) (.c (.int .i64 0))⟩, ⟨some 18,none,.mv (.t 17)⟩, ⟨some 19, some (18, true),.mv (.t 0)⟩, ⟨some 20, some (18, true),.mv (.t 6)⟩, ⟨some 21, some (18, true),.call c2 [(.t 19),(.t 20),(.c (.str [125]))]⟩, ⟨some 22, some (18, true),.un .not (.t 21)⟩, ⟨some 23,none,.pick (.t 18) (.t 22) (.c (.bool false))⟩] false) (.cond (.t 23) (.skip) (.exit 0))) (.blk 1 (.seq (.ops [ ⟨some 25,none,.mv (.t 0)⟩, ⟨some 26,none,.mv (.t 6)⟩, ⟨some 27,none,.call c3 [(.t 25),(.t 26)]⟩, ⟨some 24,none,.mv (.t 27)⟩, ⟨some 28,none,.ext (.t 24) 0⟩, ⟨some 29,none,.ext (.t 24) 1⟩, ⟨some 8,none,.alloc t1 [(.int .i64 0),(.int .i64 0),(.int .i64 0),(.str []),(.int .i64 0),(.sl true 6 [])]⟩, ⟨none,none,.store 6 (.t 8) (.t 28)⟩, ⟨some 9,none,.mv (.t 29)⟩] false) (.seq (.ops [ ⟨some 30,none,.mv (.t 9)⟩, ⟨some 6,none,.mv (.t 30)⟩] false) (.ops [ ⟨some 31,none,.mv (.t 7)⟩, ⟨some 32,none,.load 6 true (.t 8)⟩, ⟨some 33,none,.bslice 6 [(.t 32)]⟩, ⟨some 34,none,.app 6 72 t1 (.t 31) (.t 33)⟩, ⟨some 7,none,.mv (.t 34)⟩] false))))))) (.seq (.ops [ ⟨some 35,none,.mv (.t 0)⟩, ⟨some 36,none,.mv (.t 6)⟩, ⟨some 37,none,.call c1 [(.t 35),(.t 36),(.c (.str [125]))]⟩, ⟨some 6,none,.mv (.t 37)⟩] false) (.seq (.ops [ ⟨some 38,none,.mv (.t 1)⟩, ⟨some 39,none,.build [(.int .i64 0),(.int .i64 0),(.int .i64 0),(.str []),(.int .i64 0),(.sl true 6 [])] [(0,1,(.c (.int .i64 6))),(1,1,(.t 38))]⟩, ⟨some 40,none,.mv (.t 6)⟩, ⟨some 41,none,.mv (.t 7)⟩, ⟨some 42,none,.call c4 [(.t 39),(.t 40),(.t 41)]⟩, ⟨some 43,none,.mv (.t 6)⟩, ⟨none,none,.store 6 (.t 4) (.t 42)⟩, ⟨some 5,none,.mv (.t 43)⟩] false) (.ret))))))) }
def irR7Stmt (c1 c2 c3 c4 c5 c6 c7 t1 : Nat) : IFn := { nt := 155, res := [.cell 4 6 true,.t 5], body := ( .seq (.ops [ ⟨some 4,none,.alloc t1 [(.int .i64 0),(.int .i64 0),(.int .i64 0),(.str []),(.int .i64 0),(.sl true 6 [])]⟩, ⟨some 5,none,.mv (.c (.int .i64 0))⟩] false) (.seq (.ops [ ⟨some 17,none,.mv (.t 1)⟩, ⟨some 18,none,.build [(.int .i64 0),(.int .i64 0),(.int .i64 0),(.str []),(.int .i64 0),(.sl true 6 [])] [(0,1,(.c (.int .i64 13))),(1,1,(.t 17))]⟩, ⟨some 6,none,.alloc t1 [(.int .i64 0),(.int .i64 0),(.int .i64 0),(.str []),(.int .i64 0),(.sl true 6 [])]⟩, ⟨none,none,.store 6 (.t 6) (.t 18)⟩] false) (.seq (.ops [ ⟨some 19,none,.mv (.t 1)⟩, ⟨some 7,none,.mv (.t 19)⟩] false) (.seq (.ops [ ⟨some 8,none,.nilT 6 t1⟩] false) (.seq (.seq (.ops [ ⟨some 20,none,.mv (.t 0)⟩, ⟨some 21,none,.mv (.t 7)⟩, ⟨some 22,none,.call c1 [(.t 20),(.t 21),(.c (.str [105,102]))]⟩, ⟨some 23,none,.mv (.t 22)⟩, ⟨some 24, some (23, false),.mv (.t 0)⟩, ⟨some 25, some (23, false),.mv (.t 7)⟩, ⟨some 26, some (23, false),.call c1 [(.t 24),(.t 25),(.c (.str [119,104,105,108,101]))]⟩, ⟨some 27,none,.pick (.t 23) (.c (.bool true)) (.t 26)⟩] false) (.cond (.t 27) (.seq (.ops [ ⟨some 28,none,.faddr 0 (.t 6)⟩, ⟨none,none,.store 1 (.t 28) (.c (.int .i64 10))⟩] false) (.seq (.ops [ ⟨some 29,none,.mv (.t 0)⟩, ⟨some 30,none,.mv (.t 7)⟩, ⟨some 31,none,.call c1 [(.t 29),(.t 30),(.c (.str [105,102]))]⟩, ⟨some 9,none,.mv (.t 31)⟩] false) (.seq (.ops [ ⟨some 33,none,.mv (.t 0)⟩, ⟨some 34,none,.mv (.t 7)⟩, ⟨some 35,none,.bin .add (.t 34) (.c (.int .i64 1))⟩, ⟨some 36,none,.call c2 [(.t 33),(.t 35)]⟩, ⟨some 32,none,.mv (.t 36)⟩, ⟨some 37,none,.ext (.t 32) 0⟩, ⟨some 38,none,.ext (.t 32) 1⟩, ⟨some 10,none,.alloc t1 [(.int .i64 0),(.int .i64 0),(.int .i64 0),(.str []),(.int .i64 0),(.sl true 6 [])]⟩, ⟨none,none,.store 6 (.t 10) (.t 37)⟩, ⟨some 11,none,.mv (.t 38)⟩] false) (.seq (.ops [ ⟨some 40,none,.mv (.t 0)⟩, ⟨some 41,none,.mv (.t 11)⟩, ⟨some 42,none,.call c3 [(.t 40),(.t 41)]⟩, ⟨some 39,none,.mv (.t 42)⟩, ⟨some 43,none,.ext (.t 39) 0⟩, ⟨some 44,none,.ext (.t 39) 1⟩, ⟨some 12,none,.alloc t1 [(.int .i64 0),(.int .i64 0),(.int .i64 0),(.str []),(.int .i64 0),(.sl true 6 [])]⟩, ⟨none,none,.store 6 (.t 12) (.t 43)⟩, ⟨some 11,none,.mv (.t 44)⟩] false) (.seq (.ops [ ⟨some 45,none,.load 6 true (.t 10)⟩, ⟨some 46,none,.load 6 true (.t 12)⟩, ⟨some 47,none,.bsliceT 6 t1 [(.t 45),(.t 46)]⟩, ⟨some 8,none,.mv (.t 47)⟩] false) (.seq (.seq (.ops [ ⟨some 48,none,.mv (.t 9)⟩] false) (.cond (.t 48) (.seq (.ops [ ⟨some 49,none,.faddr 0 (.t 6)⟩, ⟨none,none,.store 1 (.t 49) (.c (.int .i64 9))⟩] false) (.seq (.ops [ ⟨some 13,none,.alloc t1 [(.int .i64 0),(.int .i64 0),(.int .i64 0),(.str []),(.int .i64 0),(.sl true 6 [])]⟩] false) (.seq (.seq (.ops [ ⟨some 50,none,.mv (.t 0)⟩, ⟨some 51,none,.nilCheck (.t 50)⟩, ⟨some 52,none,.faddr 1 (.t 51)⟩, ⟨some 53,none,.load 1 false (.t 52)⟩, ⟨some 54,none,.bin .lss (.t 53) (.c (.int .i64 0))⟩, ⟨some 55,none,.mv (.t 54)⟩, ⟨some 56, some (55, true),.mv (.t 0)⟩, ⟨some 57, some (55, true),.mv (.t 11)⟩, ⟨some 58, some (55, true),.call c1 [(.t 56),(.t 57),(.c (.str [101,108,115,101]))]⟩, ⟨some 59,none,.pick (.t 55) (.t 58) (.c (.bool false))⟩] false) (.cond (.t 59) (.ops [ ⟨some 61,none,.mv (.t 0)⟩, ⟨some 62,none,.mv (.t 11)⟩, ⟨some 63,none,.bin .add (.t 62) (.c (.int .i64 1))⟩, ⟨some 64,none,.call c3 [(.t 61),(.t 63)]⟩, ⟨some 60,none,.mv (.t 64)⟩, ⟨some 65,none,.ext (.t 60) 0⟩, ⟨some 66,none,.ext (.t 60) 1⟩, ⟨none,none,.store 6 (.t 13) (.t 65)⟩, ⟨some 11,none,.mv (.t 66)⟩] false) (.skip))) (.ops [ ⟨some 67,none,.mv (.t 8)⟩, ⟨some 68,none,.load 6 true (.t 13)⟩, ⟨some 69,none,.bslice 6 [(.t 68)]⟩, ⟨some 70,none,.app 6 72 t1 (.t 67) (.t 69)⟩, ⟨some 8,none,.mv (.t 70)⟩] false)))) (.skip))) (.seq (.ops [ ⟨some 71,none,.load 6 true (.t 6)⟩, ⟨some 72,none,.mv (.t 11)⟩, ⟨some 73,none,.mv (.t 8)⟩, ⟨some 74,none,.call c4 [(.t 71),(.t 72),(.t 73)]⟩, ⟨some 75,none,.mv (.t 11)⟩, ⟨none,none,.store 6 (.t 4) (.t 74)⟩, ⟨some 5,none,.mv (.t 75)⟩] false) (.ret)))))))) (.skip))) (.seq (.seq (.ops [ ⟨some 76,none,.mv (.t 0)⟩, ⟨some 77,none,.mv (.t 7)⟩, ⟨some 78,none,.call c1 [(.t 76),(.t 77),(.c (.str [108,101,116]))]⟩] false) (.cond (.t 78) (.seq (.ops [ ⟨some 79,none,.faddr 0 (.t 6)⟩, ⟨none,none,.store 1 (.t 79) (.c (.int .i64 7))⟩] false) (.seq (.ops [ ⟨some 81,none,.mv (.t 0)⟩, ⟨some 82,none,.load 6 true (.t 6)⟩, ⟨some 83,none,.mv (.t 7)⟩, ⟨some 84,none,.bin .add (.t 83) (.c (.int .i64 1))⟩, ⟨some 85,none,.call c5 [(.t 81),(.t 82),(.t 84)]⟩, ⟨some 80,none,.mv (.t 85)⟩, ⟨some 86,none,.ext (.t 80) 0⟩, ⟨some 87,none,.ext (.t 80) 1⟩, ⟨none,none,.store 6 (.t 6) (.t 86)⟩, ⟨some 7,none,.mv (.t 87)⟩] false) (.seq (.ops [ ⟨some 89,none,.mv (.t 0)⟩, ⟨some 90,none,.mv (.t 7)⟩, ⟨some 91,none,.call c6 [(.t 89),(.t 90)]⟩, ⟨some 88,none,.mv (.t 91)⟩, ⟨some 92,none,.ext (.t 88) 0⟩, ⟨some 93,none,.ext (.t 88) 1⟩, ⟨some 14,none,.alloc t1 [(.int .i64 0),(.int .i64 0),(.int .i64 0),(.str []),(.int .i64 0),(.sl true 6 [])]⟩, ⟨none,none,.store 6 (.t 14) (.t 92)⟩, ⟨some 15,none,.mv (.t 93)⟩] false) (.seq (.ops [ ⟨some 94,none,.mv (.t 8)⟩, ⟨some 95,none,.load 6 true (.t 14)⟩, ⟨some 96,none,.bslice 6 [(.t 95)]⟩, ⟨some 97,none,.app 6 72 t1 (.t 94) (.t 96)⟩, ⟨some 8,none,.mv (.t 97)⟩] false) (.ops [ ⟨some 98,none,.mv (.t 0)⟩, ⟨some 99,none,.mv (.t 15)⟩, ⟨some 100,none,.call c7 [(.t 98),(.t 99),(.c (.str [61]))]⟩, ⟨some 7,none,.mv (.t 100)⟩] false))))) (.seq (.ops [ ⟨some 101,none,.mv (.t 0)⟩, ⟨some 102,none,.mv (.t 7)⟩, ⟨some 103,none,.call c1 [(.t 101),(.t 102),(.c (.str [112,114,105,110,116]))]⟩] false) (.cond (.t 103) (.seq (.ops [ ⟨some 104,none,.faddr 0 (.t 6)⟩, ⟨none,none,.store 1 (.t 104) (.c (.int .i64 11))⟩] false) (.ops [ ⟨some 105,none,.mv (.t 7)⟩, ⟨some 106,none,.bin .add (.t 105) (.c (.int .i64 1))⟩, ⟨some 7,none,.mv (.t 106)⟩] false)) (.seq (.ops [ ⟨some 107,none,.mv (.t 0)⟩, ⟨some 108,none,.mv (.t 7)⟩, ⟨some 109,none,.call c1 [(.t 107),(.t 108),(.c (.str [114,101,116,117,114,110]))]⟩] false) (.cond (.t 109) (.seq (.ops [ ⟨some 110,none,.faddr 0 (.t 6)⟩, ⟨none,none,.store 1 (.t 110) (.c (.int .i64 12))⟩] false) (.ops [ ⟨some 111,none,.mv (.t 7)⟩, ⟨some 112,none,.bin .add (.t 111) (.c (.int .i64 1))⟩, ⟨some 7,none,.mv (.t 112)⟩] false)) (.seq (.ops [ ⟨some 113,none,.mv (.t 0)⟩, ⟨some 114,none,.nilCheck (.t 113)⟩, ⟨some 115,none,.faddr 0 (.t 114)⟩, ⟨some 116,none,.load 1 false (.t 115)⟩, ⟨some 117,none,.mv (.t 7)⟩, ⟨some 118,none,.iaddr 4 (.t 116) (.t 117)⟩, ⟨some 119,none,.faddr 0 (.t 118)⟩, ⟨some 120,none,.load 1 false (.t 119)⟩, ⟨some 121,none,.bin .eql (.t 120) (.c (.int .i64 1))⟩, ⟨some 122,none,.mv (.t 121)⟩, ⟨some 123, some (122, true),.mv (.t 0)⟩, ⟨some 124, some (122, true),.mv (.t 7)⟩, ⟨some 125, some (122, true),.bin .add (.t 124) (.c (.int .i64 1))⟩, ⟨some 126, some (122, true),.call c1 [(.t 123),(.t 125),(.c (.str [61]))]⟩, ⟨some 127,none,.pick (.t 122) (.t 126) (.c (.bool false))⟩] false) (.cond (.t 127) (.seq (.ops [ ⟨some 128,none,.faddr 0 (.t 6)⟩, ⟨none,none,.store 1 (.t 128) (.c (.int .i64 8))⟩] false) (.seq (.ops [ ⟨some 130,none,.mv (.t 0)⟩, ⟨some 131,none,.load 6 true (.t 6)⟩, ⟨some 132,none,.mv (.t 7)⟩, ⟨some 133,none,.call c5 [(.t 130),(.t 131),(.t 132)]⟩, ⟨some 129,none,.mv (.t 133)⟩, ⟨some 134,none,.ext (.t 129) 0⟩, ⟨some 135,none,.ext (.t 129) 1⟩, ⟨none,none,.store 6 (.t 6) (.t 134)⟩, ⟨some 7,none,.mv (.t 135)⟩] false) (.ops [ ⟨some 136,none,.mv (.t 7)⟩, ⟨some 137,none,.bin .add (.t 136) (.c (.int .i64 1))⟩, ⟨some 7,none,.mv (.t 137)⟩] false))) (.skip))))))))) (.seq (.ops [ ⟨some 139,none,.mv (.t 0)⟩, ⟨some 140,none,.mv (.t 7)⟩, ⟨some 141,none,.call c2 [(.t 139),(.t 140)]⟩, ⟨some 138,none,.mv (.t 141)⟩, ⟨some 142,none,.ext (.t 138) 0⟩, ⟨some 143,none,.ext (.t 138) 1⟩, ⟨some 16,none,.alloc t1 [(.int .i64 0),(.int .i64 0),(.int .i64 0),(.str []),(.int .i64 0),(.sl true 6 [])]⟩, ⟨none,none,.store 6 (.t 16) (.t 142)⟩, ⟨some 7,none,.mv (.t 143)⟩] false) (.seq (.ops [ ⟨some 144,none,.mv (.t 0)⟩, ⟨some 145,none,.mv (.t 7)⟩, ⟨some 146,none,.call c7 [(.t 144),(.t 145),(.c (.str [59]))]⟩, ⟨some 7,none,.mv (.t 146)⟩] false) (.seq (.ops [ ⟨some 147,none,.load 6 true (.t 6)⟩, ⟨some 148,none,.mv (.t 7)⟩, ⟨some 149,none,.mv (.t 8)⟩, ⟨some 150,none,.load 6 true (.t 16)⟩, ⟨some 151,none,.bslice 6 [(.t 150)]⟩, ⟨some 152,none,.app 6 72 t1 (.t 149) (.t 151)⟩, ⟨some 153,none,.call c4 [(.t 147),(.t 148),(.t 152)]⟩, ⟨some 154,none,.mv (.t 7)⟩, ⟨none,none,.store 6 (.t 4) (.t 153)⟩, ⟨some 5,none,.mv (.t 154)⟩] true) (.ret)))))))))) }
def irR7Expr (c1 c2 c3 t1 : Nat) : IFn := { nt := 55, res := [.cell 4 6 true,.t 5], body := ( .seq (.ops [ ⟨some 4,none,.alloc t1 [(.int .i64 0),(.int .i64 0),(.int .i64 0),(.str []),(.int .i64 0),(.sl true 6 [])]⟩, ⟨some 5,none,.mv (.c (.int .i64 0))⟩] false) (.seq (.ops [ ⟨some 11,none,.mv (.t 0)⟩, ⟨some 12,none,.mv (.t 1)⟩, ⟨some 13,none,.call c1 [(.t 11),(.t 12)]⟩, ⟨some 10,none,.mv (.t 13)⟩, ⟨some 14,none,.ext (.t 10) 0⟩, ⟨some 15,none,.ext (.t 10) 1⟩, ⟨some 6,none,.alloc t1 [(.int .i64 0),(.int .i64 0),(.int .i64 0),(.str []),(.int .i64 0),(.sl true 6 [])]⟩, ⟨none,none,.store 6 (.t 6) (.t 14)⟩, ⟨some 7,none,.mv (.t 15)⟩] false) (.seq (.seq (.ops [ ⟨some 16,none,.mv (.t 0)⟩, ⟨some 17,none,.nilCheck (.t 16)⟩, ⟨some 18,none,.faddr 1 (.t 17)⟩, ⟨some 19,none,.load 1 false (.t 18)⟩, ⟨some 20,none,.bin .geq (.t 19) (.c (.int .i64 0))⟩, ⟨some 21,none,.mv (.t 20)⟩, ⟨some 22, some (21, false),.mv (.t 0)⟩, ⟨some 23, some (21, false),.mv (.t 7)⟩, ⟨some 24, some (21, false),.call c2 [(.t 22),(.t 23),(.c (.str [60]))]⟩, ⟨some 25, some (21, false),.un .not (.t 24)⟩, ⟨some 26, some (21, false),.mv (.t 25)⟩, ⟨some 27, some (26, true),.mv (.t 0)⟩, ⟨some 28, some (26, true),.mv (.t 7)⟩, ⟨some 29, some (26, true),.call c2 [(.t 27),(.t 28),(.c (.str [61,61]))]⟩, ⟨some 30, some (26, true),.un .not (.t 29)⟩, ⟨some 31, some (21, false),.pick (.t 26) (.t 30) (.c (.bool false))⟩, ⟨some 32,none,.pick (.t 21) (.c (.bool true)) (.t 31)⟩] false) (.cond (.t 32) (.seq (.ops [ ⟨some 33,none,.load 6 true (.t 6)⟩, ⟨some 34,none,.mv (.t 7)⟩, ⟨none,none,.store 6 (.t 4) (.t 33)⟩, ⟨some 5,none,.mv (.t 34)⟩] false) (.ret)) (.skip))) (.seq (.ops [ ⟨some 8,none,.mv (.c (.int .i64 14))⟩] false) (.seq (.seq (.ops [ ⟨some 35,none,.mv (.t 0)⟩, ⟨some 36,none,.mv (.t 7)⟩, ⟨some 37,none,.call c2 [(.t 35),(.t 36),(.c (.str [61,61]))]⟩] false) (.cond (.t 37) (.ops [ ⟨some 8,none,.mv (.c (.int .i64 15))⟩] false) (.skip))) (.seq (.ops [ ⟨some 39,none,.mv (.t 0)⟩, ⟨some 40,none,.mv (.t 7)⟩, ⟨some 41,none,.bin .add (.t 40) (.c (.int .i64 1))⟩, ⟨some 42,none,.call c1 [(.t 39),(.t 41)]⟩, ⟨some 38,none,.mv (.t 42)⟩, ⟨some 43,none,.ext (.t 38) 0⟩, ⟨some 44,none,.ext (.t 38) 1⟩, ⟨some 9,none,.alloc t1 [(.int .i64 0),(.int .i64 0),(.int .i64 0),(.str []),(.int .i64 0),(.sl true 6 [])]⟩, ⟨none,none,.store 6 (.t 9) (.t 43)⟩, ⟨some 7,none,.mv (.t 44)⟩] false) (.seq (.ops [ ⟨some 45,none,.mv (.t 8)⟩, ⟨some 46,none,.faddr 1 (.t 6)⟩, ⟨some 47,none,.load 1 false (.t 46)⟩, ⟨some 48,none,.build [(.int .i64 0),(.int .i64 0),(.int .i64 0),(.str []),(.int .i64 0),(.sl true 6 [])] [(0,1,(.t 45)),(1,1,(.t 47))]⟩, ⟨some 49,none,.mv (.t 7)⟩, ⟨some 50,none,.load 6 true (.t 6)⟩, ⟨some 51,none,.load 6 true (.t 9)⟩, ⟨some 52,none,.bslice 6 [(.t 50),(.t 51)]⟩, ⟨some 53,none,.call c3 [(.t 48),(.t 49),(.t 52)]⟩, ⟨some 54,none,.mv (.t 7)⟩, ⟨none,none,.store 6 (.t 4) (.t 53)⟩, ⟨some 5,none,.mv (.t 54)⟩] false) (.ret)))))))) }
def irR7Sum (c1 c2 c3 t1 : Nat) : IFn := { nt := 54, res := [.cell 4 6 true,.t 5], body := ( .seq (.ops [ ⟨some 4,none,.alloc t1 [(.int .i64 0),(.int .i64 0),(.int .i64 0),(.str []),(.int .i64 0),(.sl true 6 [])]⟩, ⟨some 5,none,.mv (.c (.int .i64 0))⟩] false) (.seq (.ops [ ⟨some 12,none,.mv (.t 0)⟩, ⟨some 13,none,.mv (.t 1)⟩, ⟨some 14,none,.call c1 [(.t 12),(.t 13)]⟩, ⟨some 11,none,.mv (.t 14)⟩, ⟨some 15,none,.ext (.t 11) 0⟩, ⟨some 16,none,.ext (.t 11) 1⟩, ⟨some 6,none,.alloc t1 [(.int .i64 0),(.int .i64 0),(.int .i64 0),(.str []),(.int .i64 0),(.sl true 6 [])]⟩, ⟨none,none,.store 6 (.t 6) (.t 15)⟩, ⟨some 7,none,.mv (.t 16)⟩] false) (.seq (.blk 0 (.loop (.seq (.seq (.ops [ ⟨some 17,none,.mv (.t 0)⟩, ⟨some 18,none,.nilCheck (.t 17)⟩, ⟨some 19,none,.faddr 1 (.t 18)⟩, ⟨some 20,none,.load 1 false (.t 19)⟩, ⟨some 21,none,.bin .lss (.t 20) (.c (.int .i64 0))⟩, ⟨some 22,none,.mv (.t 21)⟩, ⟨some 23, some (22, true),.mv (.t 0)⟩, ⟨some 24, some (22, true),.mv (.t 7)⟩, ⟨some 25, some (22, true),.call c2 [(.t 23),(.t 24),(.c (.str [43]))]⟩, ⟨some 26, some (22, true),.mv (.t 25)⟩, ⟨some 27, some (26, false),.mv (.t 0)⟩, ⟨some 28, some (26, false),.mv (.t 7)⟩, ⟨some 29, some (26, false),.call c2 [(.t 27),(.t 28),(.c (.str [45]))]⟩, ⟨some 30, some (22, true),.pick (.t 26) (.c (.bool true)) (.t 29)⟩, ⟨some 31,none,.pick (.t 22) (.t 30) (.c (.bool false))⟩] false) (.cond (.t 31) (.skip) (.exit 0))) (.blk 1 (.seq (.ops [ ⟨some 8,none,.mv (.c (.int .i64 16))⟩] false) (.seq (.seq (.ops [ ⟨some 32,none,.mv (.t 0)⟩, ⟨some 33,none,.mv (.t 7)⟩, ⟨some 34,none,.call c2 [(.t 32),(.t 33),(.c (.str [45]))]⟩] false) (.cond (.t 34) (.ops [ ⟨some 8,none,.mv (.c (.int .i64 17))⟩] false) (.skip))) (.seq (.ops [ ⟨some 36,none,.mv (.t 0)⟩, ⟨some 37,none,.mv (.t 7)⟩, ⟨some 38,none,.bin .add (.t 37) (.c (.int .i64 1))⟩, ⟨some 39,none,.call c1 [(.t 36),(.t 38)]⟩, ⟨some 35,none,.mv (.t 39)⟩, ⟨some 40,none,.ext (.t 35) 0⟩, ⟨some 41,none,.ext (.t 35) 1⟩, ⟨some 9,none,.alloc t1 [(.int .i64 0),(.int .i64 0),(.int .i64 0),(.str []),(.int .i64 0),(.sl true 6 [])]⟩, ⟨none,none,.store 6 (.t 9) (.t 40)⟩, ⟨some 10,none,.mv (.t 41)⟩] false) (.seq (.ops [ ⟨some 42,none,.mv (.t 10)⟩, ⟨some 7,none,.mv (.t 42)⟩] false) (.ops [ ⟨some 43,none,.mv (.t 8)⟩, ⟨some 44,none,.faddr 1 (.t 6)⟩, ⟨some 45,none,.load 1 false (.t 44)⟩, ⟨some 46,none,.build [(.int .i64 0),(.int .i64 0),(.int .i64 0),(.str []),(.int .i64 0),(.sl true 6 [])] [(0,1,(.t 43)),(1,1,(.t 45))]⟩, ⟨some 47,none,.mv (.t 7)⟩, ⟨some 48,none,.load 6 true (.t 6)⟩, ⟨some 49,none,.load 6 true (.t 9)⟩, ⟨some 50,none,.bslice 6 [(.t 48),(.t 49)]⟩, ⟨some 51,none,.call c3 [(.t 46),(.t 47),(.t 50)]⟩, ⟨none,none,.store 6 (.t 6) (.t 51)⟩] false))))))))) (.seq (.ops [ ⟨some 52,none,.load 6 true (.t 6)⟩, ⟨some 53,none,.mv (.t 7)⟩, ⟨none,none,.store 6 (.t 4) (.t 52)⟩, ⟨some 5,none,.mv (.t 53)⟩] false) (.ret))))) }
def irR7Term (c1 c2 c3 t1 : Nat) : IFn := { nt := 44, res := [.cell 4 6 true,.t 5], body := ( .seq (.ops [ ⟨some 4,none,.alloc t1 [(.int .i64 0),(.int .i64 0),(.int .i64 0),(.str []),(.int .i64 0),(.sl true 6 [])]⟩, ⟨some 5,none,.mv (.c (.int .i64 0))⟩] false) (.seq (.ops [ ⟨some 11,none,.mv (.t 0)⟩, ⟨some 12,none,.mv (.t 1)⟩, ⟨some 13,none,.call c1 [(.t 11),(.t 12)]⟩, ⟨some 10,none,.mv (.t 13)⟩, ⟨some 14,none,.ext (.t 10) 0⟩, ⟨some 15,none,.ext (.t 10) 1⟩, ⟨some 6,none,.alloc t1 [(.int .i64 0),(.int .i64 0),(.int .i64 0),(.str []),(.int .i64 0),(.sl true 6 [])]⟩, ⟨none,none,.store 6 (.t 6) (.t 14)⟩, ⟨some 7,none,.mv (.t 15)⟩] false) (.seq (.blk 0 (.loop (.seq (.seq (.ops [ ⟨some 16,none,.mv (.t 0)⟩, ⟨some 17,none,.nilCheck (.t 16)⟩, ⟨some 18,none,.faddr 1 (.t 17)⟩, ⟨some 19,none,.load 1 false (.t 18)⟩, ⟨some 20,none,.bin .lss (.t 19) (.c (.int .i64 0))⟩, ⟨some 21,none,.mv (.t 20)⟩, ⟨some 22, some (21, true),.mv (.t 0)⟩, ⟨some 23, some (21, true),.mv (.t 7)⟩, ⟨some 24, some (21, true),.call c2 [(.t 22),(.t 23),(.c (.str [42]))]⟩, ⟨some 25,none,.pick (.t 21) (.t 24) (.c (.bool false))⟩] false) (.cond (.t 25) (.skip) (.exit 0))) (.blk 1 (.seq (.ops [ ⟨some 27,none,.mv (.t 0)⟩, ⟨some 28,none,.mv (.t 7)⟩, ⟨some 29,none,.bin .add (.t 28) (.c (.int .i64 1))⟩, ⟨some 30,none,.call c1 [(.t 27),(.t 29)]⟩, ⟨some 26,none,.mv (.t 30)⟩, ⟨some 31,none,.ext (.t 26) 0⟩, ⟨some 32,none,.ext (.t 26) 1⟩, ⟨some 8,none,.alloc t1 [(.int .i64 0),(.int .i64 0),(.int .i64 0),(.str []),(.int .i64 0),(.sl true 6 [])]⟩, ⟨none,none,.store 6 (.t 8) (.t 31)⟩, ⟨some 9,none,.mv (.t 32)⟩] false) (.seq (.ops [ ⟨some 33,none,.mv (.t 9)⟩, ⟨some 7,none,.mv (.t 33)⟩] false) (.ops [ ⟨some 34,none,.faddr 1 (.t 6)⟩, ⟨some 35,none,.load 1 false (.t 34)⟩, ⟨some 36,none,.build [(.int .i64 0),(.int .i64 0),(.int .i64 0),(.str []),(.int .i64 0),(.sl true 6 [])] [(0,1,(.c (.int .i64 18))),(1,1,(.t 35))]⟩, ⟨some 37,none,.mv (.t 7)⟩, ⟨some 38,none,.load 6 true (.t 6)⟩, ⟨some 39,none,.load 6 true (.t 8)⟩, ⟨some 40,none,.bslice 6 [(.t 38),(.t 39)]⟩, ⟨some 41,none,.call c3 [(.t 36),(.t 37),(.t 40)]⟩, ⟨none,none,.store 6 (.t 6) (.t 41)⟩] false))))))) (.seq (.ops [ ⟨some 42,none,.load 6 true (.t 6)⟩, ⟨some 43,none,.mv (.t 7)⟩, ⟨none,none,.store 6 (.t 4) (.t 42)⟩, ⟨some 5,none,.mv (.t 43)⟩] false) (.ret))))) }
def irR7Post (c1 c2 c3 c4 c5 c6 t1 : Nat) : IFn := { nt := 108, res := [.cell 4 6 true,.t 5], body := ( .seq (.ops [ ⟨some 4,none,.alloc t1 [(.int .i64 0),(.int .i64 0),(.int .i64 0),(.str []),(.int .i64 0),(.sl true 6 [])]⟩, ⟨some 5,none,.mv (.c (.int .i64 0))⟩] false) (.seq (.ops [ ⟨some 14,none,.mv (.t 0)⟩, ⟨some 15,none,.mv (.t 1)⟩, ⟨some 16,none,.call c1 [(.t 14),(.t 15)]⟩, ⟨some 13,none,.mv (.t 16)⟩, ⟨some 17,none,.ext (.t 13) 0⟩, ⟨some 18,none,.ext (.t 13) 1⟩, ⟨some 6,none,.alloc t1 [(.int .i64 0),(.int .i64 0),(.int .i64 0),(.str []),(.int .i64 0),(.sl true 6 [])]⟩, ⟨none,none,.store 6 (.t 6) (.t 17)⟩, ⟨some 7,none,.mv (.t 18)⟩] false) (.seq (.blk 0 (.loop (.seq (.seq (.ops [ ⟨some 19,none,.mv (.t 0)⟩, ⟨some 20,none,.nilCheck (.t 19)⟩, ⟨some 21,none,.faddr 1 (.t 20)⟩, ⟨some 22,none,.load 1 false (.t 21)⟩, ⟨some 23,none,.bin .lss (.t 22) (.c (.int .i64 0))⟩, ⟨some 24,none,.mv (.t 23)⟩, ⟨some 25, some (24, true),.mv (.t 0)⟩, ⟨some 26, some (24, true),.mv (.t 7)⟩, ⟨some 27, some (24, true),.call c2 [(.t 25),(.t 26),(.c (.str [46]))]⟩, ⟨some 28, some (24, true),.mv (.t 27)⟩, ⟨some 29, some (28, false),.mv (.t 0)⟩, ⟨some 30, some (28, false),.mv (.t 7)⟩, ⟨some 31, some (28, false),.call c2 [(.t 29),(.t 30),(.c (.str [40]))]⟩, ⟨some 32, some (24, true),.pick (.t 28) (.c (.bool true)) (.t 31)⟩, ⟨some 33,none,.pick (.t 24) (.t 32) (.c (.bool false))⟩] false) (.cond (.t 33) (.skip) (.exit 0))) (.blk 1 (.seq (.seq (.ops [ ⟨some 34,none,.mv (.t 0)⟩, ⟨some 35,none,.mv (.t 7)⟩, ⟨some 36,none,.call c2 [(.t 34),(.t 35),(.c (.str [46]))]⟩] false) (.cond (.t 36) (.seq (.ops [ ⟨some 38,none,.mv (.t 0)⟩, ⟨some 39,none,.faddr 1 (.t 6)⟩, ⟨some 40,none,.load 1 false (.t 39)⟩, ⟨some 41,none,.build [(.int .i64 0),(.int .i64 0),(.int .i64 0),(.str []),(.int .i64 0),(.sl true 6 [])] [(0,1,(.c (.int .i64 19))),(1,1,(.t 40))]⟩, ⟨some 42,none,.mv (.t 7)⟩, ⟨some 43,none,.bin .add (.t 42) (.c (.int .i64 1))⟩, ⟨some 44,none,.call c3 [(.t 38),(.t 41),(.t 43)]⟩, ⟨some 37,none,.mv (.t 44)⟩, ⟨some 45,none,.ext (.t 37) 0⟩, ⟨some 46,none,.ext (.t 37) 1⟩, ⟨some 8,none,.alloc t1 [(.int .i64 0),(.int .i64 0),(.int .i64 0),(.str []),(.int .i64 0),(.sl true 6 [])]⟩, ⟨none,none,.store 6 (.t 8) (.t 45)⟩, ⟨some 9,none,.mv (.t 46)⟩] false) (.seq (.ops [ ⟨some 47,none,.mv (.t 9)⟩, ⟨some 7,none,.mv (.t 47)⟩] false) (.seq (.ops [ ⟨some 48,none,.load 6 true (.t 8)⟩, ⟨some 49,none,.mv (.t 7)⟩, ⟨some 50,none,.load 6 true (.t 6)⟩, ⟨some 51,none,.bslice 6 [(.t 50)]⟩, ⟨some 52,none,.call c4 [(.t 48),(.t 49),(.t 51)]⟩, ⟨none,none,.store 6 (.t 6) (.t 52)⟩] false) (.exit 1)))) (.skip))) (.seq (.ops [ ⟨some 53,none,.mv (.t 7)⟩, ⟨some 54,none,.bin .add (.t 53) (.c (.int .i64 1))⟩, ⟨some 7,none,.mv (.t 54)⟩] false) (.seq (.ops [ ⟨some 55,none,.load 6 true (.t 6)⟩, ⟨some 56,none,.bsliceT 6 t1 [(.t 55)]⟩, ⟨some 10,none,.mv (.t 56)⟩] false) (.seq (.blk 2 (.loop (.seq (.seq (.ops [ ⟨some 57,none,.mv (.t 0)⟩, ⟨some 58,none,.nilCheck (.t 57)⟩, ⟨some 59,none,.faddr 1 (.t 58)⟩, ⟨some 60,none,.load 1 false (.t 59)⟩, ⟨some 61,none,.bin .lss (.t 60) (.c (.int .i64 0))⟩, ⟨some 62,none,.mv (.t 61)⟩, ⟨some 63, some (62, true),.mv (.t 10)⟩, ⟨some 64, some (62, true),.lenL (.t 63)⟩, ⟨some 65, some (62, true),.bin .eql (.t 64) (.c (.int .i64 1))⟩, ⟨some 66, some (62, true),.mv (.t 65)⟩, ⟨some 67, some (66, true),.mv (.t 0)⟩, ⟨some 68, some (66, true),.mv (.t 7)⟩, ⟨some 69, some (66, true),.call c2 [(.t 67),(.t 68),(.c (.str [41]))]⟩, ⟨some 70, some (62, true),.pick (.t 66) (.t 69) (.c (.bool false))⟩, ⟨some 71, some (62, true),.un .not (.t 70)⟩, ⟨some 72,none,.pick (.t 62) (.t 71) (.c (.bool false))⟩] false) (.cond (.t 72) (.skip) (.exit 2))) (.blk 3 (.seq (.ops [ ⟨some 74,none,.mv (.t 0)⟩, ⟨some 75,none,.mv (.t 7)⟩, ⟨some 76,none,.call c5 [(.t 74),(.t 75)]⟩, ⟨some 73,none,.mv (.t 76)⟩, ⟨some 77,none,.ext (.t 73) 0⟩, ⟨some 78,none,.ext (.t 73) 1⟩, ⟨some 11,none,.alloc t1 [(.int .i64 0),(.int .i64 0),(.int .i64 0),(.str []),(.int .i64 0),(.sl true 6 [])]⟩, ⟨none,none,.store 6 (.t 11) (.t 77)⟩, ⟨some 12,none,.mv (.t 78)⟩] false) (.seq (.ops [ ⟨some 79,none,.mv (.t 12)⟩, ⟨some 7,none,.mv (.t 79)⟩] false) (.seq (.ops [ ⟨some 80,none,.mv (.t 10)⟩, ⟨some 81,none,.load 6 true (.t 11)⟩, ⟨some 82,none,.bslice 6 [(.t 81)]⟩, ⟨some 83,none,.app 6 72 t1 (.t 80) (.t 82)⟩, ⟨some 10,none,.mv (.t 83)⟩] false) (.seq (.seq (.ops [ ⟨some 84,none,.mv (.t 0)⟩, ⟨some 85,none,.nilCheck (.t 84)⟩, ⟨some 86,none,.faddr 1 (.t 85)⟩, ⟨some 87,none,.load 1 false (.t 86)⟩, ⟨some 88,none,.bin .geq (.t 87) (.c (.int .i64 0))⟩, ⟨some 89,none,.mv (.t 88)⟩, ⟨some 90, some (89, false),.mv (.t 0)⟩, ⟨some 91, some (89, false),.mv (.t 7)⟩, ⟨some 92, some (89, false),.call c2 [(.t 90),(.t 91),(.c (.str [41]))]⟩, ⟨some 93,none,.pick (.t 89) (.c (.bool true)) (.t 92)⟩] false) (.cond (.t 93) (.exit 2) (.skip))) (.ops [ ⟨some 94,none,.mv (.t 0)⟩, ⟨some 95,none,.mv (.t 7)⟩, ⟨some 96,none,.call c6 [(.t 94),(.t 95),(.c (.str [44]))]⟩, ⟨some 7,none,.mv (.t 96)⟩] false))))))))) (.seq (.ops [ ⟨some 97,none,.mv (.t 0)⟩, ⟨some 98,none,.mv (.t 7)⟩, ⟨some 99,none,.call c6 [(.t 97),(.t 98),(.c (.str [41]))]⟩, ⟨some 7,none,.mv (.t 99)⟩] false) (.ops [ ⟨some 100,none,.faddr 1 (.t 6)⟩, ⟨some 101,none,.load 1 false (.t 100)⟩, ⟨some 102,none,.build [(.int .i64 0),(.int .i64 0),(.int .i64 0),(.str []),(.int .i64 0),(.sl true 6 [])] [(0,1,(.c (.int .i64 20))),(1,1,(.t 101))]⟩, ⟨some 103,none,.mv (.t 7)⟩, ⟨some 104,none,.mv (.t 10)⟩, ⟨some 105,none,.call c4 [(.t 102),(.t 103),(.t 104)]⟩, ⟨none,none,.store 6 (.t 6) (.t 105)⟩] false)))))))))) (.seq (.ops [ ⟨some 106,none,.load 6 true (.t 6)⟩, ⟨some 107,none,.mv (.t 7)⟩, ⟨none,none,.store 6 (.t 4) (.t 106)⟩, ⟨some 5,none,.mv (.t 107)⟩] false) (.ret))))) }
def irR7Atom (c1 c2 c3 c4 c5 c6 t1 t2 : Nat) : IFn := { nt := 172, res := [.cell 4 6 true,.t 5], body := ( .seq (.ops [ ⟨some 4,none,.alloc t1 [(.int .i64 0),(.int .i64 0),(.int .i64 0),(.str []),(.int .i64 0),(.sl true 6 [])]⟩, ⟨some 5,none,.mv (.c (.int .i64 0))⟩] false) (.seq (.ops [ ⟨some 16,none,.mv (.t 1)⟩, ⟨some 6,none,.mv (.t 16)⟩] false) (.seq (.ops [ ⟨some 17,none,.mv (.t 1)⟩, ⟨some 18,none,.mv (.t 1)⟩, ⟨some 19,none,.mv (.t 6)⟩, ⟨some 20,none,.bin .add (.t 19) (.c (.int .i64 1))⟩, ⟨some 21,none,.build [(.int .i64 0),(.int .i64 0),(.int .i64 0),(.str []),(.int .i64 0),(.sl true 6 [])] [(1,1,(.t 17)),(4,1,(.t 18)),(2,1,(.t 20))]⟩, ⟨some 7,none,.alloc t1 [(.int .i64 0),(.int .i64 0),(.int .i64 0),(.str []),(.int .i64 0),(.sl true 6 [])]⟩, ⟨none,none,.store 6 (.t 7) (.t 21)⟩] false) (.seq (.seq (.ops [ ⟨some 22,none,.mv (.t 0)⟩, ⟨some 23,none,.nilCheck (.t 22)⟩, ⟨some 24,none,.faddr 1 (.t 23)⟩, ⟨some 25,none,.load 1 false (.t 24)⟩, ⟨some 26,none,.bin .geq (.t 25) (.c (.int .i64 0))⟩] false) (.cond (.t 26) (.seq (.ops [ ⟨some 27,none,.build [(.int .i64 0),(.int .i64 0),(.int .i64 0),(.str []),(.int .i64 0),(.sl true 6 [])] []⟩, ⟨some 28,none,.mv (.t 6)⟩, ⟨none,none,.store 6 (.t 4) (.t 27)⟩, ⟨some 5,none,.mv (.t 28)⟩] false) (.ret)) (.skip))) (.seq (.ops [ ⟨some 29,none,.mv (.t 0)⟩, ⟨some 30,none,.nilCheck (.t 29)⟩, ⟨some 31,none,.faddr 0 (.t 30)⟩, ⟨some 32,none,.load 1 false (.t 31)⟩, ⟨some 33,none,.mv (.t 6)⟩, ⟨some 34,none,.iaddr 4 (.t 32) (.t 33)⟩, ⟨some 35,none,.load 4 true (.t 34)⟩, ⟨some 8,none,.alloc t2 [(.int .i64 0),(.int .i64 0),(.str []),(.str [])]⟩, ⟨none,none,.store 4 (.t 8) (.t 35)⟩] false) (.seq (.ops [ ⟨some 36,none,.faddr 3 (.t 8)⟩, ⟨some 37,none,.load 1 false (.t 36)⟩, ⟨some 38,none,.faddr 3 (.t 7)⟩, ⟨none,none,.store 1 (.t 38) (.t 37)⟩] false) (.seq (.seq (.ops [ ⟨some 39,none,.faddr 0 (.t 8)⟩, ⟨some 40,none,.load 1 false (.t 39)⟩] false) (.blk 0 (.seq (.ops [ ⟨some 42,none,.bin .eql (.t 40) (.c (.int .i64 3))⟩, ⟨some 41,none,.mv (.t 42)⟩] false) (.cond (.t 41) (.seq (.ops [ ⟨some 43,none,.faddr 0 (.t 7)⟩, ⟨none,none,.store 1 (.t 43) (.c (.int .i64 21))⟩] false) (.seq (.ops [ ⟨some 44,none,.load 6 true (.t 7)⟩, ⟨some 45,none,.mv (.t 6)⟩, ⟨some 46,none,.bin .add (.t 45) (.c (.int .i64 1))⟩, ⟨none,none,.store 6 (.t 4) (.t 44)⟩, ⟨some 5,none,.mv (.t 46)⟩] false) (.ret))) (.seq (.ops [ ⟨some 48,none,.bin .eql (.t 40) (.c (.int .i64 4))⟩, ⟨some 47,none,.mv (.t 48)⟩] false) (.cond (.t 47) (.seq (.ops [ ⟨some 49,none,.faddr 0 (.t 7)⟩, ⟨none,none,.store 1 (.t 49) (.c (.int .i64 22))⟩] false) (.seq (.ops [ ⟨some 50,none,.load 6 true (.t 7)⟩, ⟨some 51,none,.mv (.t 6)⟩, ⟨some 52,none,.bin .add (.t 51) (.c (.int .i64 1))⟩, ⟨none,none,.store 6 (.t 4) (.t 50)⟩, ⟨some 5,none,.mv (.t 52)⟩] false) (.ret))) (.seq (.ops [ ⟨some 54,none,.bin .eql (.t 40) (.c (.int .i64 1))⟩, ⟨some 53,none,.mv (.t 54)⟩] false) (.cond (.t 53) (.seq (.ops [ ⟨some 55,none,.faddr 0 (.t 7)⟩, ⟨none,none,.store 1 (.t 55) (.c (.int .i64 23))⟩] false) (.seq (.ops [ ⟨some 56,none,.load 6 true (.t 7)⟩, ⟨some 57,none,.mv (.t 6)⟩, ⟨some 58,none,.bin .add (.t 57) (.c (.int .i64 1))⟩, ⟨none,none,.store 6 (.t 4) (.t 56)⟩, ⟨some 5,none,.mv (.t 58)⟩] false) (.ret))) (.skip))))))))) (.seq (.seq (.ops [ ⟨some 59,none,.mv (.t 0)⟩, ⟨some 60,none,.mv (.t 6)⟩, ⟨some 61,none,.call c1 [(.t 59),(.t 60),(.c (.str [105,110,112,117,116]))]⟩] false) (.cond (.t 61) (.seq (.ops [ ⟨some 62,none,.mv (.t 1)⟩, ⟨some 63,none,.mv (.t 6)⟩, ⟨some 64,none,.bin .add (.t 63) (.c (.int .i64 1))⟩, ⟨some 65,none,.build [(.int .i64 0),(.int .i64 0),(.int .i64 0),(.str []),(.int .i64 0),(.sl true 6 [])] [(0,1,(.c (.int .i64 24))),(1,1,(.t 62)),(2,1,(.t 64))]⟩, ⟨some 66,none,.mv (.t 6)⟩, ⟨some 67,none,.bin .add (.t 66) (.c (.int .i64 1))⟩, ⟨none,none,.store 6 (.t 4) (.t 65)⟩, ⟨some 5,none,.mv (.t 67)⟩] false) (.ret)) (.skip))) (.seq (.seq (.ops [ ⟨some 68,none,.mv (.t 0)⟩, ⟨some 69,none,.mv (.t 6)⟩, ⟨some 70,none,.call c1 [(.t 68),(.t 69),(.c (.str [40]))]⟩] false) (.cond (.t 70) (.seq (.ops [ ⟨some 72,none,.mv (.t 0)⟩, ⟨some 73,none,.mv (.t 6)⟩, ⟨some 74,none,.bin .add (.t 73) (.c (.int .i64 1))⟩, ⟨some 75,none,.call c2 [(.t 72),(.t 74)]⟩, ⟨some 71,none,.mv (.t 75)⟩, ⟨some 76,none,.ext (.t 71) 0⟩, ⟨some 77,none,.ext (.t 71) 1⟩, ⟨some 9,none,.alloc t1 [(.int .i64 0),(.int .i64 0),(.int .i64 0),(.str []),(.int .i64 0),(.sl true 6 [])]⟩, ⟨none,none,.store 6 (.t 9) (.t 76)⟩, ⟨some 10,none,.mv (.t 77)⟩] false) (.seq (.ops [ ⟨some 78,none,.mv (.t 0)⟩, ⟨some 79,none,.mv (.t 10)⟩, ⟨some 80,none,.call c3 [(.t 78),(.t 79),(.c (.str [41]))]⟩, ⟨some 10,none,.mv (.t 80)⟩] false) (.seq (.ops [ ⟨some 81,none,.mv (.t 1)⟩, ⟨some 82,none,.build [(.int .i64 0),(.int .i64 0),(.int .i64 0),(.str []),(.int .i64 0),(.sl true 6 [])] [(0,1,(.c (.int .i64 25))),(1,1,(.t 81))]⟩, ⟨some 83,none,.mv (.t 10)⟩, ⟨some 84,none,.load 6 true (.t 9)⟩, ⟨some 85,none,.bslice 6 [(.t 84)]⟩, ⟨some 86,none,.call c4 [(.t 82),(.t 83),(.t 85)]⟩, ⟨some 87,none,.mv (.t 10)⟩, ⟨none,none,.store 6 (.t 4) (.t 86)⟩, ⟨some 5,none,.mv (.t 87)⟩] false) (.ret)))) (.skip))) (.seq (.seq (.ops [ ⟨some 88,none,.mv (.t 0)⟩, ⟨some 89,none,.mv (.t 6)⟩, ⟨some 90,none,.call c1 [(.t 88),(.t 89),(.c (.str [123]))]⟩] false) (.cond (.t 90) (.seq (.ops [ ⟨some 91,none,.mv (.t 6)⟩, ⟨some 92,none,.bin .add (.t 91) (.c (.int .i64 1))⟩, ⟨some 6,none,.mv (.t 92)⟩] false) (.seq (.ops [ ⟨some 11,none,.nilT 6 t1⟩] false) (.seq (.blk 1 (.loop (.seq (.seq (.ops [ ⟨some 93,none,.mv (.t 0)⟩, ⟨some 94,none,.nilCheck (.t 93)⟩, ⟨some 95,none,.faddr 1 (.t 94)⟩, ⟨some 96,none,.load 1 false (.t 95)⟩, ⟨some 97,none,.bin .lss (.t 96) (.c (.int .i64 0))⟩, ⟨some 98,none,.mv (.t 97)⟩, ⟨some 99, some (98, true),.mv (.t 11)⟩, ⟨some 100, some (98, true),.lenL (.t 99)⟩, ⟨some 101, some (98, true),.bin .eql (.t 100) (.c (.int .i64 0))⟩, ⟨some 102, some (98, true),.mv (.t 101)⟩, ⟨some 103, some (102, true),.mv (.t 0)⟩, ⟨some 104, some (102, true),.mv (.t 6)⟩, ⟨some 105, some (102, true),.call c1 [(.t 103),(.t 104),(.c (.str [125]))]⟩, ⟨some 106, some (98, true),.pick (.t 102) (.t 105) (.c (.bool false))⟩, ⟨some 107, some (98, true),.un .not (.t 106)⟩, ⟨some 108,none,.pick (.t 98) (.t 107) (.c (.bool false))⟩] false) (.cond (.t 108) (.skip) (.exit 1))) (.blk 2 (.seq (.ops [ ⟨some 110,none,.mv (.t 0)⟩, ⟨some 111,none,.mv (.t 6)⟩, ⟨some 112,none,.build [(.int .i64 0),(.int .i64 0),(.int .i64 0),(.str []),(.int .i64 0),(.sl true 6 [])] [(0,1,(.c (.int .i64 27))),(1,1,(.t 111))]⟩, ⟨some 113,none,.mv (.t 6)⟩, ⟨some 114,none,.call c5 [(.t 110),(.t 112),(.t 113)]⟩, ⟨some 109,none,.mv (.t 114)⟩, ⟨some 115,none,.ext (.t 109) 0⟩, ⟨some 116,none,.ext (.t 109) 1⟩, ⟨some 12,none,.alloc t1 [(.int .i64 0),(.int .i64 0),(.int .i64 0),(.str []),(.int .i64 0),(.sl true 6 [])]⟩, ⟨none,none,.store 6 (.t 12) (.t 115)⟩, ⟨some 13,none,.mv (.t 116)⟩] false) (.seq (.ops [ ⟨some 117,none,.mv (.t 0)⟩, ⟨some 118,none,.mv (.t 13)⟩, ⟨some 119,none,.call c3 [(.t 117),(.t 118),(.c (.str [58]))]⟩, ⟨some 13,none,.mv (.t 119)⟩] false) (.seq (.ops [ ⟨some 121,none,.mv (.t 0)⟩, ⟨some 122,none,.mv (.t 13)⟩, ⟨some 123,none,.call c2 [(.t 121),(.t 122)]⟩, ⟨some 120,none,.mv (.t 123)⟩, ⟨some 124,none,.ext (.t 120) 0⟩, ⟨some 125,none,.ext (.t 120) 1⟩, ⟨some 14,none,.alloc t1 [(.int .i64 0),(.int .i64 0),(.int .i64 0),(.str []),(.int .i64 0),(.sl true 6 [])]⟩, ⟨none,none,.store 6 (.t 14) (.t 124)⟩, ⟨some 13,none,.mv (.t 125)⟩] false) (.seq (.ops [ ⟨some 126,none,.mv (.t 13)⟩, ⟨some 6,none,.mv (.t 126)⟩] false) (.seq (.ops [ ⟨some 127,none,.mv (.t 11)⟩, ⟨some 128,none,.load 6 true (.t 12)⟩, ⟨some 129,none,.mv (.t 6)⟩, ⟨some 130,none,.load 6 true (.t 14)⟩, ⟨some 131,none,.bslice 6 [(.t 130)]⟩, ⟨some 132,none,.call c4 [(.t 128),(.t 129),(.t 131)]⟩, ⟨some 133,none,.bslice 6 [(.t 132)]⟩, ⟨some 134,none,.app 6 72 t1 (.t 127) (.t 133)⟩, ⟨some 11,none,.mv (.t 134)⟩] false) (.seq (.seq (.ops [ ⟨some 135,none,.mv (.t 0)⟩, ⟨some 136,none,.nilCheck (.t 135)⟩, ⟨some 137,none,.faddr 1 (.t 136)⟩, ⟨some 138,none,.load 1 false (.t 137)⟩, ⟨some 139,none,.bin .geq (.t 138) (.c (.int .i64 0))⟩, ⟨some 140,none,.mv (.t 139)⟩, ⟨some 141, some (140, false),.mv (.t 0)⟩, ⟨some 142, some (140, false),.mv (.t 6)⟩, ⟨some 143, some (140, false),.call c1 [(.t 141),(.t 142),(.c (.str [125]))]⟩, ⟨some 144,none,.pick (.t 140) (.c (.bool true)) (.t 143)⟩] false) (.cond (.t 144) (.exit 1) (.skip))) (.ops [ ⟨some 145,none,.mv (.t 0)⟩, ⟨some 146,none,.mv (.t 6)⟩, ⟨some 147,none,.call c3 [(.t 145),(.t 146),(.c (.str [44]))]⟩, ⟨some 6,none,.mv (.t 147)⟩] false))))))))))) (.seq (.ops [ ⟨some 148,none,.mv (.t 0)⟩, ⟨some 149,none,.mv (.t 6)⟩, ⟨some 150,none,.call c3 [(.t 148),(.t 149),(.c (.str [125]))]⟩, ⟨some 6,none,.mv (.t 150)⟩] false) (.seq (.ops [ ⟨some 151,none,.mv (.t 1)⟩, ⟨some 152,none,.build [(.int .i64 0),(.int .i64 0),(.int .i64 0),(.str []),(.int .i64 0),(.sl true 6 [])] [(0,1,(.c (.int .i64 26))),(1,1,(.t 151))]⟩, ⟨some 153,none,.mv (.t 6)⟩, ⟨some 154,none,.mv (.t 11)⟩, ⟨some 155,none,.call c4 [(.t 152),(.t 153),(.t 154)]⟩, ⟨some 156,none,.mv (.t 6)⟩, ⟨none,none,.store 6 (.t 4) (.t 155)⟩, ⟨some 5,none,.mv (.t 156)⟩] false) (.ret)))))) (.skip))) (.seq (.ops [ ⟨some 157,none,.mv (.t 0)⟩, ⟨some 158,none,.mv (.t 6)⟩, ⟨some 159,none,.call c3 [(.t 157),(.t 158),(.c (.str [102,110]))]⟩, ⟨some 6,none,.mv (.t 159)⟩] false) (.seq (.ops [ ⟨some 161,none,.mv (.t 0)⟩, ⟨some 162,none,.mv (.t 6)⟩, ⟨some 163,none,.call c6 [(.t 161),(.t 162)]⟩, ⟨some 160,none,.mv (.t 163)⟩, ⟨some 164,none,.ext (.t 160) 0⟩, ⟨some 165,none,.ext (.t 160) 1⟩, ⟨some 15,none,.mv (.t 164)⟩, ⟨some 6,none,.mv (.t 165)⟩] false) (.seq (.ops [ ⟨some 166,none,.mv (.t 1)⟩, ⟨some 167,none,.build [(.int .i64 0),(.int .i64 0),(.int .i64 0),(.str []),(.int .i64 0),(.sl true 6 [])] [(0,1,(.c (.int .i64 28))),(1,1,(.t 166))]⟩, ⟨some 168,none,.mv (.t 6)⟩, ⟨some 169,none,.mv (.t 15)⟩, ⟨some 170,none,.call c4 [(.t 167),(.t 168),(.t 169)]⟩, ⟨some 171,none,.mv (.t 6)⟩, ⟨none,none,.store 6 (.t 4) (.t 170)⟩, ⟨some 5,none,.mv (.t 171)⟩] false) (.ret)))))))))))))) }
def irR4Lex (c1 c2 c3 t1 : Nat) : IFn := { nt := 69, res := [.t 2,.t 3,.t 4], body := ( .seq (.ops [ ⟨some 2,none,.mv (.c (.sl true 4 []))⟩, ⟨some 3,none,.mv (.c (.int .i64 0))⟩, ⟨some 4,none,.mv (.c (.int .i64 0))⟩] false) (.seq (.seq (.ops [ ⟨some 14,none,.mv (.t 0)⟩, ⟨some 15,none,.lenS (.t 14)⟩, ⟨some 16,none,.bin .gtr (.t 15) (.c (.int .i64 16384))⟩] false) (.cond (.t 16) (.seq (.ops [ ⟨some 2,none,.mv (.c (.sl true 4 []))⟩, ⟨some 3,none,.mv (.c (.int .i64 5))⟩, ⟨some 4,none,.mv (.c (.int .i64 16384))⟩] false) (.ret)) (.skip))) (.seq (.ops [ ⟨some 17,none,.mv (.t 0)⟩, ⟨some 18,none,.call c1 [(.t 17)]⟩, ⟨some 5,none,.mv (.t 18)⟩] false) (.seq (.seq (.ops [ ⟨some 19,none,.mv (.t 5)⟩, ⟨some 20,none,.bin .geq (.t 19) (.c (.int .i64 0))⟩] false) (.cond (.t 20) (.seq (.ops [ ⟨some 21,none,.mv (.t 5)⟩, ⟨some 2,none,.mv (.c (.sl true 4 []))⟩, ⟨some 3,none,.mv (.c (.int .i64 20))⟩, ⟨some 4,none,.mv (.t 21)⟩] false) (.ret)) (.skip))) (.seq (.ops [ ⟨some 6,none,.nilT 4 t1⟩] false) (.seq (.ops [ ⟨some 7,none,.mv (.c (.int .i64 0))⟩] false) (.blk 0 (.loop (.blk 1 (.seq (.ops [ ⟨some 22,none,.mv (.t 7)⟩, ⟨some 8,none,.mv (.t 22)⟩] false) (.seq (.ops [ ⟨some 23,none,.mv (.t 0)⟩, ⟨some 24,none,.mv (.t 7)⟩, ⟨some 25,none,.call c2 [(.t 23),(.t 24)]⟩, ⟨some 7,none,.mv (.t 25)⟩] false) (.seq (.ops [ ⟨some 26,none,.mv (.t 7)⟩, ⟨some 27,none,.mv (.t 0)⟩, ⟨some 28,none,.mv (.t 8)⟩, ⟨some 29,none,.mv (.t 7)⟩, ⟨some 30,none,.sslice (.t 27) (some (.t 28)) (some (.t 29))⟩, ⟨some 31,none,.build [(.int .i64 0),(.int .i64 0),(.str []),(.str [])] [(1,1,(.t 26)),(2,1,(.t 30))]⟩, ⟨some 9,none,.alloc t1 [(.int .i64 0),(.int .i64 0),(.str []),(.str [])]⟩, ⟨none,none,.store 4 (.t 9) (.t 31)⟩] false) (.seq (.ops [ ⟨some 32,none,.mv (.t 7)⟩, ⟨some 10,none,.mv (.t 32)⟩] false) (.seq (.seq (.ops [ ⟨some 33,none,.mv (.t 7)⟩, ⟨some 34,none,.mv (.t 0)⟩, ⟨some 35,none,.lenS (.t 34)⟩, ⟨some 36,none,.bin .lss (.t 33) (.t 35)⟩] false) (.cond (.t 36) (.seq (.ops [ ⟨some 38,none,.mv (.t 0)⟩, ⟨some 39,none,.mv (.t 7)⟩, ⟨some 40,none,.call c3 [(.t 38),(.t 39)]⟩, ⟨some 37,none,.mv (.t 40)⟩, ⟨some 41,none,.ext (.t 37) 0⟩, ⟨some 42,none,.ext (.t 37) 1⟩, ⟨some 43,none,.ext (.t 37) 2⟩, ⟨some 11,none,.mv (.t 41)⟩, ⟨some 12,none,.mv (.t 42)⟩, ⟨some 13,none,.mv (.t 43)⟩] false) (.seq (.seq (.ops [ ⟨some 44,none,.mv (.t 13)⟩, ⟨some 45,none,.bin .neq (.t 44) (.c (.int .i64 0))⟩] false) (.cond (.t 45) (.seq (.ops [ ⟨some 46,none,.mv (.t 13)⟩, ⟨some 47,none,.mv (.t 7)⟩, ⟨some 2,none,.mv (.c (.sl true 4 []))⟩, ⟨some 3,none,.mv (.t 46)⟩, ⟨some 4,none,.mv (.t 47)⟩] false) (.ret)) (.skip))) (.seq (.ops [ ⟨some 48,none,.mv (.t 11)⟩, ⟨some 49,none,.faddr 0 (.t 9)⟩, ⟨none,none,.store 1 (.t 49) (.t 48)⟩] false) (.ops [ ⟨some 50,none,.mv (.t 12)⟩, ⟨some 10,none,.mv (.t 50)⟩] false)))) (.skip))) (.seq (.seq (.ops [ ⟨some 51,none,.mv (.t 6)⟩, ⟨some 52,none,.lenL (.t 51)⟩, ⟨some 53,none,.bin .geq (.t 52) (.c (.int .i64 4000))⟩] false) (.cond (.t 53) (.seq (.ops [ ⟨some 54,none,.mv (.t 7)⟩, ⟨some 2,none,.mv (.c (.sl true 4 []))⟩, ⟨some 3,none,.mv (.c (.int .i64 5))⟩, ⟨some 4,none,.mv (.t 54)⟩] false) (.ret)) (.skip))) (.seq (.ops [ ⟨some 55,none,.mv (.t 0)⟩, ⟨some 56,none,.mv (.t 7)⟩, ⟨some 57,none,.mv (.t 10)⟩, ⟨some 58,none,.sslice (.t 55) (some (.t 56)) (some (.t 57))⟩, ⟨some 59,none,.faddr 3 (.t 9)⟩, ⟨none,none,.store 1 (.t 59) (.t 58)⟩] false) (.seq (.ops [ ⟨some 60,none,.mv (.t 10)⟩, ⟨some 7,none,.mv (.t 60)⟩] false) (.seq (.ops [ ⟨some 61,none,.mv (.t 6)⟩, ⟨some 62,none,.load 4 true (.t 9)⟩, ⟨some 63,none,.bslice 4 [(.t 62)]⟩, ⟨some 64,none,.app 4 48 t1 (.t 61) (.t 63)⟩, ⟨some 6,none,.mv (.t 64)⟩] false) (.seq (.ops [ ⟨some 65,none,.faddr 0 (.t 9)⟩, ⟨some 66,none,.load 1 false (.t 65)⟩, ⟨some 67,none,.bin .eql (.t 66) (.c (.int .i64 0))⟩] false) (.cond (.t 67) (.seq (.ops [ ⟨some 68,none,.mv (.t 6)⟩, ⟨some 2,none,.mv (.t 68)⟩, ⟨some 3,none,.mv (.c (.int .i64 0))⟩, ⟨some 4,none,.mv (.c (.int .i64 0))⟩] false) (.ret)) (.skip))))))))))))))))))))) }
def irR4Lead : IFn := { nt := 51, res := [.t 4], body := ( .seq (.ops [ ⟨some 4,none,.mv (.c (.int .i64 0))⟩] false) (.seq (.blk 0 (.loop (.seq (.seq (.ops [ ⟨some 5,none,.mv (.t 1)⟩, ⟨some 6,none,.mv (.t 0)⟩, ⟨some 7,none,.lenS (.t 6)⟩, ⟨some 8,none,.bin .lss (.t 5) (.t 7)⟩] false) (.cond (.t 8) (.skip) (.exit 0))) (.blk 1 (.seq (.seq (.ops [ ⟨some 9,none,.mv (.t 0)⟩, ⟨some 10,none,.mv (.t 1)⟩, ⟨some 11,none,.sidx (.t 9) (.t 10)⟩, ⟨some 12,none,.bin .eql (.t 11) (.c (.int .u8 32))⟩, ⟨some 13,none,.mv (.t 12)⟩, ⟨some 14, some (13, false),.mv (.t 0)⟩, ⟨some 15, some (13, false),.mv (.t 1)⟩, ⟨some 16, some (13, false),.sidx (.t 14) (.t 15)⟩, ⟨some 17, some (13, false),.bin .eql (.t 16) (.c (.int .u8 9))⟩, ⟨some 18,none,.pick (.t 13) (.c (.bool true)) (.t 17)⟩, ⟨some 19,none,.mv (.t 18)⟩, ⟨some 20, some (19, false),.mv (.t 0)⟩, ⟨some 21, some (19, false),.mv (.t 1)⟩, ⟨some 22, some (19, false),.sidx (.t 20) (.t 21)⟩, ⟨some 23, some (19, false),.bin .eql (.t 22) (.c (.int .u8 10))⟩, ⟨some 24,none,.pick (.t 19) (.c (.bool true)) (.t 23)⟩, ⟨some 25,none,.mv (.t 24)⟩, ⟨some 26, some (25, false),.mv (.t 0)⟩, ⟨some 27, some (25, false),.mv (.t 1)⟩, ⟨some 28, some (25, false),.sidx (.t 26) (.t 27)⟩, ⟨some 29, some (25, false),.bin .eql (.t 28) (.c (.int .u8 13))⟩, ⟨some 30,none,.pick (.t 25) (.c (.bool true)) (.t 29)⟩] false) (.cond (.t 30) (.seq (.ops [ ⟨some 31,none,.mv (.t 1)⟩, ⟨some 32,none,.bin .add (.t 31) (.c (.int .i64 1))⟩, ⟨some 1,none,.mv (.t 32)⟩] false) (.exit 1)) (.skip))) (.seq (.seq (.ops [ ⟨some 33,none,.mv (.t 0)⟩, ⟨some 34,none,.mv (.t 1)⟩, ⟨some 35,none,.sidx (.t 33) (.t 34)⟩, ⟨some 36,none,.bin .neq (.t 35) (.c (.int .u8 35))⟩] false) (.cond (.t 36) (.seq (.ops [ ⟨some 37,none,.mv (.t 1)⟩, ⟨some 4,none,.mv (.t 37)⟩] false) (.ret)) (.skip))) (.blk 2 (.loop (.seq (.seq (.ops [ ⟨some 38,none,.mv (.t 1)⟩, ⟨some 39,none,.mv (.t 0)⟩, ⟨some 40,none,.lenS (.t 39)⟩, ⟨some 41,none,.bin .lss (.t 38) (.t 40)⟩, ⟨some 42,none,.mv (.t 41)⟩, ⟨some 43, some (42, true),.mv (.t 0)⟩, ⟨some 44, some (42, true),.mv (.t 1)⟩, ⟨some 45, some (42, true),.sidx (.t 43) (.t 44)⟩, ⟨some 46, some (42, true),.bin .neq (.t 45) (.c (.int .u8 10))⟩, ⟨some 47,none,.pick (.t 42) (.t 46) (.c (.bool false))⟩] false) (.cond (.t 47) (.skip) (.exit 2))) (.blk 3 (.ops [ ⟨some 48,none,.mv (.t 1)⟩, ⟨some 49,none,.bin .add (.t 48) (.c (.int .i64 1))⟩, ⟨some 1,none,.mv (.t 49)⟩] false))))))))))) (.seq (.ops [ ⟨some 50,none,.mv (.t 1)⟩, ⟨some 4,none,.mv (.t 50)⟩] false) (.ret)))) }
def irR4One (c1 c2 c3 c4 : Nat) : IFn := { nt := 170, res := [.t 4,.t 5,.t 6], body := ( .seq (.ops [ ⟨some 4,none,.mv (.c (.int .i64 0))⟩, ⟨some 5,none,.mv (.c (.int .i64 0))⟩, ⟨some 6,none,.mv (.c (.int .i64 0))⟩] false) (.seq (.ops [ ⟨some 16,none,.mv (.t 1)⟩, ⟨some 17,none,.bin .add (.t 16) (.c (.int .i64 1))⟩, ⟨some 7,none,.mv (.t 17)⟩] false) (.seq (.seq (.ops [ ⟨some 18,none,.mv (.t 0)⟩, ⟨some 19,none,.mv (.t 1)⟩, ⟨some 20,none,.sidx (.t 18) (.t 19)⟩, ⟨some 21,none,.call c1 [(.t 20)]⟩, ⟨some 22,none,.mv (.t 21)⟩, ⟨some 23, some (22, false),.mv (.t 0)⟩, ⟨some 24, some (22, false),.mv (.t 1)⟩, ⟨some 25, some (22, false),.sidx (.t 23) (.t 24)⟩, ⟨some 26, some (22, false),.call c2 [(.t 25)]⟩, ⟨some 27,none,.pick (.t 22) (.c (.bool true)) (.t 26)⟩] false) (.cond (.t 27) (.seq (.blk 0 (.loop (.seq (.seq (.ops [ ⟨some 28,none,.mv (.t 7)⟩, ⟨some 29,none,.mv (.t 0)⟩, ⟨some 30,none,.lenS (.t 29)⟩, ⟨some 31,none,.bin .lss (.t 28) (.t 30)⟩, ⟨some 32,none,.mv (.t 31)⟩, ⟨some 33, some (32, true),.mv (.t 0)⟩, ⟨some 34, some (32, true),.mv (.t 7)⟩, ⟨some 35, some (32, true),.sidx (.t 33) (.t 34)⟩, ⟨some 36, some (32, true),.call c1 [(.t 35)]⟩, ⟨some 37, some (32, true),.mv (.t 36)⟩, ⟨some 38, some (37, false),.mv (.t 0)⟩, ⟨some 39, some (37, false),.mv (.t 7)⟩, ⟨some 40, some (37, false),.sidx (.t 38) (.t 39)⟩, ⟨some 41, some (37, false),.call c2 [(.t 40)]⟩, ⟨some 42, some (32, true),.pick (.t 37) (.c (.bool true)) (.t 41)⟩, ⟨some 43,none,.pick (.t 32) (.t 42) (.c (.bool false))⟩] false) (.cond (.t 43) (.skip) (.exit 0))) (.blk 1 (.ops [ ⟨some 44,none,.mv (.t 7)⟩, ⟨some 45,none,.bin .add (.t 44) (.c (.int .i64 1))⟩, ⟨some 7,none,.mv (.t 45)⟩] false))))) (.seq (.ops [ ⟨some 46,none,.mv (.t 0)⟩, ⟨some 47,none,.mv (.t 1)⟩, ⟨some 48,none,.mv (.t 7)⟩, ⟨some 49,none,.sslice (.t 46) (some (.t 47)) (some (.t 48))⟩, ⟨some 8,none,.mv (.t 49)⟩] false) (.seq (.seq (.ops [ ⟨some 50,none,.mv (.t 8)⟩, ⟨some 51,none,.call c3 [(.t 50)]⟩] false) (.cond (.t 51) (.seq (.ops [ ⟨some 52,none,.mv (.t 7)⟩, ⟨some 4,none,.mv (.c (.int .i64 2))⟩, ⟨some 5,none,.mv (.t 52)⟩, ⟨some 6,none,.mv (.c (.int .i64 0))⟩] false) (.ret)) (.skip))) (.seq (.seq (.ops [ ⟨some 53,none,.mv (.t 0)⟩, ⟨some 54,none,.mv (.t 1)⟩, ⟨some 55,none,.sidx (.t 53) (.t 54)⟩, ⟨some 56,none,.call c1 [(.t 55)]⟩] false) (.cond (.t 56) (.seq (.seq (.ops [ ⟨some 57,none,.mv (.t 8)⟩, ⟨some 58,none,.lenS (.t 57)⟩, ⟨some 59,none,.bin .gtr (.t 58) (.c (.int .i64 40))⟩] false) (.cond (.t 59) (.seq (.ops [ ⟨some 4,none,.mv (.c (.int .i64 0))⟩, ⟨some 5,none,.mv (.c (.int .i64 0))⟩, ⟨some 6,none,.mv (.c (.int .i64 26))⟩] false) (.ret)) (.skip))) (.seq (.ops [ ⟨some 60,none,.mv (.t 7)⟩, ⟨some 4,none,.mv (.c (.int .i64 1))⟩, ⟨some 5,none,.mv (.t 60)⟩, ⟨some 6,none,.mv (.c (.int .i64 0))⟩] false) (.ret))) (.skip))) (.seq (.ops [ ⟨some 9,none,.mv (.c (.int .u64 0))⟩] false) (.seq (.seq (.ops [ ⟨some 10,none,.mv (.c (.int .i64 0))⟩] false) (.blk 2 (.loop (.seq (.seq (.ops [ ⟨some 61,none,.mv (.t 10)⟩, ⟨some 62,none,.mv (.t 8)⟩, ⟨some 63,none,.lenS (.t 62)⟩, ⟨some 64,none,.bin .lss (.t 61) (.t 63)⟩] false) (.cond (.t 64) (.skip) (.exit 2))) (.seq (.blk 3 (.seq (.seq (.ops [ ⟨some 67,none,.mv (.t 8)⟩, ⟨some 68,none,.mv (.t 10)⟩, ⟨some 69,none,.sidx (.t 67) (.t 68)⟩, ⟨some 70,none,.call c2 [(.t 69)]⟩, ⟨some 71,none,.un .not (.t 70)⟩] false) (.cond (.t 71) (.seq (.ops [ ⟨some 4,none,.mv (.c (.int .i64 0))⟩, ⟨some 5,none,.mv (.c (.int .i64 0))⟩, ⟨some 6,none,.mv (.c (.int .i64 23))⟩] false) (.ret)) (.skip))) (.seq (.ops [ ⟨some 72,none,.mv (.t 8)⟩, ⟨some 73,none,.mv (.t 10)⟩, ⟨some 74,none,.sidx (.t 72) (.t 73)⟩, ⟨some 75,none,.bin .sub (.t 74) (.c (.int .u8 48))⟩, ⟨some 76,none,.cvt .u64 (.t 75)⟩, ⟨some 11,none,.mv (.t 76)⟩] false) (.seq (.seq (.ops [ ⟨some 77,none,.mv (.t 9)⟩, ⟨some 78,none,.mv (.t 11)⟩, ⟨some 79,none,.bin .sub (.c (.int .u64 9223372036854775807)) (.t 78)⟩, ⟨some 80,none,.bin .quo (.t 79) (.c (.int .u64 10))⟩, ⟨some 81,none,.bin .gtr (.t 77) (.t 80)⟩] false) (.cond (.t 81) (.seq (.ops [ ⟨some 4,none,.mv (.c (.int .i64 0))⟩, ⟨some 5,none,.mv (.c (.int .i64 0))⟩, ⟨some 6,none,.mv (.c (.int .i64 23))⟩] false) (.ret)) (.skip))) (.ops [ ⟨some 82,none,.mv (.t 9)⟩, ⟨some 83,none,.bin .mul (.t 82) (.c (.int .u64 10))⟩, ⟨some 84,none,.mv (.t 11)⟩, ⟨some 85,none,.bin .add (.t 83) (.t 84)⟩, ⟨some 9,none,.mv (.t 85)⟩] false))))) (.ops [ ⟨some 65,none,.mv (.t 10)⟩, ⟨some 66,none,.bin .add (.t 65) (.c (.int .i64 1))⟩, ⟨some 10,none,.mv (.t 66)⟩] false)))))) (.seq (.ops [ ⟨some 86,none,.mv (.t 7)⟩, ⟨some 4,none,.mv (.c (.int .i64 3))⟩, ⟨some 5,none,.mv (.t 86)⟩, ⟨some 6,none,.mv (.c (.int .i64 0))⟩] false) (.ret)))))))) (.skip))) (.seq (.seq (.ops [ ⟨some 87,none,.mv (.t 0)⟩, ⟨some 88,none,.mv (.t 1)⟩, ⟨some 89,none,.sidx (.t 87) (.t 88)⟩, ⟨some 90,none,.bin .eql (.t 89) (.c (.int .u8 34))⟩] false) (.cond (.t 90) (.seq (.blk 4 (.loop (.seq (.seq (.ops [ ⟨some 91,none,.mv (.t 7)⟩, ⟨some 92,none,.mv (.t 0)⟩, ⟨some 93,none,.lenS (.t 92)⟩, ⟨some 94,none,.bin .lss (.t 91) (.t 93)⟩, ⟨some 95,none,.mv (.t 94)⟩, ⟨some 96, some (95, true),.mv (.t 0)⟩, ⟨some 97, some (95, true),.mv (.t 7)⟩, ⟨some 98, some (95, true),.sidx (.t 96) (.t 97)⟩, ⟨some 99, some (95, true),.bin .neq (.t 98) (.c (.int .u8 34))⟩, ⟨some 100,none,.pick (.t 95) (.t 99) (.c (.bool false))⟩, ⟨some 101,none,.mv (.t 100)⟩, ⟨some 102, some (101, true),.mv (.t 0)⟩, ⟨some 103, some (101, true),.mv (.t 7)⟩, ⟨some 104, some (101, true),.sidx (.t 102) (.t 103)⟩, ⟨some 105, some (101, true),.bin .neq (.t 104) (.c (.int .u8 10))⟩, ⟨some 106,none,.pick (.t 101) (.t 105) (.c (.bool false))⟩] false) (.cond (.t 106) (.skip) (.exit 4))) (.blk 5 (.seq (.seq (.ops [ ⟨some 107,none,.mv (.t 0)⟩, ⟨some 108,none,.mv (.t 7)⟩, ⟨some 109,none,.sidx (.t 107) (.t 108)⟩, ⟨some 110,none,.bin .eql (.t 109) (.c (.int .u8 92))⟩] false) (.cond (.t 110) (.ops [ ⟨some 111,none,.mv (.t 7)⟩, ⟨some 112,none,.bin .add (.t 111) (.c (.int .i64 1))⟩, ⟨some 7,none,.mv (.t 112)⟩] false) (.skip))) (.ops [ ⟨some 113,none,.mv (.t 7)⟩, ⟨some 114,none,.bin .add (.t 113) (.c (.int .i64 1))⟩, ⟨some 7,none,.mv (.t 114)⟩] false)))))) (.seq (.seq (.ops [ ⟨some 115,none,.mv (.t 7)⟩, ⟨some 116,none,.mv (.t 0)⟩, ⟨some 117,none,.lenS (.t 116)⟩, ⟨some 118,none,.bin .geq (.t 115) (.t 117)⟩, ⟨some 119,none,.mv (.t 118)⟩, ⟨some 120, some (119, false),.mv (.t 0)⟩, ⟨some 121, some (119, false),.mv (.t 7)⟩, ⟨some 122, some (119, false),.sidx (.t 120) (.t 121)⟩, ⟨some 123, some (119, false),.bin .eql (.t 122) (.c (.int .u8 10))⟩, ⟨some 124,none,.pick (.t 119) (.c (.bool true)) (.t 123)⟩] false) (.cond (.t 124) (.seq (.ops [ ⟨some 4,none,.mv (.c (.int .i64 0))⟩, ⟨some 5,none,.mv (.c (.int .i64 0))⟩, ⟨some 6,none,.mv (.c (.int .i64 22))⟩] false) (.ret)) (.skip))) (.seq (.ops [ ⟨some 126,none,.mv (.t 0)⟩, ⟨some 127,none,.mv (.t 1)⟩, ⟨some 128,none,.mv (.t 7)⟩, ⟨some 129,none,.bin .add (.t 128) (.c (.int .i64 1))⟩, ⟨some 130,none,.sslice (.t 126) (some (.t 127)) (some (.t 129))⟩, ⟨some 131,none,.call c4 [(.t 130)]⟩, ⟨some 125,none,.mv (.t 131)⟩, ⟨some 132,none,.ext (.t 125) 0⟩, ⟨some 133,none,.ext (.t 125) 1⟩, ⟨some 12,none,.mv (.t 132)⟩, ⟨some 13,none,.mv (.t 133)⟩] false) (.seq (.seq (.ops [ ⟨some 134,none,.mv (.t 13)⟩, ⟨some 135,none,.bin .neq (.t 134) (.c (.int .i64 0))⟩] false) (.cond (.t 135) (.seq (.ops [ ⟨some 4,none,.mv (.c (.int .i64 0))⟩, ⟨some 5,none,.mv (.c (.int .i64 0))⟩, ⟨some 6,none,.mv (.c (.int .i64 22))⟩] false) (.ret)) (.skip))) (.seq (.ops [ ⟨some 136,none,.mv (.t 7)⟩, ⟨some 137,none,.bin .add (.t 136) (.c (.int .i64 1))⟩, ⟨some 4,none,.mv (.c (.int .i64 4))⟩, ⟨some 5,none,.mv (.t 137)⟩, ⟨some 6,none,.mv (.c (.int .i64 0))⟩] false) (.ret)))))) (.skip))) (.seq (.seq (.ops [ ⟨some 138,none,.mv (.t 7)⟩, ⟨some 139,none,.mv (.t 0)⟩, ⟨some 140,none,.lenS (.t 139)⟩, ⟨some 141,none,.bin .lss (.t 138) (.t 140)⟩, ⟨some 142,none,.mv (.t 141)⟩, ⟨some 143, some (142, true),.mv (.t 0)⟩, ⟨some 144, some (142, true),.mv (.t 1)⟩, ⟨some 145, some (142, true),.sidx (.t 143) (.t 144)⟩, ⟨some 146, some (142, true),.bin .eql (.t 145) (.c (.int .u8 61))⟩, ⟨some 147,none,.pick (.t 142) (.t 146) (.c (.bool false))⟩, ⟨some 148,none,.mv (.t 147)⟩, ⟨some 149, some (148, true),.mv (.t 0)⟩, ⟨some 150, some (148, true),.mv (.t 7)⟩, ⟨some 151, some (148, true),.sidx (.t 149) (.t 150)⟩, ⟨some 152, some (148, true),.bin .eql (.t 151) (.c (.int .u8 61))⟩, ⟨some 153,none,.pick (.t 148) (.t 152) (.c (.bool false))⟩] false) (.cond (.t 153) (.seq (.ops [ ⟨some 154,none,.mv (.t 7)⟩, ⟨some 155,none,.bin .add (.t 154) (.c (.int .i64 1))⟩, ⟨some 4,none,.mv (.c (.int .i64 5))⟩, ⟨some 5,none,.mv (.t 155)⟩, ⟨some 6,none,.mv (.c (.int .i64 0))⟩] false) (.ret)) (.skip))) (.seq (.ops [ ⟨some 14,none,.mv (.c (.str [40,41,123,125,44,59,58,46,61,43,45,42,60]))⟩] false) (.seq (.seq (.ops [ ⟨some 15,none,.mv (.c (.int .i64 0))⟩] false) (.blk 6 (.loop (.seq (.seq (.ops [ ⟨some 156,none,.mv (.t 15)⟩, ⟨some 157,none,.mv (.t 14)⟩, ⟨some 158,none,.lenS (.t 157)⟩, ⟨some 159,none,.bin .lss (.t 156) (.t 158)⟩] false) (.cond (.t 159) (.skip) (.exit 6))) (.seq (.blk 7 (.seq (.ops [ ⟨some 162,none,.mv (.t 14)⟩, ⟨some 163,none,.mv (.t 15)⟩, ⟨some 164,none,.sidx (.t 162) (.t 163)⟩, ⟨some 165,none,.mv (.t 0)⟩, ⟨some 166,none,.mv (.t 1)⟩, ⟨some 167,none,.sidx (.t 165) (.t 166)⟩, ⟨some 168,none,.bin .eql (.t 164) (.t 167)⟩] true) (.cond (.t 168) (.seq (.ops [ ⟨some 169,none,.mv (.t 7)⟩, ⟨some 4,none,.mv (.c (.int .i64 5))⟩, ⟨some 5,none,.mv (.t 169)⟩, ⟨some 6,none,.mv (.c (.int .i64 0))⟩] false) (.ret)) (.skip)))) (.ops [ ⟨some 160,none,.mv (.t 15)⟩, ⟨some 161,none,.bin .add (.t 160) (.c (.int .i64 1))⟩, ⟨some 15,none,.mv (.t 161)⟩] false)))))) (.seq (.ops [ ⟨some 4,none,.mv (.c (.int .i64 0))⟩, ⟨some 5,none,.mv (.c (.int .i64 0))⟩, ⟨some 6,none,.mv (.c (.int .i64 21))⟩] false) (.ret))))))))) }
def irR3Bad (c1 : Nat) : IFn := { nt := 24, res := [.t 2], body := ( .seq (.ops [ ⟨some 2,none,.mv (.c (.int .i64 0))⟩] false) (.seq (.seq (.ops [ ⟨some 3,none,.mv (.c (.int .i64 0))⟩] false) (.blk 0 (.loop (.seq (.seq (.ops [ ⟨some 7,none,.mv (.t 3)⟩, ⟨some 8,none,.mv (.t 0)⟩, ⟨some 9,none,.lenS (.t 8)⟩, ⟨some 10,none,.bin .lss (.t 7) (.t 9)⟩] false) (.cond (.t 10) (.skip) (.exit 0))) (.blk 1 (.seq (.ops [ ⟨some 12,none,.mv (.t 0)⟩, ⟨some 13,none,.mv (.t 3)⟩, ⟨some 14,none,.call c1 [(.t 12),(.t 13)]⟩, ⟨some 11,none,.mv (.t 14)⟩, ⟨some 15,none,.ext (.t 11) 0⟩, ⟨some 16,none,.ext (.t 11) 1⟩, ⟨some 17,none,.ext (.t 11) 2⟩, ⟨some 4,none,.mv (.t 15)⟩, ⟨some 5,none,.mv (.t 16)⟩, ⟨some 6,none,.mv (.t 17)⟩] false) (.seq (.seq (.ops [ ⟨some 18,none,.mv (.t 6)⟩, ⟨some 19,none,.un .not (.t 18)⟩] false) (.cond (.t 19) (.seq (.ops [ ⟨some 20,none,.mv (.t 3)⟩, ⟨some 2,none,.mv (.t 20)⟩] false) (.ret)) (.skip))) (.ops [ ⟨some 21,none,.mv (.t 3)⟩, ⟨some 22,none,.mv (.t 5)⟩, ⟨some 23,none,.bin .add (.t 21) (.t 22)⟩, ⟨some 3,none,.mv (.t 23)⟩] false)))))))) (.seq (.ops [ ⟨some 2,none,.mv (.c (.int .i64 (-1)))⟩] false) (.ret)))) }
def irR3Next (c1 : Nat) : IFn := { nt := 92, res := [.t 4,.t 5,.t 6], body := ( .seq (.ops [ ⟨some 4,none,.mv (.c (.int .i64 0))⟩, ⟨some 5,none,.mv (.c (.int .i64 0))⟩, ⟨some 6,none,.mv (.c (.bool false))⟩] false) (.seq (.ops [ ⟨some 12,none,.mv (.t 0)⟩, ⟨some 13,none,.mv (.t 1)⟩, ⟨some 14,none,.sidx (.t 12) (.t 13)⟩, ⟨some 15,none,.cvt .i64 (.t 14)⟩, ⟨some 7,none,.mv (.t 15)⟩] false) (.seq (.seq (.ops [ ⟨some 16,none,.mv (.t 7)⟩, ⟨some 17,none,.bin .lss (.t 16) (.c (.int .i64 128))⟩] false) (.cond (.t 17) (.seq (.ops [ ⟨some 18,none,.mv (.t 7)⟩, ⟨some 4,none,.mv (.t 18)⟩, ⟨some 5,none,.mv (.c (.int .i64 1))⟩, ⟨some 6,none,.mv (.c (.bool true))⟩] false) (.ret)) (.skip))) (.seq (.ops [ ⟨some 8,none,.mv (.c (.int .i64 0))⟩, ⟨some 9,none,.mv (.c (.int .i64 0))⟩, ⟨some 10,none,.mv (.c (.int .i64 0))⟩] false) (.seq (.seq (.ops [ ⟨some 19,none,.mv (.t 7)⟩, ⟨some 20,none,.bin .geq (.t 19) (.c (.int .i64 192))⟩, ⟨some 21,none,.mv (.t 20)⟩, ⟨some 22, some (21, true),.mv (.t 7)⟩, ⟨some 23, some (21, true),.bin .lss (.t 22) (.c (.int .i64 224))⟩, ⟨some 24,none,.pick (.t 21) (.t 23) (.c (.bool false))⟩] false) (.cond (.t 24) (.ops [ ⟨some 25,none,.mv (.t 7)⟩, ⟨some 26,none,.bin .sub (.t 25) (.c (.int .i64 192))⟩, ⟨some 8,none,.mv (.c (.int .i64 2))⟩, ⟨some 9,none,.mv (.t 26)⟩, ⟨some 10,none,.mv (.c (.int .i64 128))⟩] false) (.skip))) (.seq (.seq (.ops [ ⟨some 27,none,.mv (.t 7)⟩, ⟨some 28,none,.bin .geq (.t 27) (.c (.int .i64 224))⟩, ⟨some 29,none,.mv (.t 28)⟩, ⟨some 30, some (29, true),.mv (.t 7)⟩, ⟨some 31, some (29, true),.bin .lss (.t 30) (.c (.int .i64 240))⟩, ⟨some 32,none,.pick (.t 29) (.t 31) (.c (.bool false))⟩] false) (.cond (.t 32) (.ops [ ⟨some 33,none,.mv (.t 7)⟩, ⟨some 34,none,.bin .sub (.t 33) (.c (.int .i64 224))⟩, ⟨some 8,none,.mv (.c (.int .i64 3))⟩, ⟨some 9,none,.mv (.t 34)⟩, ⟨some 10,none,.mv (.c (.int .i64 2048))⟩] false) (.skip))) (.seq (.seq (.ops [ ⟨some 35,none,.mv (.t 7)⟩, ⟨some 36,none,.bin .geq (.t 35) (.c (.int .i64 240))⟩, ⟨some 37,none,.mv (.t 36)⟩, ⟨some 38, some (37, true),.mv (.t 7)⟩, ⟨some 39, some (37, true),.bin .lss (.t 38) (.c (.int .i64 248))⟩, ⟨some 40,none,.pick (.t 37) (.t 39) (.c (.bool false))⟩] false) (.cond (.t 40) (.ops [ ⟨some 41,none,.mv (.t 7)⟩, ⟨some 42,none,.bin .sub (.t 41) (.c (.int .i64 240))⟩, ⟨some 8,none,.mv (.c (.int .i64 4))⟩, ⟨some 9,none,.mv (.t 42)⟩, ⟨some 10,none,.mv (.c (.int .i64 65536))⟩] false) (.skip))) (.seq (.seq (.ops [ ⟨some 43,none,.mv (.t 8)⟩, ⟨some 44,none,.bin .eql (.t 43) (.c (.int .i64 0))⟩, ⟨some 45,none,.mv (.t 44)⟩, ⟨some 46, some (45, false),.mv (.t 0)⟩, ⟨some 47, some (45, false),.lenS (.t 46)⟩, ⟨some 48, some (45, false),.mv (.t 1)⟩, ⟨some 49, some (45, false),.bin .sub (.t 47) (.t 48)⟩, ⟨some 50, some (45, false),.mv (.t 8)⟩, ⟨some 51, some (45, false),.bin .lss (.t 49) (.t 50)⟩, ⟨some 52,none,.pick (.t 45) (.c (.bool true)) (.t 51)⟩] false) (.cond (.t 52) (.seq (.ops [ ⟨some 4,none,.mv (.c (.int .i64 65533))⟩, ⟨some 5,none,.mv (.c (.int .i64 1))⟩, ⟨some 6,none,.mv (.c (.bool false))⟩] false) (.ret)) (.skip))) (.seq (.seq (.ops [ ⟨some 11,none,.mv (.c (.int .i64 1))⟩] false) (.blk 0 (.loop (.seq (.seq (.ops [ ⟨some 53,none,.mv (.t 11)⟩, ⟨some 54,none,.mv (.t 8)⟩, ⟨some 55,none,.bin .lss (.t 53) (.t 54)⟩] false) (.cond (.t 55) (.skip) (.exit 0))) (.seq (.blk 1 (.seq (.seq (.ops [ ⟨some 58,none,.mv (.t 0)⟩, ⟨some 59,none,.mv (.t 1)⟩, ⟨some 60,none,.mv (.t 11)⟩, ⟨some 61,none,.bin .add (.t 59) (.t 60)⟩, ⟨some 62,none,.sidx (.t 58) (.t 61)⟩, ⟨some 63,none,.call c1 [(.t 62)]⟩, ⟨some 64,none,.un .not (.t 63)⟩] false) (.cond (.t 64) (.seq (.ops [ ⟨some 4,none,.mv (.c (.int .i64 65533))⟩, ⟨some 5,none,.mv (.c (.int .i64 1))⟩, ⟨some 6,none,.mv (.c (.bool false))⟩] false) (.ret)) (.skip))) (.ops [ ⟨some 65,none,.mv (.t 9)⟩, ⟨some 66,none,.bin .mul (.t 65) (.c (.int .i64 64))⟩, ⟨some 67,none,.mv (.t 0)⟩, ⟨some 68,none,.mv (.t 1)⟩, ⟨some 69,none,.mv (.t 11)⟩, ⟨some 70,none,.bin .add (.t 68) (.t 69)⟩, ⟨some 71,none,.sidx (.t 67) (.t 70)⟩, ⟨some 72,none,.cvt .i64 (.t 71)⟩, ⟨some 73,none,.bin .add (.t 66) (.t 72)⟩, ⟨some 74,none,.bin .sub (.t 73) (.c (.int .i64 128))⟩, ⟨some 9,none,.mv (.t 74)⟩] false))) (.ops [ ⟨some 56,none,.mv (.t 11)⟩, ⟨some 57,none,.bin .add (.t 56) (.c (.int .i64 1))⟩, ⟨some 11,none,.mv (.t 57)⟩] false)))))) (.seq (.seq (.ops [ ⟨some 75,none,.mv (.t 9)⟩, ⟨some 76,none,.mv (.t 10)⟩, ⟨some 77,none,.bin .lss (.t 75) (.t 76)⟩, ⟨some 78,none,.mv (.t 77)⟩, ⟨some 79, some (78, false),.mv (.t 9)⟩, ⟨some 80, some (78, false),.bin .gtr (.t 79) (.c (.int .i64 1114111))⟩, ⟨some 81,none,.pick (.t 78) (.c (.bool true)) (.t 80)⟩, ⟨some 82,none,.mv (.t 81)⟩, ⟨some 83, some (82, false),.mv (.t 9)⟩, ⟨some 84, some (82, false),.bin .geq (.t 83) (.c (.int .i64 55296))⟩, ⟨some 85, some (82, false),.mv (.t 84)⟩, ⟨some 86, some (85, true),.mv (.t 9)⟩, ⟨some 87, some (85, true),.bin .lss (.t 86) (.c (.int .i64 57344))⟩, ⟨some 88, some (82, false),.pick (.t 85) (.t 87) (.c (.bool false))⟩, ⟨some 89,none,.pick (.t 82) (.c (.bool true)) (.t 88)⟩] false) (.cond (.t 89) (.seq (.ops [ ⟨some 4,none,.mv (.c (.int .i64 65533))⟩, ⟨some 5,none,.mv (.c (.int .i64 1))⟩, ⟨some 6,none,.mv (.c (.bool false))⟩] false) (.ret)) (.skip))) (.seq (.ops [ ⟨some 90,none,.mv (.t 9)⟩, ⟨some 91,none,.mv (.t 8)⟩, ⟨some 4,none,.mv (.t 90)⟩, ⟨some 5,none,.mv (.t 91)⟩, ⟨some 6,none,.mv (.c (.bool true))⟩] false) (.ret)))))))))))) }
def irR3More : IFn := { nt := 9, res := [.t 2], body := ( .seq (.ops [ ⟨some 2,none,.mv (.c (.bool false))⟩] false) (.seq (.ops [ ⟨some 3,none,.mv (.t 0)⟩, ⟨some 4,none,.bin .geq (.t 3) (.c (.int .u8 128))⟩, ⟨some 5,none,.mv (.t 4)⟩, ⟨some 6, some (5, true),.mv (.t 0)⟩, ⟨some 7, some (5, true),.bin .lss (.t 6) (.c (.int .u8 192))⟩, ⟨some 8,none,.pick (.t 5) (.t 7) (.c (.bool false))⟩, ⟨some 2,none,.mv (.t 8)⟩] false) (.ret))) }
def irR3Unquote : IFn := { nt := 71, res := [.t 2,.t 3], body := ( .seq (.ops [ ⟨some 2,none,.mv (.c (.str []))⟩, ⟨some 3,none,.mv (.c (.int .i64 0))⟩] false) (.seq (.ops [ ⟨some 8,none,.mv (.t 0)⟩, ⟨some 9,none,.lenS (.t 8)⟩, ⟨some 4,none,.mv (.t 9)⟩] false) (.seq (.seq (.ops [ ⟨some 10,none,.mv (.t 4)⟩, ⟨some 11,none,.bin .lss (.t 10) (.c (.int .i64 2))⟩, ⟨some 12,none,.mv (.t 11)⟩, ⟨some 13, some (12, false),.mv (.t 0)⟩, ⟨some 14, some (12, false),.sidx (.t 13) (.c (.int .i64 0))⟩, ⟨some 15, some (12, false),.bin .neq (.t 14) (.c (.int .u8 34))⟩, ⟨some 16,none,.pick (.t 12) (.c (.bool true)) (.t 15)⟩, ⟨some 17,none,.mv (.t 16)⟩, ⟨some 18, some (17, false),.mv (.t 0)⟩, ⟨some 19, some (17, false),.mv (.t 4)⟩, ⟨some 20, some (17, false),.bin .sub (.t 19) (.c (.int .i64 1))⟩, ⟨some 21, some (17, false),.sidx (.t 18) (.t 20)⟩, ⟨some 22, some (17, false),.bin .neq (.t 21) (.c (.int .u8 34))⟩, ⟨some 23,none,.pick (.t 17) (.c (.bool true)) (.t 22)⟩] false) (.cond (.t 23) (.seq (.ops [ ⟨some 2,none,.mv (.c (.str []))⟩, ⟨some 3,none,.mv (.c (.int .i64 22))⟩] false) (.ret)) (.skip))) (.seq (.ops [ ⟨some 5,none,.mv (.c (.str []))⟩] false) (.seq (.ops [ ⟨some 24,none,.mv (.t 0)⟩, ⟨some 25,none,.mv (.t 4)⟩, ⟨some 26,none,.bin .sub (.t 25) (.c (.int .i64 1))⟩, ⟨some 27,none,.sslice (.t 24) (some (.c (.int .i64 1))) (some (.t 26))⟩, ⟨some 6,none,.mv (.t 27)⟩] false) (.seq (.blk 0 (.loop (.seq (.seq (.ops [ ⟨some 28,none,.mv (.t 6)⟩, ⟨some 29,none,.lenS (.t 28)⟩, ⟨some 30,none,.bin .gtr (.t 29) (.c (.int .i64 0))⟩] false) (.cond (.t 30) (.skip) (.exit 0))) (.blk 1 (.seq (.ops [ ⟨some 31,none,.mv (.t 6)⟩, ⟨some 32,none,.sidx (.t 31) (.c (.int .i64 0))⟩, ⟨some 7,none,.mv (.t 32)⟩] false) (.seq (.seq (.ops [ ⟨some 33,none,.mv (.t 7)⟩, ⟨some 34,none,.bin .lss (.t 33) (.c (.int .u8 32))⟩, ⟨some 35,none,.mv (.t 34)⟩, ⟨some 36, some (35, false),.mv (.t 7)⟩, ⟨some 37, some (35, false),.bin .eql (.t 36) (.c (.int .u8 34))⟩, ⟨some 38,none,.pick (.t 35) (.c (.bool true)) (.t 37)⟩] false) (.cond (.t 38) (.seq (.ops [ ⟨some 2,none,.mv (.c (.str []))⟩, ⟨some 3,none,.mv (.c (.int .i64 22))⟩] false) (.ret)) (.skip))) (.seq (.seq (.ops [ ⟨some 39,none,.mv (.t 7)⟩, ⟨some 40,none,.bin .neq (.t 39) (.c (.int .u8 92))⟩] false) (.cond (.t 40) (.seq (.ops [ ⟨some 41,none,.mv (.t 5)⟩, ⟨some 42,none,.mv (.t 6)⟩, ⟨some 43,none,.sslice (.t 42) none (some (.c (.int .i64 1)))⟩, ⟨some 44,none,.bin .add (.t 41) (.t 43)⟩, ⟨some 5,none,.mv (.t 44)⟩] false) (.seq (.ops [ ⟨some 45,none,.mv (.t 6)⟩, ⟨some 46,none,.sslice (.t 45) (some (.c (.int .i64 1))) none⟩, ⟨some 6,none,.mv (.t 46)⟩] false) (.exit 1))) (.skip))) (.seq (.seq (.ops [ ⟨some 47,none,.mv (.t 6)⟩, ⟨some 48,none,.lenS (.t 47)⟩, ⟨some 49,none,.bin .lss (.t 48) (.c (.int .i64 2))⟩] false) (.cond (.t 49) (.seq (.ops [ ⟨some 2,none,.mv (.c (.str []))⟩, ⟨some 3,none,.mv (.c (.int .i64 22))⟩] false) (.ret)) (.skip))) (.seq (.seq (.ops [ ⟨some 50,none,.mv (.t 6)⟩, ⟨some 51,none,.sidx (.t 50) (.c (.int .i64 1))⟩] false) (.blk 2 (.seq (.ops [ ⟨some 53,none,.bin .eql (.t 51) (.c (.int .u8 110))⟩, ⟨some 52,none,.mv (.t 53)⟩] false) (.cond (.t 52) (.ops [ ⟨some 54,none,.mv (.t 5)⟩, ⟨some 55,none,.bin .add (.t 54) (.c (.str [10]))⟩, ⟨some 5,none,.mv (.t 55)⟩] false) (.seq (.ops [ ⟨some 57,none,.bin .eql (.t 51) (.c (.int .u8 116))⟩, ⟨some 56,none,.mv (.t 57)⟩] false) (.cond (.t 56) (.ops [ ⟨some 58,none,.mv (.t 5)⟩, ⟨some 59,none,.bin .add (.t 58) (.c (.str [9]))⟩, ⟨some 5,none,.mv (.t 59)⟩] false) (.seq (.ops [ ⟨some 61,none,.bin .eql (.t 51) (.c (.int .u8 34))⟩, ⟨some 60,none,.mv (.t 61)⟩] false) (.cond (.t 60) (.ops [ ⟨some 62,none,.mv (.t 5)⟩, ⟨some 63,none,.bin .add (.t 62) (.c (.str [34]))⟩, ⟨some 5,none,.mv (.t 63)⟩] false) (.seq (.ops [ ⟨some 65,none,.bin .eql (.t 51) (.c (.int .u8 92))⟩, ⟨some 64,none,.mv (.t 65)⟩] false) (.cond (.t 64) (.ops [ ⟨some 66,none,.mv (.t 5)⟩, ⟨some 67,none,.bin .add (.t 66) (.c (.str [92]))⟩, ⟨some 5,none,.mv (.t 67)⟩] false) (.seq (.ops [ ⟨some 2,none,.mv (.c (.str []))⟩, ⟨some 3,none,.mv (.c (.int .i64 22))⟩] false) (.ret)))))))))))) (.ops [ ⟨some 68,none,.mv (.t 6)⟩, ⟨some 69,none,.sslice (.t 68) (some (.c (.int .i64 2))) none⟩, ⟨some 6,none,.mv (.t 69)⟩] false)))))))))) (.seq (.ops [ ⟨some 70,none,.mv (.t 5)⟩, ⟨some 2,none,.mv (.t 70)⟩, ⟨some 3,none,.mv (.c (.int .i64 0))⟩] false) (.ret)))))))) }
section
def contB (b : UInt8) : Bool := decide ((128 : Int) ≤ b.toNat) && decide ((b.toNat : Int) < 192)
theorem byteAt_getD {s : Bs} {n k : Nat} (h : n + k < s.length) : byteAt s ((n : Int) + k) = some ((s.drop n).getD k 0) := by
 have e : ((n : Int) + k) = ((n + k : Nat) : Int) := by omega
 rw [e,byteAt_nat,List.getD_eq_getElem?_getD,List.getElem?_drop,List.getElem?_eq_getElem h]; rfl
theorem dec_0 {n b0 b1 b2 b3 : Nat} (h : b0 < 128) : Lib.decodeN n b0 b1 b2 b3 = (b0,1) := by simp [Lib.decodeN,h]
theorem dec_none {n b0 b1 b2 b3 : Nat} (h : ¬ b0 < 128) (h2 : ¬ (192 ≤ b0 ∧ b0 < 248)) : Lib.decodeN n b0 b1 b2 b3 = (65533,1) := by
 unfold Lib.decodeN
 rw [if_neg h,if_neg (by omega),if_neg (by omega),if_neg (by omega)]
theorem dec_2 {n b0 b1 b2 b3 : Nat} (h : 192 ≤ b0 ∧ b0 < 224) : Lib.decodeN n b0 b1 b2 b3 = if 1 < n ∧ (128 ≤ b1 ∧ b1 < 192) ∧ 128 ≤ (b0 - 192) * 64 + (b1 - 128) then ((b0 - 192) * 64 + (b1 - 128),2) else (65533,1) := by
 unfold Lib.decodeN
 rw [if_neg (by omega)]
 by_cases h1 : 1 < n ∧ (128 ≤ b1 ∧ b1 < 192)
 · have e : b0 % 32 * 64 + b1 % 64 = (b0 - 192) * 64 + (b1 - 128) := by omega
   rw [if_pos (by omega),e]
   by_cases h3 : 128 ≤ (b0 - 192) * 64 + (b1 - 128)
   · rw [if_pos h3,if_pos ⟨h1.1,h1.2,h3⟩]
   · rw [if_neg (by omega),if_neg (by omega)]
 · rw [if_neg (by omega),if_neg (by omega),if_neg (by omega),if_neg (fun q => h1 ⟨q.1,q.2.1⟩)]
theorem dec_3 {n b0 b1 b2 b3 : Nat} (h : 224 ≤ b0 ∧ b0 < 240) : Lib.decodeN n b0 b1 b2 b3 = if 2 < n ∧ (128 ≤ b1 ∧ b1 < 192) ∧ (128 ≤ b2 ∧ b2 < 192) ∧ 2048 ≤ (b0 - 224) * 4096 + (b1 - 128) * 64 + (b2 - 128) ∧ ¬ (55296 ≤ (b0 - 224) * 4096 + (b1 - 128) * 64 + (b2 - 128) ∧ (b0 - 224) * 4096 + (b1 - 128) * 64 + (b2 - 128) < 57344) then ((b0 - 224) * 4096 + (b1 - 128) * 64 + (b2 - 128),3) else (65533,1) := by
 unfold Lib.decodeN
 rw [if_neg (by omega),if_neg (by omega)]
 by_cases h1 : 2 < n ∧ (128 ≤ b1 ∧ b1 < 192) ∧ (128 ≤ b2 ∧ b2 < 192)
 · have e : b0 % 16 * 4096 + b1 % 64 * 64 + b2 % 64 = (b0 - 224) * 4096 + (b1 - 128) * 64 + (b2 - 128) := by omega
   rw [if_pos (by omega),e]
   generalize hV : (b0 - 224) * 4096 + (b1 - 128) * 64 + (b2 - 128) = V
   by_cases h3 : 2048 ≤ V ∧ ¬ (55296 ≤ V ∧ V < 57344)
   · rw [if_pos (by omega),if_pos ⟨h1.1,h1.2.1,h1.2.2,h3⟩]
   · rw [if_neg (by omega),if_neg (fun q => h3 q.2.2.2)]
 · rw [if_neg (by omega),if_neg (by omega),if_neg (fun q => h1 ⟨q.1,q.2.1,q.2.2.1⟩)]
theorem dec_4 {n b0 b1 b2 b3 : Nat} (h : 240 ≤ b0 ∧ b0 < 248) : Lib.decodeN n b0 b1 b2 b3 = if 3 < n ∧ (128 ≤ b1 ∧ b1 < 192) ∧ (128 ≤ b2 ∧ b2 < 192) ∧ (128 ≤ b3 ∧ b3 < 192) ∧ 65536 ≤ (b0 - 240) * 262144 + (b1 - 128) * 4096 + (b2 - 128) * 64 + (b3 - 128) ∧ (b0 - 240) * 262144 + (b1 - 128) * 4096 + (b2 - 128) * 64 + (b3 - 128) ≤ 1114111 then ((b0 - 240) * 262144 + (b1 - 128) * 4096 + (b2 - 128) * 64 + (b3 - 128),4) else (65533,1) := by
 unfold Lib.decodeN
 rw [if_neg (by omega),if_neg (by omega),if_neg (by omega)]
 by_cases h1 : 3 < n ∧ (128 ≤ b1 ∧ b1 < 192) ∧ (128 ≤ b2 ∧ b2 < 192) ∧ (128 ≤ b3 ∧ b3 < 192)
 · have e : b0 % 8 * 262144 + b1 % 64 * 4096 + b2 % 64 * 64 + b3 % 64 = (b0 - 240) * 262144 + (b1 - 128) * 4096 + (b2 - 128) * 64 + (b3 - 128) := by omega
   rw [if_pos (by omega),e]
   generalize hV : (b0 - 240) * 262144 + (b1 - 128) * 4096 + (b2 - 128) * 64 + (b3 - 128) = V
   by_cases h3 : 65536 ≤ V ∧ V ≤ 1114111
   · rw [if_pos (by omega),if_pos ⟨h1.1,h1.2.1,h1.2.2.1,h1.2.2.2,h3⟩]
   · rw [if_neg (by omega),if_neg (fun q => h3 q.2.2.2.2)]
 · rw [if_neg (by omega),if_neg (fun q => h1 ⟨q.1,q.2.1,q.2.2.1,q.2.2.2.1⟩)]
def decOk (S : Bs) : Bool := !(decide ((decU S).1 = 65533) && decide ((decU S).2 = 1))
def Next3Q (S : Bs) (H : Hp) : A → Hp → Prop := fun r H' => ∃ v : Int,r = .tup [.d (.int .i64 v),.d (.int .i64 ((decU S).2 : Int)),.d (.bool (decOk S))] ∧ H' = H
section
variable {P : Program}
theorem Has.more3 {f} (h : Has P f irR3More) : ByteOk P f contB := fun b H => by
 obtain ⟨fn,hf,hcf⟩ := h
 refine acall_fin hf hcf (by simp [irR3More]) fun hcl _ => ?_
 simp [irR3More]
 generalize ha : decide ((128 : Int) ≤ b.toNat) = a
 generalize hb : decide ((b.toNat : Int) < 192) = c
 have hl : contB b = (a && c) := by simp only [contB,ha,hb]
 cases a <;> cases c <;> simp [ha,hb] <;> simp [RetK,cut_self hcl,hl]
theorem Has.next3 {f fm} (h : Has P f (irR3Next fm)) (hm : ByteOk P fm contB) (s : Bs) (n : Nat) (hn : n < s.length) (hl : s.length ≤ 1048576) (H : Hp) :
 ACall P f [.d (.str s),.d (.int .i64 (n : Int))] H (Next3Q (s.drop n) H) := by
 obtain ⟨fn,hf,hcf⟩ := h
 refine acall_fin hf hcf (by simp [irR3Next]) fun hcl _ => ?_
 have hB := fun k (hk : n + k < s.length) => byteAt_getD (s := s) (n := n) (k := k) hk
 have hne : s.drop n ≠ [] := fun e => by have := List.drop_eq_nil_iff.1 e; omega
 have hD := decU_ne hne
 have hSl : (s.drop n).length = s.length - n := by simp
 rw [hSl] at hD
 have hfin : ∀ (v N : Int) (ok : Bool),N = ((decU (s.drop n)).2 : Int) → ok = decOk (s.drop n) → Next3Q (s.drop n) H (.tup [.d (.int .i64 v),.d (.int .i64 N),.d (.bool ok)]) H := fun v N ok h1 h2 => ⟨v,by rw [h1,h2],rfl⟩
 unfold decOk at hfin
 generalize Next3Q (s.drop n) H = Q at hfin ⊢
 generalize s.drop n = S at hB hD hfin
 generalize decU S = D at hD hfin
 have hb0 := hB 0 (by omega)
 simp only [Int.add_zero,Int.natCast_zero] at hb0
 have hb1 := hB 1
 have hb2 := hB 2
 have hb3 := hB 3
 clear hB
 have l0 := (S.getD 0 0).toNat_lt
 have l1 := (S.getD 1 0).toNat_lt
 have l2 := (S.getD 2 0).toNat_lt
 have l3 := (S.getD 3 0).toNat_lt
 generalize S.getD 0 0 = b0 at hb0 hD l0
 generalize S.getD 1 0 = b1 at hb1 hD l1
 generalize S.getD 2 0 = b2 at hb2 hD l2
 generalize S.getD 3 0 = b3 at hb3 hD l3
 have hwb : ∀ b : UInt8,IntKind.i64.wrap (b.toNat : Int) = b.toNat := fun b => wrap_i64 (by have := b.toNat_lt; omega) (by have := b.toNat_lt; omega)
 simp [irR3Next,hb0,hwb]
 by_cases c0 : b0.toNat < 128
 · have c0' : (b0.toNat : Int) < 128 := by omega
   rw [dec_0 c0] at hD
   simp [c0']
   simp [RetK,cut_self hcl]
   exact hfin _ _ _ (by rw [hD]; rfl) (by rw [hD]; simp; omega)
 have c0' : ¬ (b0.toNat : Int) < 128 := by omega
 by_cases cN : 192 ≤ b0.toNat ∧ b0.toNat < 248
 case neg =>
  rw [dec_none c0 cN] at hD
  have x1 : ¬ ((192 : Int) ≤ b0.toNat ∧ (b0.toNat : Int) < 248) := by omega
  have key : ∀ F,F = Q → True := fun _ _ => trivial
  by_cases x2 : (192 : Int) ≤ b0.toNat
  · have x3 : ¬ (b0.toNat : Int) < 224 := by omega
    have x4 : (224 : Int) ≤ b0.toNat := by omega
    have x5 : ¬ (b0.toNat : Int) < 240 := by omega
    have x6 : (240 : Int) ≤ b0.toNat := by omega
    have x7 : ¬ (b0.toNat : Int) < 248 := by omega
    simp [c0',x2,x3,x4,x5,x6,x7]
    simp [RetK,cut_self hcl]
    exact hfin _ _ _ (by rw [hD]; rfl) (by rw [hD]; rfl)
  · have x4 : ¬ (224 : Int) ≤ b0.toNat := by omega
    have x6 : ¬ (240 : Int) ≤ b0.toNat := by omega
    simp [c0',x2,x4,x6]
    simp [RetK,cut_self hcl]
    exact hfin _ _ _ (by rw [hD]; rfl) (by rw [hD]; rfl)
 have wsub : ∀ k : Int,0 ≤ k → k ≤ 1000 → IntKind.i64.wrap ((b0.toNat : Int) - k) = b0.toNat - k := fun k _ _ => wrap_i64 (by omega) (by omega)
 have w2 := wsub 192 (by omega) (by omega)
 have w3 := wsub 224 (by omega) (by omega)
 have w4 := wsub 240 (by omega) (by omega)
 have wsn : IntKind.i64.wrap ((s.length : Int) - n) = s.length - n := wrap_i64 (by omega) (by omega)
 have wi : ∀ k : Int,0 ≤ k → k ≤ 1000 → IntKind.i64.wrap ((n : Int) + k) = n + k := fun k _ _ => wrap_i64 (by omega) (by omega)
 have w11 := wi 1 (by omega) (by omega)
 have w12 := wi 2 (by omega) (by omega)
 have w13 := wi 3 (by omega) (by omega)
 have wmul : ∀ v : Int,0 ≤ v → v ≤ 1099511627776 → IntKind.i64.wrap (v * 64) = v * 64 := fun v _ _ => wrap_i64 (by omega) (by omega)
 have wadd : ∀ (v : Int) (b : UInt8),0 ≤ v → v ≤ 1099511627776 → IntKind.i64.wrap (v * 64 + b.toNat) = v * 64 + b.toNat := fun v b _ _ => by have := b.toNat_lt; exact wrap_i64 (by omega) (by omega)
 have wsb : ∀ (v : Int) (b : UInt8),0 ≤ v → v ≤ 1099511627776 → IntKind.i64.wrap (v * 64 + b.toNat - 128) = v * 64 + b.toNat - 128 := fun v b _ _ => by have := b.toNat_lt; exact wrap_i64 (by omega) (by omega)
 have hcont : ∀ b : UInt8,contB b = true ↔ 128 ≤ b.toNat ∧ b.toNat < 192 := fun b => by simp [contB]; omega
 simp only [Int.natCast_one,Int.cast_ofNat_Int] at hb1 hb2 hb3
 by_cases c2 : 192 ≤ b0.toNat ∧ b0.toNat < 224
 · have x0 : (192 : Int) ≤ b0.toNat := by omega
   have x1 : (b0.toNat : Int) < 224 := by omega
   have x2 : ¬ (224 : Int) ≤ b0.toNat := by omega
   have x3 : ¬ (240 : Int) ≤ b0.toNat := by omega
   rw [dec_2 c2] at hD
   simp [c0',x0,x1,x2,x3,w2]
   by_cases hL : s.length - n < 2
   · have hL' : (s.length : Int) - n < 2 := by omega
     simp [wsn,hL']
     simp [RetK,cut_self hcl]
     exact hfin _ _ _ (by rw [hD,if_neg (by omega)]; rfl) (by rw [hD,if_neg (by omega)]; rfl)
   have hL' : ¬ (s.length : Int) - n < 2 := by omega
   have B1 := hb1 (by omega)
   simp [wsn,hL']
   refine LoopK_outR 0 (fun fr H' => fr 8 = .d (.int .i64 2) ∧ fr 10 = .d (.int .i64 128) ∧ H' = H ∧ ((128 ≤ b1.toNat ∧ b1.toNat < 192)) ∧ fr 9 = .d (.int .i64 (((b0.toNat : Int) - 192) * 64 + (b1.toNat : Int) - 128))) (fun fr H' => fr 4 = .d (.int .i64 65533) ∧ fr 5 = .d (.int .i64 1) ∧ fr 6 = .d (.bool false) ∧ H' = H ∧ ¬ ((128 ≤ b1.toNat ∧ b1.toNat < 192))) ?_ ?_ ?_
   · refine LoopM_of H.length (fun d fr H' => ∃ (k : Nat) (v : Int),d = 5 - k ∧ fr 0 = .d (.str s) ∧ fr 1 = .d (.int .i64 (n : Int)) ∧ fr 8 = .d (.int .i64 2) ∧ fr 10 = .d (.int .i64 128) ∧ fr 11 = .d (.int .i64 (k : Int)) ∧ fr 9 = .d (.int .i64 v) ∧ H' = H ∧ ((k = 1 ∧ v = ((b0.toNat : Int) - 192)) ∨ (k = 2 ∧ ((128 ≤ b1.toNat ∧ b1.toNat < 192)) ∧ v = (((b0.toNat : Int) - 192) * 64 + (b1.toNat : Int) - 128)))) 4 (by simp) ⟨1,((b0.toNat : Int) - 192),rfl,?_⟩ ?_
     · simp [cut_self hcl]
     rintro d fr H' ⟨k,v,rfl,f0,f1,f8,f10,f11,f9,rfl,hor⟩
     rcases hor with ⟨rfl,rfl⟩ | ⟨rfl,q,rfl⟩
     · have wm := wmul ((b0.toNat : Int) - 192) (by omega) (by omega)
       have wa := wadd ((b0.toNat : Int) - 192) b1 (by omega) (by omega)
       have ws := wsb ((b0.toNat : Int) - 192) b1 (by omega) (by omega)
       simp [f0,f1,f8,f11,w11,B1]
       refine CallK_of' (hm b1 _) ?_
       have hc := hcont b1
       cases hcb : contB b1 with
       | false =>
         rw [hcb] at hc
         have hc : ¬ (128 ≤ b1.toNat ∧ b1.toNat < 192) := by simpa using hc
         simp
         omega
       | true =>
         rw [hcb] at hc
         have hc : 128 ≤ b1.toNat ∧ b1.toNat < 192 := by simpa using hc
         simp [f0,f1,f8,f9,f11,w11,B1,hwb,wm,wa,ws]
         refine NextM_of H'.length 3 (Nat.le_refl _) (by simp) (by omega) ⟨2,(((b0.toNat : Int) - 192) * 64 + (b1.toNat : Int) - 128),rfl,?_⟩
         simp [f0,f1,f8,f10,cut_self hcl,hc]; decide
     · simp [f8,f11]
       simp [f8,f9,f10,q]
   · rintro fr H' ⟨f4,f5,f6,rfl,hc⟩
     simp
     simp [RetK,cut_self hcl,f4,f5,f6]
     exact hfin _ _ _ (by rw [hD,if_neg (fun q => hc (by omega))]; rfl) (by rw [hD,if_neg (fun q => hc (by omega))]; rfl)
   · rintro fr H' ⟨f8,f10,rfl,hc,f9⟩
     generalize hV : (((b0.toNat : Int) - 192) * 64 + (b1.toNat : Int) - 128) = V at f9
     by_cases r1 : V < 128
     · simp [f8,f9,f10,r1]
       simp [RetK,cut_self hcl]
       exact hfin _ _ _ (by rw [hD,if_neg (by omega)]; rfl) (by rw [hD,if_neg (by omega)]; rfl)
     by_cases r2 : 1114111 < V
     · simp [f8,f9,f10,r1,r2]
       simp [RetK,cut_self hcl]
       exact hfin _ _ _ (by rw [hD,if_neg (by omega)]; rfl) (by rw [hD,if_neg (by omega)]; rfl)
     have good : ∀ p : Prop,(1 : Nat) = 1 := fun _ => rfl
     by_cases r3 : 55296 ≤ V
     · by_cases r4 : V < 57344
       · simp [f8,f9,f10,r1,r2,r3,r4]
         simp [RetK,cut_self hcl]
         exact hfin _ _ _ (by rw [hD,if_neg (by omega)]; rfl) (by rw [hD,if_neg (by omega)]; rfl)
       · simp [f8,f9,f10,r1,r2,r3,r4]
         simp [RetK,cut_self hcl,f8,f9]
         exact hfin _ _ _ (by rw [hD,if_pos (by omega)]; rfl) (by rw [hD,if_pos (by omega)]; simp)
     · simp [f8,f9,f10,r1,r2,r3]
       simp [RetK,cut_self hcl,f8,f9]
       exact hfin _ _ _ (by rw [hD,if_pos (by omega)]; rfl) (by rw [hD,if_pos (by omega)]; simp)
 by_cases c3 : 224 ≤ b0.toNat ∧ b0.toNat < 240
 · have x0 : (192 : Int) ≤ b0.toNat := by omega
   have x1 : ¬ (b0.toNat : Int) < 224 := by omega
   have x2 : (224 : Int) ≤ b0.toNat := by omega
   have x3 : (b0.toNat : Int) < 240 := by omega
   have x4 : ¬ (240 : Int) ≤ b0.toNat := by omega
   rw [dec_3 c3] at hD
   simp [c0',x0,x1,x2,x3,x4,w3]
   by_cases hL : s.length - n < 3
   · have hL' : (s.length : Int) - n < 3 := by omega
     simp [wsn,hL']
     simp [RetK,cut_self hcl]
     exact hfin _ _ _ (by rw [hD,if_neg (by omega)]; rfl) (by rw [hD,if_neg (by omega)]; rfl)
   have hL' : ¬ (s.length : Int) - n < 3 := by omega
   have B1 := hb1 (by omega)
   have B2 := hb2 (by omega)
   simp [wsn,hL']
   refine LoopK_outR 0 (fun fr H' => fr 8 = .d (.int .i64 3) ∧ fr 10 = .d (.int .i64 2048) ∧ H' = H ∧ ((128 ≤ b1.toNat ∧ b1.toNat < 192) ∧ (128 ≤ b2.toNat ∧ b2.toNat < 192)) ∧ fr 9 = .d (.int .i64 ((((b0.toNat : Int) - 224) * 64 + (b1.toNat : Int) - 128) * 64 + (b2.toNat : Int) - 128))) (fun fr H' => fr 4 = .d (.int .i64 65533) ∧ fr 5 = .d (.int .i64 1) ∧ fr 6 = .d (.bool false) ∧ H' = H ∧ ¬ ((128 ≤ b1.toNat ∧ b1.toNat < 192) ∧ (128 ≤ b2.toNat ∧ b2.toNat < 192))) ?_ ?_ ?_
   · refine LoopM_of H.length (fun d fr H' => ∃ (k : Nat) (v : Int),d = 5 - k ∧ fr 0 = .d (.str s) ∧ fr 1 = .d (.int .i64 (n : Int)) ∧ fr 8 = .d (.int .i64 3) ∧ fr 10 = .d (.int .i64 2048) ∧ fr 11 = .d (.int .i64 (k : Int)) ∧ fr 9 = .d (.int .i64 v) ∧ H' = H ∧ ((k = 1 ∧ v = ((b0.toNat : Int) - 224)) ∨ (k = 2 ∧ ((128 ≤ b1.toNat ∧ b1.toNat < 192)) ∧ v = (((b0.toNat : Int) - 224) * 64 + (b1.toNat : Int) - 128)) ∨ (k = 3 ∧ ((128 ≤ b1.toNat ∧ b1.toNat < 192) ∧ (128 ≤ b2.toNat ∧ b2.toNat < 192)) ∧ v = ((((b0.toNat : Int) - 224) * 64 + (b1.toNat : Int) - 128) * 64 + (b2.toNat : Int) - 128)))) 4 (by simp) ⟨1,((b0.toNat : Int) - 224),rfl,?_⟩ ?_
     · simp [cut_self hcl]
     rintro d fr H' ⟨k,v,rfl,f0,f1,f8,f10,f11,f9,rfl,hor⟩
     rcases hor with ⟨rfl,rfl⟩ | ⟨rfl,q,rfl⟩ | ⟨rfl,q,rfl⟩
     · have wm := wmul ((b0.toNat : Int) - 224) (by omega) (by omega)
       have wa := wadd ((b0.toNat : Int) - 224) b1 (by omega) (by omega)
       have ws := wsb ((b0.toNat : Int) - 224) b1 (by omega) (by omega)
       simp [f0,f1,f8,f11,w11,B1]
       refine CallK_of' (hm b1 _) ?_
       have hc := hcont b1
       cases hcb : contB b1 with
       | false =>
         rw [hcb] at hc
         have hc : ¬ (128 ≤ b1.toNat ∧ b1.toNat < 192) := by simpa using hc
         simp
         omega
       | true =>
         rw [hcb] at hc
         have hc : 128 ≤ b1.toNat ∧ b1.toNat < 192 := by simpa using hc
         simp [f0,f1,f8,f9,f11,w11,B1,hwb,wm,wa,ws]
         refine NextM_of H'.length 3 (Nat.le_refl _) (by simp) (by omega) ⟨2,(((b0.toNat : Int) - 224) * 64 + (b1.toNat : Int) - 128),rfl,?_⟩
         simp [f0,f1,f8,f10,cut_self hcl,hc]; decide
     · have wm := wmul (((b0.toNat : Int) - 224) * 64 + (b1.toNat : Int) - 128) (by omega) (by omega)
       have wa := wadd (((b0.toNat : Int) - 224) * 64 + (b1.toNat : Int) - 128) b2 (by omega) (by omega)
       have ws := wsb (((b0.toNat : Int) - 224) * 64 + (b1.toNat : Int) - 128) b2 (by omega) (by omega)
       simp [f0,f1,f8,f11,w12,B2]
       refine CallK_of' (hm b2 _) ?_
       have hc := hcont b2
       cases hcb : contB b2 with
       | false =>
         rw [hcb] at hc
         have hc : ¬ (128 ≤ b2.toNat ∧ b2.toNat < 192) := by simpa using hc
         simp
         omega
       | true =>
         rw [hcb] at hc
         have hc : 128 ≤ b2.toNat ∧ b2.toNat < 192 := by simpa using hc
         simp [f0,f1,f8,f9,f11,w12,B2,hwb,wm,wa,ws]
         refine NextM_of H'.length 2 (Nat.le_refl _) (by simp) (by omega) ⟨3,((((b0.toNat : Int) - 224) * 64 + (b1.toNat : Int) - 128) * 64 + (b2.toNat : Int) - 128),rfl,?_⟩
         simp [f0,f1,f8,f10,cut_self hcl,hc,q]; decide
     · simp [f8,f11]
       simp [f8,f9,f10,q]
   · rintro fr H' ⟨f4,f5,f6,rfl,hc⟩
     simp
     simp [RetK,cut_self hcl,f4,f5,f6]
     exact hfin _ _ _ (by rw [hD,if_neg (fun q => hc (by omega))]; rfl) (by rw [hD,if_neg (fun q => hc (by omega))]; rfl)
   · rintro fr H' ⟨f8,f10,rfl,hc,f9⟩
     generalize hV : ((((b0.toNat : Int) - 224) * 64 + (b1.toNat : Int) - 128) * 64 + (b2.toNat : Int) - 128) = V at f9
     by_cases r1 : V < 2048
     · simp [f8,f9,f10,r1]
       simp [RetK,cut_self hcl]
       exact hfin _ _ _ (by rw [hD,if_neg (by omega)]; rfl) (by rw [hD,if_neg (by omega)]; rfl)
     by_cases r2 : 1114111 < V
     · simp [f8,f9,f10,r1,r2]
       simp [RetK,cut_self hcl]
       exact hfin _ _ _ (by rw [hD,if_neg (by omega)]; rfl) (by rw [hD,if_neg (by omega)]; rfl)
     have good : ∀ p : Prop,(1 : Nat) = 1 := fun _ => rfl
     by_cases r3 : 55296 ≤ V
     · by_cases r4 : V < 57344
       · simp [f8,f9,f10,r1,r2,r3,r4]
         simp [RetK,cut_self hcl]
         exact hfin _ _ _ (by rw [hD,if_neg (by omega)]; rfl) (by rw [hD,if_neg (by omega)]; rfl)
       · simp [f8,f9,f10,r1,r2,r3,r4]
         simp [RetK,cut_self hcl,f8,f9]
         exact hfin _ _ _ (by rw [hD,if_pos (by omega)]; rfl) (by rw [hD,if_pos (by omega)]; simp)
     · simp [f8,f9,f10,r1,r2,r3]
       simp [RetK,cut_self hcl,f8,f9]
       exact hfin _ _ _ (by rw [hD,if_pos (by omega)]; rfl) (by rw [hD,if_pos (by omega)]; simp)
 have c4 : 240 ≤ b0.toNat ∧ b0.toNat < 248 := by omega
 have x0 : (192 : Int) ≤ b0.toNat := by omega
 have x1 : ¬ (b0.toNat : Int) < 224 := by omega
 have x2 : (224 : Int) ≤ b0.toNat := by omega
 have x3 : ¬ (b0.toNat : Int) < 240 := by omega
 have x4 : (240 : Int) ≤ b0.toNat := by omega
 have x5 : (b0.toNat : Int) < 248 := by omega
 rw [dec_4 c4] at hD
 simp [c0',x0,x1,x2,x3,x4,x5,w4]
 by_cases hL : s.length - n < 4
 · have hL' : (s.length : Int) - n < 4 := by omega
   simp [wsn,hL']
   simp [RetK,cut_self hcl]
   exact hfin _ _ _ (by rw [hD,if_neg (by omega)]; rfl) (by rw [hD,if_neg (by omega)]; rfl)
 have hL' : ¬ (s.length : Int) - n < 4 := by omega
 have B1 := hb1 (by omega)
 have B2 := hb2 (by omega)
 have B3 := hb3 (by omega)
 simp [wsn,hL']
 refine LoopK_outR 0 (fun fr H' => fr 8 = .d (.int .i64 4) ∧ fr 10 = .d (.int .i64 65536) ∧ H' = H ∧ ((128 ≤ b1.toNat ∧ b1.toNat < 192) ∧ (128 ≤ b2.toNat ∧ b2.toNat < 192) ∧ (128 ≤ b3.toNat ∧ b3.toNat < 192)) ∧ fr 9 = .d (.int .i64 (((((b0.toNat : Int) - 240) * 64 + (b1.toNat : Int) - 128) * 64 + (b2.toNat : Int) - 128) * 64 + (b3.toNat : Int) - 128))) (fun fr H' => fr 4 = .d (.int .i64 65533) ∧ fr 5 = .d (.int .i64 1) ∧ fr 6 = .d (.bool false) ∧ H' = H ∧ ¬ ((128 ≤ b1.toNat ∧ b1.toNat < 192) ∧ (128 ≤ b2.toNat ∧ b2.toNat < 192) ∧ (128 ≤ b3.toNat ∧ b3.toNat < 192))) ?_ ?_ ?_
 · refine LoopM_of H.length (fun d fr H' => ∃ (k : Nat) (v : Int),d = 5 - k ∧ fr 0 = .d (.str s) ∧ fr 1 = .d (.int .i64 (n : Int)) ∧ fr 8 = .d (.int .i64 4) ∧ fr 10 = .d (.int .i64 65536) ∧ fr 11 = .d (.int .i64 (k : Int)) ∧ fr 9 = .d (.int .i64 v) ∧ H' = H ∧ ((k = 1 ∧ v = ((b0.toNat : Int) - 240)) ∨ (k = 2 ∧ ((128 ≤ b1.toNat ∧ b1.toNat < 192)) ∧ v = (((b0.toNat : Int) - 240) * 64 + (b1.toNat : Int) - 128)) ∨ (k = 3 ∧ ((128 ≤ b1.toNat ∧ b1.toNat < 192) ∧ (128 ≤ b2.toNat ∧ b2.toNat < 192)) ∧ v = ((((b0.toNat : Int) - 240) * 64 + (b1.toNat : Int) - 128) * 64 + (b2.toNat : Int) - 128)) ∨ (k = 4 ∧ ((128 ≤ b1.toNat ∧ b1.toNat < 192) ∧ (128 ≤ b2.toNat ∧ b2.toNat < 192) ∧ (128 ≤ b3.toNat ∧ b3.toNat < 192)) ∧ v = (((((b0.toNat : Int) - 240) * 64 + (b1.toNat : Int) - 128) * 64 + (b2.toNat : Int) - 128) * 64 + (b3.toNat : Int) - 128)))) 4 (by simp) ⟨1,((b0.toNat : Int) - 240),rfl,?_⟩ ?_
   · simp [cut_self hcl]
   rintro d fr H' ⟨k,v,rfl,f0,f1,f8,f10,f11,f9,rfl,hor⟩
   rcases hor with ⟨rfl,rfl⟩ | ⟨rfl,q,rfl⟩ | ⟨rfl,q,rfl⟩ | ⟨rfl,q,rfl⟩
   · have wm := wmul ((b0.toNat : Int) - 240) (by omega) (by omega)
     have wa := wadd ((b0.toNat : Int) - 240) b1 (by omega) (by omega)
     have ws := wsb ((b0.toNat : Int) - 240) b1 (by omega) (by omega)
     simp [f0,f1,f8,f11,w11,B1]
     refine CallK_of' (hm b1 _) ?_
     have hc := hcont b1
     cases hcb : contB b1 with
     | false =>
       rw [hcb] at hc
       have hc : ¬ (128 ≤ b1.toNat ∧ b1.toNat < 192) := by simpa using hc
       simp
       omega
     | true =>
       rw [hcb] at hc
       have hc : 128 ≤ b1.toNat ∧ b1.toNat < 192 := by simpa using hc
       simp [f0,f1,f8,f9,f11,w11,B1,hwb,wm,wa,ws]
       refine NextM_of H'.length 3 (Nat.le_refl _) (by simp) (by omega) ⟨2,(((b0.toNat : Int) - 240) * 64 + (b1.toNat : Int) - 128),rfl,?_⟩
       simp [f0,f1,f8,f10,cut_self hcl,hc]; decide
   · have wm := wmul (((b0.toNat : Int) - 240) * 64 + (b1.toNat : Int) - 128) (by omega) (by omega)
     have wa := wadd (((b0.toNat : Int) - 240) * 64 + (b1.toNat : Int) - 128) b2 (by omega) (by omega)
     have ws := wsb (((b0.toNat : Int) - 240) * 64 + (b1.toNat : Int) - 128) b2 (by omega) (by omega)
     simp [f0,f1,f8,f11,w12,B2]
     refine CallK_of' (hm b2 _) ?_
     have hc := hcont b2
     cases hcb : contB b2 with
     | false =>
       rw [hcb] at hc
       have hc : ¬ (128 ≤ b2.toNat ∧ b2.toNat < 192) := by simpa using hc
       simp
       omega
     | true =>
       rw [hcb] at hc
       have hc : 128 ≤ b2.toNat ∧ b2.toNat < 192 := by simpa using hc
       simp [f0,f1,f8,f9,f11,w12,B2,hwb,wm,wa,ws]
       refine NextM_of H'.length 2 (Nat.le_refl _) (by simp) (by omega) ⟨3,((((b0.toNat : Int) - 240) * 64 + (b1.toNat : Int) - 128) * 64 + (b2.toNat : Int) - 128),rfl,?_⟩
       simp [f0,f1,f8,f10,cut_self hcl,hc,q]; decide
   · have wm := wmul ((((b0.toNat : Int) - 240) * 64 + (b1.toNat : Int) - 128) * 64 + (b2.toNat : Int) - 128) (by omega) (by omega)
     have wa := wadd ((((b0.toNat : Int) - 240) * 64 + (b1.toNat : Int) - 128) * 64 + (b2.toNat : Int) - 128) b3 (by omega) (by omega)
     have ws := wsb ((((b0.toNat : Int) - 240) * 64 + (b1.toNat : Int) - 128) * 64 + (b2.toNat : Int) - 128) b3 (by omega) (by omega)
     simp [f0,f1,f8,f11,w13,B3]
     refine CallK_of' (hm b3 _) ?_
     have hc := hcont b3
     cases hcb : contB b3 with
     | false =>
       rw [hcb] at hc
       have hc : ¬ (128 ≤ b3.toNat ∧ b3.toNat < 192) := by simpa using hc
       simp
       omega
     | true =>
       rw [hcb] at hc
       have hc : 128 ≤ b3.toNat ∧ b3.toNat < 192 := by simpa using hc
       simp [f0,f1,f8,f9,f11,w13,B3,hwb,wm,wa,ws]
       refine NextM_of H'.length 1 (Nat.le_refl _) (by simp) (by omega) ⟨4,(((((b0.toNat : Int) - 240) * 64 + (b1.toNat : Int) - 128) * 64 + (b2.toNat : Int) - 128) * 64 + (b3.toNat : Int) - 128),rfl,?_⟩
       simp [f0,f1,f8,f10,cut_self hcl,hc,q]; decide
   · simp [f8,f11]
     simp [f8,f9,f10,q]
 · rintro fr H' ⟨f4,f5,f6,rfl,hc⟩
   simp
   simp [RetK,cut_self hcl,f4,f5,f6]
   exact hfin _ _ _ (by rw [hD,if_neg (fun q => hc (by omega))]; rfl) (by rw [hD,if_neg (fun q => hc (by omega))]; rfl)
 · rintro fr H' ⟨f8,f10,rfl,hc,f9⟩
   generalize hV : (((((b0.toNat : Int) - 240) * 64 + (b1.toNat : Int) - 128) * 64 + (b2.toNat : Int) - 128) * 64 + (b3.toNat : Int) - 128) = V at f9
   by_cases r1 : V < 65536
   · simp [f8,f9,f10,r1]
     simp [RetK,cut_self hcl]
     exact hfin _ _ _ (by rw [hD,if_neg (by omega)]; rfl) (by rw [hD,if_neg (by omega)]; rfl)
   by_cases r2 : 1114111 < V
   · simp [f8,f9,f10,r1,r2]
     simp [RetK,cut_self hcl]
     exact hfin _ _ _ (by rw [hD,if_neg (by omega)]; rfl) (by rw [hD,if_neg (by omega)]; rfl)
   have good : ∀ p : Prop,(1 : Nat) = 1 := fun _ => rfl
   by_cases r3 : 55296 ≤ V
   · by_cases r4 : V < 57344
     · simp [f8,f9,f10,r1,r2,r3,r4]
       simp [RetK,cut_self hcl]
       exact hfin _ _ _ (by rw [hD,if_neg (by omega)]; rfl) (by rw [hD,if_neg (by omega)]; rfl)
     · simp [f8,f9,f10,r1,r2,r3,r4]
       simp [RetK,cut_self hcl,f8,f9]
       exact hfin _ _ _ (by rw [hD,if_pos (by omega)]; rfl) (by rw [hD,if_pos (by omega)]; simp)
   · simp [f8,f9,f10,r1,r2,r3]
     simp [RetK,cut_self hcl,f8,f9]
     exact hfin _ _ _ (by rw [hD,if_pos (by omega)]; rfl) (by rw [hD,if_pos (by omega)]; simp)
theorem Has.bad3 {f fn} (h : Has P f (irR3Bad fn)) (hd : ∀ (s : Bs) (n : Nat),n < s.length → s.length ≤ 1048576 → ∀ H,ACall P fn [.d (.str s),.d (.int .i64 (n : Int))] H (Next3Q (s.drop n) H)) (s : Bs) (hl : s.length ≤ 1048576) (H : Hp) : ACall P f [.d (.str s)] H (fun r H' => r = .d (.int .i64 (badS s)) ∧ H' = H) := by
 obtain ⟨fn,hf,hcf⟩ := h
 refine acall_fin hf hcf (by simp [irR3Bad]) fun hcl _ => ?_
 simp [irR3Bad]
 refine LoopK_outR 0 (fun fr H' => badS s = -1 ∧ H' = H) (fun fr H' => fr 2 = .d (.int .i64 (badS s)) ∧ H' = H) ?_ ?_ ?_
 · refine LoopM_of H.length (fun d fr H' => ∃ n : Nat,d = s.length - n ∧ n ≤ s.length ∧ badS s = badF (s.length - n) (s.drop n) n ∧ fr 0 = .d (.str s) ∧ fr 3 = .d (.int .i64 (n : Int)) ∧ H' = H) (s.length - 0) (by simp) ⟨0,rfl,by omega,rfl,?_⟩ ?_
   · simp [cut_self hcl]
   rintro d fr H' ⟨n,rfl,hn,hb,f0,f3,rfl⟩
   simp [f0,f3]
   refine BrK_split (fun hlt => ?_) (fun hlt => ?_)
   · have hlt : n < s.length := by simpa using hlt
     have hne : s.drop n ≠ [] := fun e => by have := List.drop_eq_nil_iff.1 e; omega
     have hdl := decU_len hne
     have hdr : ∀ k,(s.drop n).drop k = s.drop (n + k) := fun k => List.drop_drop ..
     have hfl : s.length - n = (s.length - n - 1) + 1 := by omega
     rw [hfl,badF,if_neg hne] at hb
     simp only [List.length_drop] at hdl
     simp [f0,f3]
     refine CallK_of (hd s n hlt hl H') ?_
     rintro _ H1 ⟨v,rfl,hH⟩
     cases hH
     simp only [hdr] at hb
     unfold decOk
     generalize decU (s.drop n) = D at hb hdl
     obtain ⟨R,W⟩ := D
     simp only at hb hdl
     have hwr : IntKind.i64.wrap ((n : Int) + W) = ((n + W : Nat) : Int) := by rw [wrap_i64 (by omega) (by omega)]; omega
     by_cases hR : R = 65533 ∧ W = 1
     · rw [if_pos (by rw [hR.1,hR.2])] at hb
       simp [hR.1,hR.2,f3,hb]
     · rw [if_neg (by simpa using hR)] at hb
       have hok : (!(decide (R = 65533) && decide (W = 1))) = true := by simp; omega
       rw [hok]
       simp [f3,hwr]
       refine NextM_of _ (s.length - (n + W)) (Nat.le_refl _) (by simp) (by omega) ⟨n + W,rfl,by omega,?_,?_⟩
       · rw [hb]; exact badF_fuel _ _ _ _ (by simp; omega) (by simp)
       · simp [f0,cut_self hcl]
   · have hge : n = s.length := by have : ¬ (n < s.length) := by simpa using hlt
                                   omega
     have : badS s = -1 := by rw [hb,hge]; simp [badF]
     simp [this]
 · rintro fr H' ⟨f2,rfl⟩
   simp
   simp [RetK,cut_self hcl,f2]
 · rintro fr H' ⟨hb,rfl⟩
   simp
   simp [RetK,cut_self hcl,hb]
end
end
section
theorem unqI_cons (b : UInt8) (r : Bs) : unqI (b :: r) = if b = 92 then (match r with | [] => none | c :: t => (unesc c).bind fun x => (unqI t).map (x :: ·)) else if b.toNat < 32 ∨ b = 34 then none else (unqI r).map (b :: ·) := by
 cases r with
 | nil => simp only [unqI]; rfl
 | cons c t => simp only [unqI]
section
variable {P : Program}
theorem Has.unquote3 {f} (h : Has P f irR3Unquote) (s : Bs) (hl : s.length ≤ 1048576) (H : Hp) : ACall P f [.d (.str s)] H (fun r H' => r = unqR (unqV s) ∧ H' = H) := by
 obtain ⟨fn,hf,hcf⟩ := h
 refine acall_fin hf hcf (by simp [irR3Unquote]) fun hcl _ => ?_
 by_cases h1 : s.length < 2
 case pos =>
  have h1' : (s.length : Int) < 2 := by omega
  simp [irR3Unquote,h1']
  simp [RetK,cut_self hcl,unqV,unqR,h1]
 have h1' : ¬ (s.length : Int) < 2 := by omega
 obtain ⟨b0,hb0⟩ : ∃ b,byteAt s 0 = some b := ⟨s[0],by simp [byteAt]⟩
 obtain ⟨b1,hb1⟩ : ∃ b,byteAt s ((s.length : Int) - 1) = some b := by
  refine ⟨s[s.length - 1],?_⟩
  have e : ((s.length : Int) - 1) = ((s.length - 1 : Nat) : Int) := by omega
  rw [e,byteAt_nat,List.getElem?_eq_getElem]
 have hh : s.head? = some b0 := by
  cases s with
  | nil => simp at h1
  | cons a r => simpa [byteAt] using hb0
 have hg : s.getLast? = some b1 := by
  have e : ((s.length : Int) - 1) = ((s.length - 1 : Nat) : Int) := by omega
  rw [List.getLast?_eq_getElem?,← byteAt_nat,← e]
  exact hb1
 have hwm : IntKind.i64.wrap ((s.length : Int) - 1) = s.length - 1 := wrap_i64 (by omega) (by omega)
 have byte34 : ∀ b : UInt8,((b.toNat : Int) = 34) ↔ b = 34 := fun b => byte_eq b 34
 by_cases h2 : b0 = 34
 case neg =>
  have h2' : ¬ ((b0.toNat : Int) = 34) := fun e => h2 ((byte34 _).1 e)
  simp [irR3Unquote,h1',hb0,h2']
  simp [RetK,cut_self hcl,unqV,unqR,hh,h2]
 by_cases h3 : b1 = 34
 case neg =>
  have h3' : ¬ ((b1.toNat : Int) = 34) := fun e => h3 ((byte34 _).1 e)
  simp [irR3Unquote,h1',hb0,h2,hwm,hb1,h3']
  simp [RetK,cut_self hcl,unqV,unqR,hg,h3]
 subst h2; subst h3
 have hU : unqV s = unqI ((s.drop 1).take (s.length - 2)) := by simp [unqV,h1,hh,hg]
 have hsub : subL s 1 ((s.length : Int) - 1) = some ((s.drop 1).take (s.length - 2)) := by
  have := sub_ok (s := s) (n := 1) (w := s.length - 2) (by omega)
  rw [← this]; congr 1; omega
 have hIl : ((s.drop 1).take (s.length - 2)).length ≤ 1048576 := by simp; omega
 rw [hU]
 generalize (s.drop 1).take (s.length - 2) = I at hIl hsub ⊢
 simp [irR3Unquote,h1',hb0,hwm,hb1,hsub]
 clear hsub hU hb0 hb1 hh hg hwm
 refine LoopK_outR 0 (fun fr H' => ∃ x,unqI I = some x ∧ fr 5 = .d (.str x) ∧ H' = H) (fun fr H' => fr 2 = .d (.str []) ∧ fr 3 = .d (.int .i64 22) ∧ unqI I = none ∧ H' = H) ?_ ?_ ?_
 · refine LoopM_of H.length (fun d fr H' => ∃ (x J : Bs),d = J.length ∧ x.length + J.length ≤ 1048576 ∧ unqI I = (unqI J).map (x ++ ·) ∧ fr 5 = .d (.str x) ∧ fr 6 = .d (.str J) ∧ H' = H) I.length (by simp) ⟨[],I,rfl,by simpa using hIl,by simp,?_⟩ ?_
   · simp [cut_self hcl]
   rintro d fr H' ⟨x,J,rfl,hJl,hq,f5,f6,rfl⟩
   cases J with
   | nil =>
     simp [f6]
     simp [f5,hq,unqI]
   | cons b r =>
     have hpos : (0 : Int) < (r.length : Int) + 1 := by omega
     have hb : byteAt (b :: r) 0 = some b := by simp [byteAt]
     rw [unqI_cons] at hq
     simp only [List.length_cons] at hJl
     simp [f6,hb,hpos]
     have s1 : subL (b :: r) 0 1 = some [b] := by simp [subL]; omega
     have s2 : subL (b :: r) 1 ((b :: r).length : Int) = some r := by
      have := sub_end (s := b :: r) (n := 1) (by simp only [List.length_cons]; omega)
      simpa using this
     simp only [List.length_cons,Int.natCast_add,Int.natCast_one] at s2
     by_cases h92 : b = 92
     · subst h92
       rw [if_pos rfl] at hq
       cases r with
       | nil =>
         simp only at hq
         simp [f5,f6]
         simpa using hq
       | cons c t =>
         have hb1 : byteAt (92 :: c :: t) 1 = some c := by simp [byteAt]
         have s3 : subL (92 :: c :: t) 2 ((t.length : Int) + 1 + 1) = some t := by
          have := sub_end (s := 92 :: c :: t) (n := 2) (by simp only [List.length_cons]; omega)
          simpa using this
         have hlen : ¬ ((t.length : Int) + 1 + 1 < 2) := by omega
         simp only [List.length_cons] at hJl
         simp only at hq
         have put : ∀ y : UInt8,unesc c = some y → unqI I = (unqI t).map ((x ++ [y]) ++ ·) := fun y hy => by
          rw [hq,hy]; simp [Function.comp_def]
         have add : ∀ y : UInt8,strOp .add x [y] = some (.str (x ++ [y])) := fun y => strOp_add' (by simp; omega)
         have hcb : ∀ y : UInt8,((c.toNat : Int) = (y.toNat : Int)) ↔ c = y := byte_eq c
         simp [f5,f6,hb1,hlen]
         by_cases c110 : c = 110
         · subst c110
           simp [f5,f6,s3,add,-strOp]
           refine NextM_of H'.length t.length (Nat.le_refl _) (by simp) (by omega) ⟨x ++ [10],t,rfl,by simp; omega,put 10 (by decide),?_⟩
           simp [cut_self hcl]
         have n110 : ¬ ((c.toNat : Int) = 110) := fun e => c110 ((hcb 110).1 e)
         by_cases c116 : c = 116
         · subst c116
           simp [f5,f6,s3,add,-strOp]
           refine NextM_of H'.length t.length (Nat.le_refl _) (by simp) (by omega) ⟨x ++ [9],t,rfl,by simp; omega,put 9 (by decide),?_⟩
           simp [cut_self hcl]
         have n116 : ¬ ((c.toNat : Int) = 116) := fun e => c116 ((hcb 116).1 e)
         by_cases c34 : c = 34
         · subst c34
           simp [f5,f6,s3,add,-strOp]
           refine NextM_of H'.length t.length (Nat.le_refl _) (by simp) (by omega) ⟨x ++ [34],t,rfl,by simp; omega,put 34 (by decide),?_⟩
           simp [cut_self hcl]
         have n34 : ¬ ((c.toNat : Int) = 34) := fun e => c34 ((hcb 34).1 e)
         by_cases c92 : c = 92
         · subst c92
           simp [f5,f6,s3,add,-strOp]
           refine NextM_of H'.length t.length (Nat.le_refl _) (by simp) (by omega) ⟨x ++ [92],t,rfl,by simp; omega,put 92 (by decide),?_⟩
           simp [cut_self hcl]
         have n92 : ¬ ((c.toNat : Int) = 92) := fun e => c92 ((hcb 92).1 e)
         have hnone : unesc c = none := by simp [unesc,c110,c116,c34,c92]
         rw [hnone] at hq
         simp [n110,n116,n34,n92]
         simpa using hq
     · rw [if_neg h92] at hq
       have n92 : ¬ ((b.toNat : Int) = 92) := fun e => h92 ((byte_eq b 92).1 e)
       by_cases hlo : b.toNat < 32
       · have hlo' : (b.toNat : Int) < 32 := by omega
         rw [if_pos (.inl hlo)] at hq
         simp [hlo']
         simpa using hq
       have hlo' : ¬ (b.toNat : Int) < 32 := by omega
       by_cases h34 : b = 34
       · subst h34
         rw [if_pos (.inr rfl)] at hq
         simp
         simpa using hq
       have n34 : ¬ ((b.toNat : Int) = 34) := fun e => h34 ((byte_eq b 34).1 e)
       rw [if_neg (by simp [hlo,h34])] at hq
       have add : strOp .add x [b] = some (.str (x ++ [b])) := strOp_add' (by simp; omega)
       simp [hlo',n34,n92,f5,f6,s1,s2,add,-strOp]
       refine NextM_of H'.length r.length (Nat.le_refl _) (by simp) (by simp) ⟨x ++ [b],r,rfl,by simp; omega,?_,?_⟩
       · rw [hq]; simp [Function.comp_def]
       · simp [cut_self hcl]
 · rintro fr H' ⟨f2,f3,hn,rfl⟩
   simp
   simp [RetK,cut_self hcl,f2,f3,hn,unqR]
 · rintro fr H' ⟨x,hx,f5,rfl⟩
   simp [f5]
   simp [RetK,cut_self hcl,hx,unqR]
theorem Has.lead4 {f} (h : Has P f irR4Lead) (s : Bs) (n : Nat) (hn : n ≤ s.length) (hl : s.length ≤ 1048576) (H : Hp) : ACall P f [.d (.str s),.d (.int .i64 (n : Int))] H (fun r H' => r = .d (.int .i64 ((n + leadS false (s.drop n) : Nat) : Int)) ∧ H' = H) := by
 obtain ⟨fn,hf,hcf⟩ := h
 refine acall_fin hf hcf (by simp [irR4Lead]) fun hcl _ => ?_
 have hL := lead_le false (s.drop n)
 simp only [List.length_drop] at hL
 generalize hLL : leadS false (s.drop n) = L at hL ⊢
 simp [irR4Lead]
 refine LoopK_outR 0 (fun fr H' => fr 1 = .d (.int .i64 ((n + L : Nat) : Int)) ∧ H' = H) (fun fr H' => fr 4 = .d (.int .i64 ((n + L : Nat) : Int)) ∧ H' = H) ?_ ?_ ?_
 · refine LoopM_of H.length (fun d fr H' => ∃ p : Nat,d = s.length - p ∧ p ≤ s.length ∧ p + leadS false (s.drop p) = n + L ∧ fr 0 = .d (.str s) ∧ fr 1 = .d (.int .i64 (p : Int)) ∧ H' = H) (s.length - n) (by simp) ⟨n,rfl,hn,by rw [hLL],?_⟩ ?_
   · simp [cut_self hcl]
   rintro d fr H' ⟨p,rfl,hp,hq,f0,f1,rfl⟩
   cases hd : s.drop p with
   | nil =>
     have hpl : p = s.length := by have := List.drop_eq_nil_iff.1 hd; omega
     rw [hd] at hq
     simp only [leadS,Nat.add_zero] at hq
     have hn' : ¬ ((p : Int) < s.length) := by omega
     simp [f0,f1,hn']
     omega
   | cons b r =>
     obtain ⟨hb,hlt⟩ := byteAt_drop hd
     have hdr : s.drop (p + 1) = r := by rw [← List.drop_drop,hd]; rfl
     have hlt' : (p : Int) < s.length := by omega
     have hw : IntKind.i64.wrap ((p : Int) + 1) = ((p + 1 : Nat) : Int) := by rw [wrap_i64 (by omega) (by omega)]; omega
     simp [f0,f1,hlt',hb]
     cases hB : blankB b with
     | true =>
       have hq' : leadS false (s.drop p) = leadS false r + 1 := by rw [hd,leadS,if_pos hB]
       have hbl := hB
       unfold blankB at hbl
       generalize ha : decide ((b.toNat : Int) = 32) = a at hbl ⊢
       generalize hc : decide ((b.toNat : Int) = 9) = c at hbl ⊢
       generalize he : decide ((b.toNat : Int) = 10) = e at hbl ⊢
       generalize hg : decide ((b.toNat : Int) = 13) = g at hbl ⊢
       cases a <;> cases c <;> cases e <;> cases g <;> simp at hbl <;> simp [f0,f1,hb,ha,hc,he,hg,hw] <;>
        (refine NextM_of H'.length (s.length - (p + 1)) (Nat.le_refl _) (by simp) (by omega) ⟨p + 1,rfl,by omega,by rw [hdr]; omega,?_⟩; simp [f0,cut_self hcl])
     | false =>
       have hbl := hB
       unfold blankB at hbl
       simp only [Bool.or_eq_false_iff] at hbl
       obtain ⟨⟨⟨a1,a2⟩,a3⟩,a4⟩ := hbl
       simp [f0,f1,hb,a1,a2,a3,a4]
       by_cases h35 : (b.toNat : Int) = 35
       · have hhb : moreB hashB (s.drop p) = true := by rw [hd]; simp [moreB,hashB,h35]
         obtain ⟨hc,hc1⟩ := lead_hash hhb
         have hstep := runN_step noNlB (s.drop p)
         have hW := runN_le noNlB (s.drop p)
         simp only [drop_add',List.length_drop] at hW hstep hc
         generalize runN noNlB (s.drop p) = wc at hc hc1 hstep hW
         simp [h35,f0,f1]
         refine LoopK_out 2 (fun fr H'' => fr 0 = .d (.str s) ∧ fr 1 = .d (.int .i64 ((p + wc : Nat) : Int)) ∧ H'' = H') ?_ ?_
         · refine LoopM_of H'.length (fun d fr H'' => ∃ q,d = wc - q ∧ q ≤ wc ∧ fr 0 = .d (.str s) ∧ fr 1 = .d (.int .i64 ((p + q : Nat) : Int)) ∧ H'' = H') wc (by simp) ⟨0,?_⟩ ?_
           · simp [f0,f1,cut_self hcl]
           rintro d fr H'' ⟨q,rfl,hqq,f0,f1,rfl⟩
           have hm := hstep q hqq
           have hwq : IntKind.i64.wrap ((p : Int) + q + 1) = ((p + (q + 1) : Nat) : Int) := by rw [wrap_i64 (by omega) (by omega)]; omega
           simp only [Int.natCast_add] at f1
           cases hd2 : s.drop (p + q) with
           | nil =>
             have h0 : p + q = s.length := by have := List.drop_eq_nil_iff.1 hd2; omega
             have h0' : ¬ ((p : Int) + q < s.length) := by omega
             rw [hd2] at hm
             simp [moreB] at hm
             have : q = wc := by omega
             subst this
             simp [f0,f1,h0']
           | cons c t =>
             obtain ⟨hb2,hlt2⟩ := byteAt_drop hd2
             have hlt2' : (p : Int) + q < s.length := by omega
             rw [hd2] at hm
             simp only [moreB,noNlB] at hm
             simp only [Int.natCast_add] at hb2
             by_cases h10 : (c.toNat : Int) = 10
             · have : q = wc := by
                simp [h10] at hm
                omega
               subst this
               simp [f0,f1,hlt2',hb2,h10]
             · have hql : q < wc := by simpa [h10] using hm
               simp [f0,f1,hlt2',hb2,h10,hwq]
               refine NextM_of H''.length (wc - (q + 1)) (Nat.le_refl _) (by simp) (by omega) ⟨q + 1,rfl,by omega,?_⟩
               simp [f0,cut_self hcl]
         rintro fr H'' ⟨f0,f1,rfl⟩
         simp
         refine NextM_of H''.length (s.length - (p + wc)) (Nat.le_refl _) (by simp) (by omega) ⟨p + wc,rfl,by omega,by omega,?_⟩
         simp [f0,f1,cut_self hcl]
       · have hhb : hashB b = false := by simp [hashB,h35]
         have h0 : leadS false (s.drop p) = 0 := by rw [hd,leadS,hB,hhb]; rfl
         simp [h35,f1]
         omega
 · rintro fr H' ⟨f4,rfl⟩
   simp
   simp [RetK,cut_self hcl,f4]
 · rintro fr H' ⟨f1,rfl⟩
   simp [f1]
   simp [RetK,cut_self hcl]
end
end
end Go.Zam
