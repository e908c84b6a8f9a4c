/-
  The plain law of Compose: composed edits do what one list behind the other does, and are sound. No condition.
-/
import Derived.Test.YtdpaolhcoahomaaZtInv
namespace Go.Proofs.Zt
open Go Go.Zam Go.Proofs
set_option linter.all false

structure Pc where
  f : Int
  t : Int
  s : List UInt8
  w : Bool

def encP (p : Pc) : List D := [.int .i64 p.f, .int .i64 p.t, .str p.s, .bool p.w]

def pcs (n : Int) : Int → List Ed → List Pc
  | k, [] => [⟨k, n, [], false⟩]
  | k, e :: r => ⟨k, e.f, [], false⟩ :: ⟨0, 0, e.s, true⟩ :: pcs n e.t r

def Pc.long (p : Pc) : Int := if p.w then p.s.length else p.t - p.f

def Pc.cut (p : Pc) (a b : Int) : Pc := if p.w then ⟨0, 0, (p.s.drop a.toNat).take (b.toNat - a.toNat), true⟩ else ⟨p.f + a, p.f + b, [], false⟩

def part (a b : Int) : Int → List Pc → List Pc
  | _, [] => []
  | k, p :: r => if max (a - k) 0 < min (b - k) p.long then p.cut (max (a - k) 0) (min (b - k) p.long) :: part a b (k + p.long) r else part a b (k + p.long) r

def allOf (first : List Pc) : List Pc → List Pc
  | [] => []
  | p :: r => (if p.w then [p] else part p.f p.t 0 first) ++ allOf first r

def flush (k : Int) (x : List UInt8) (to : Int) : List Ed := if k < to ∨ x ≠ [] then [⟨k, to, x⟩] else []

def eds (n : Int) : Int → List UInt8 → List Pc → List Ed
  | k, x, [] => flush k x n
  | k, x, p :: r => if p.w then eds n k (x ++ p.s) r else if p.f < p.t then flush k x p.f ++ eds n p.t [] r else eds n k x r

def compose (a b : List Ed) (n : Int) : List Ed := eds n 0 [] (allOf (pcs n 0 a) (pcs (n + grows a) 0 b))

-- what a list of pieces says

def Pc.cont (s : List UInt8) (p : Pc) : List UInt8 := if p.w then p.s else (s.drop p.f.toNat).take (p.t.toNat - p.f.toNat)

def cat (s : List UInt8) : List Pc → List UInt8
  | [] => []
  | p :: r => p.cont s ++ cat s r

theorem cat_append (s : List UInt8) (a b : List Pc) : cat s (a ++ b) = cat s a ++ cat s b := by
  induction a with
  | nil => rfl
  | cons p a ih => simp [cat, ih]

theorem cat_pcs (s : List UInt8) : ∀ (l : List Ed) (k : Int), cat s (pcs s.length k l) = applied s k l
  | [], k => by
    simp only [pcs, cat, Pc.cont, applied, List.append_nil]
    rw [if_neg (by simp)]
    exact List.take_of_length_le (by simp)
  | e :: r, k => by
    simp only [pcs, cat, Pc.cont, applied, cat_pcs s r]
    simp

/-- a chain: old pieces in order, between lo and hi -/
def Sch : Int → List Pc → Int → Prop
  | lo, [], hi => lo ≤ hi
  | lo, p :: r, hi => if p.w then Sch lo r hi else lo ≤ p.f ∧ p.f ≤ p.t ∧ Sch p.t r hi

theorem sch_pcs {n : Int} : ∀ {l : List Ed} {k last : Int}, soundFrom n last l = 0 → k ≤ last + 1 → k ≤ n → Sch k (pcs n k l) n
  | [], k, last, _, _, h => by simp [pcs, Sch, h]
  | e :: r, k, last, h, h0, h1 => by
    obtain ⟨e1, e2, e3, e4, e5⟩ := soundFrom_cons h
    have := sch_pcs (k := e.t) e5 (by omega) e3
    simp only [pcs, Sch]
    simp
    refine ⟨by omega, ?_⟩
    generalize pcs n e.t r = X at this ⊢
    clear h e5
    induction X generalizing e with
    | nil => simp [Sch] at *; omega
    | cons p X ih => 
      simp only [Sch] at this ⊢
      split
      · rw [if_pos (by assumption)] at this
        exact ih e e1 e2 e3 e4 this
      · rw [if_neg (by assumption)] at this
        exact ⟨by omega, this.2⟩

theorem sch_le : ∀ {l : List Pc} {lo hi : Int}, Sch lo l hi → lo ≤ hi
  | [], _, _, h => h
  | p :: r, lo, hi, h => by
    simp only [Sch] at h
    split at h
    · exact sch_le h
    · have := sch_le h.2.2; omega

theorem sch_long {p : Pc} {r : List Pc} {lo hi : Int} (h : Sch lo (p :: r) hi) : 0 ≤ p.long := by
  simp only [Sch] at h
  unfold Pc.long
  split at h
  · rw [if_pos (by assumption)]; omega
  · rw [if_neg (by assumption)]; omega

theorem sch_tail {p : Pc} {r : List Pc} {lo hi : Int} (h : Sch lo (p :: r) hi) : ∃ lo', lo ≤ lo' ∧ Sch lo' r hi := by
  simp only [Sch] at h
  split at h
  · exact ⟨lo, by omega, h⟩
  · exact ⟨p.t, by omega, h.2.2⟩

theorem part_nil {a b : Int} : ∀ {l : List Pc} {k lo hi : Int}, Sch lo l hi → b ≤ k → part a b k l = []
  | [], _, _, _, _, _ => rfl
  | p :: r, k, lo, hi, h, hb => by
    have h0 := sch_long h
    obtain ⟨lo', -, h'⟩ := sch_tail h
    rw [part, if_neg (by omega), part_nil h' (by omega)]

theorem cont_len {s : List UInt8} {p : Pc} (h : p.w = true ∨ 0 ≤ p.f ∧ p.f ≤ p.t ∧ p.t ≤ s.length) : ((p.cont s).length : Int) = p.long := by
  unfold Pc.cont Pc.long
  split
  · rfl
  · rcases h with h | h
    · simp_all
    · simp; omega

theorem take_drop_append {α : Type} (C L : List α) (i j : Nat) : ((C ++ L).drop i).take (j - i) = (C.drop i).take (j - i) ++ (L.drop (i - C.length)).take ((j - C.length) - (i - C.length)) := by
  rw [List.drop_append, List.take_append]
  congr 2
  simp; omega

theorem cut_cont {s : List UInt8} {p : Pc} {a b : Int} (h : p.w = true ∨ 0 ≤ p.f ∧ p.f ≤ p.t ∧ p.t ≤ s.length) (ha : 0 ≤ a) (hab : a < b) (hb : b ≤ p.long) :
    (p.cut a b).cont s = ((p.cont s).drop a.toNat).take (b.toNat - a.toNat) := by
  unfold Pc.cut Pc.cont
  unfold Pc.long at hb
  cases hw : p.w with
  | true => simp
  | false =>
    simp only [hw] at h hb ⊢
    simp
    simp at hb h
    rw [List.drop_take, List.take_take, List.drop_drop]
    congr 1
    · omega
    · congr 1; omega

theorem cat_part {s : List UInt8} {a b : Int} : ∀ {l : List Pc} {k lo : Int}, Sch lo l s.length → 0 ≤ lo → 
    cat s (part a b k l) = ((cat s l).drop (a - k).toNat).take ((b - k).toNat - (a - k).toNat)
  | [], k, lo, _, _ => by simp [part, cat]
  | p :: r, k, lo, h, h0 => by
    have hl := sch_long h
    obtain ⟨lo', h1, h'⟩ := sch_tail h
    have ih := cat_part (a := a) (b := b) (k := k + p.long) h' (by omega)
    have hv : p.w = true ∨ 0 ≤ p.f ∧ p.f ≤ p.t ∧ p.t ≤ s.length := by
      simp only [Sch] at h
      split at h
      · left; assumption
      · right
        have := sch_le h.2.2
        omega
    have hcl := cont_len hv
    rw [cat, take_drop_append]
    have e1 : (a - (k + p.long)).toNat = (a - k).toNat - (p.cont s).length := by omega
    have e2 : (b - (k + p.long)).toNat = (b - k).toNat - (p.cont s).length := by omega
    rw [e1, e2] at ih
    rw [part]
    split
    · rw [cat, ih, cut_cont hv (by omega) (by omega) (by omega)]
      congr 1
      have e3 : (max (a - k) 0).toNat = (a - k).toNat := by omega
      rw [e3]
      by_cases hbl : b - k ≤ p.long
      · congr 1; omega
      · rw [List.take_of_length_le (by simp; omega), List.take_of_length_le (by simp; omega)]
    · rw [ih]
      have : ((p.cont s).drop (a - k).toNat).take ((b - k).toNat - (a - k).toNat) = [] := by
        apply List.eq_nil_of_length_eq_zero
        simp; omega
      rw [this, List.nil_append]

theorem cat_allOf {s : List UInt8} {first : List Pc} (h : Sch 0 first s.length) : ∀ (l : List Ed) (k m : Int), cat s (allOf first (pcs (cat s first).length k l)) = applied (cat s first) k l
  | [], k, m => by
    simp only [pcs, allOf, List.append_nil, applied]
    rw [if_neg (by simp), cat_part h (by omega)]
    simp only [Int.sub_zero]
    exact List.take_of_length_le (by simp)
  | e :: r, k, m => by
    simp only [pcs, allOf, applied]
    rw [if_neg (by simp), if_pos (by simp), cat_append, cat_append, cat_part h (by omega), cat_allOf h r _ m]
    simp [cat, Pc.cont]

-- edits

/-- a chain of the old pieces that aren't empty -/
def Ch : Int → List Pc → Int → Prop
  | lo, [], hi => lo ≤ hi
  | lo, p :: r, hi => if p.w = true ∨ ¬ p.f < p.t then Ch lo r hi else lo ≤ p.f ∧ Ch p.t r hi

theorem ch_le : ∀ {l : List Pc} {lo hi : Int}, Ch lo l hi → lo ≤ hi
  | [], _, _, h => h
  | p :: r, lo, hi, h => by
    simp only [Ch] at h
    split at h
    · exact ch_le h
    · have := ch_le h.2; omega

theorem ch_weak : ∀ {l : List Pc} {lo lo' hi : Int}, Ch lo l hi → lo' ≤ lo → Ch lo' l hi
  | [], _, _, _, h, h' => by simp only [Ch] at *; omega
  | p :: r, lo, lo', hi, h, h' => by
    simp only [Ch] at h ⊢
    split
    · rw [if_pos (by assumption)] at h; exact ch_weak h h'
    · rw [if_neg (by assumption)] at h; exact ⟨by omega, h.2⟩

theorem ch_app : ∀ {l r : List Pc} {lo mid hi : Int}, Ch lo l mid → Ch mid r hi → Ch lo (l ++ r) hi
  | [], r, lo, mid, hi, h, h' => ch_weak h' h
  | p :: l, r, lo, mid, hi, h, h' => by
    simp only [Ch, List.cons_append] at h ⊢
    split
    · rw [if_pos (by assumption)] at h; exact ch_app h h'
    · rw [if_neg (by assumption)] at h; exact ⟨h.1, ch_app h.2 h'⟩

def olds : List Pc → Nat
  | [] => 0
  | p :: r => (if p.w = true ∨ ¬ p.f < p.t then 0 else 1) + olds r

theorem olds_app : ∀ (l r : List Pc), olds (l ++ r) = olds l + olds r
  | [], r => by simp [olds]
  | p :: l, r => by simp only [olds, List.cons_append, olds_app l r]; omega

theorem flush_len (k : Int) (x : List UInt8) (n : Int) : (flush k x n).length ≤ 1 := by
  unfold flush; split <;> simp

theorem eds_len {n : Int} : ∀ (l : List Pc) (k : Int) (x : List UInt8), (eds n k x l).length ≤ olds l + 1
  | [], k, x => by have := flush_len k x n; simp only [eds, olds]; omega
  | p :: r, k, x => by
    rw [eds, olds]
    split
    · rw [if_pos (by simp_all)]
      have := eds_len (n := n) r k (x ++ p.s); omega
    · split
      · rw [if_neg (by simp_all)]
        have := flush_len k x p.f
        have := eds_len (n := n) r p.t []
        simp; omega
      · rw [if_pos (by simp_all)]
        have := eds_len (n := n) r k x; omega

theorem eds_sound {n : Int} : ∀ {l : List Pc} {k last : Int} {x : List UInt8}, Ch k l n → 0 ≤ k → last < k → soundFrom n last (eds n k x l) = 0
  | [], k, last, x, h, h0, h1 => by
    simp only [Ch] at h
    simp only [eds, flush]
    split
    · rw [soundFrom, if_neg (by simp only; omega), if_neg (by simp only; rintro ⟨a, b⟩; rename_i c; rcases c with c | c; omega; exact c b), if_neg (by simp only; omega)]; rfl
    · rfl
  | p :: r, k, last, x, h, h0, h1 => by
    simp only [Ch] at h
    rw [eds]
    split
    · rw [if_pos (by simp_all)] at h
      exact eds_sound h h0 h1
    · split
      · rw [if_neg (by simp_all)] at h
        have hle := ch_le h.2
        unfold flush
        split
        · rw [List.singleton_append, soundFrom, if_neg (by simp only; omega), if_neg (by simp only; rintro ⟨a, b⟩; rename_i c; rcases c with c | c; omega; exact c b), if_neg (by simp only; omega)]
          exact eds_sound h.2 (by omega) (by simp only; omega)
        · exact eds_sound h.2 (by omega) (by omega)
      · rw [if_pos (by simp_all)] at h
        exact eds_sound h h0 h1

theorem drop_split (s : List UInt8) (a b : Int) (h : 0 ≤ a) (hb : a ≤ b) : (s.drop a.toNat).take (b.toNat - a.toNat) ++ s.drop b.toNat = s.drop a.toNat := by
  have : s.drop b.toNat = (s.drop a.toNat).drop (b.toNat - a.toNat) := by rw [List.drop_drop]; congr 1; omega
  rw [this, List.take_append_drop]

theorem take_split (s : List UInt8) (a b c : Int) (h : 0 ≤ a) (hb : a ≤ b) (hc : b ≤ c) : (s.drop a.toNat).take (b.toNat - a.toNat) ++ (s.drop b.toNat).take (c.toNat - b.toNat) = (s.drop a.toNat).take (c.toNat - a.toNat) := by
  have : s.drop b.toNat = (s.drop a.toNat).drop (b.toNat - a.toNat) := by rw [List.drop_drop]; congr 1; omega
  rw [this, ← List.take_add]
  congr 1; omega

theorem eds_applied {s : List UInt8} : ∀ {l : List Pc} {k0 k : Int} {x : List UInt8}, Ch k l s.length → 0 ≤ k0 → k0 ≤ k →
    applied s k0 (eds s.length k x l) = (s.drop k0.toNat).take (k.toNat - k0.toNat) ++ (x ++ cat s l)
  | [], k0, k, x, h, h0, h1 => by
    simp only [Ch] at h
    simp only [eds, flush, cat, List.append_nil]
    split
    · simp [applied]
    · rename_i c
      have c1 : x = [] := by
        cases x with
        | nil => rfl
        | cons => simp at c
      have c2 : k = s.length := by omega
      subst c1
      rw [applied, List.append_nil, List.take_of_length_le (by simp; omega)]
  | p :: r, k0, k, x, h, h0, h1 => by
    simp only [Ch] at h
    rw [eds, cat]
    split
    · rw [if_pos (by simp_all)] at h
      rename_i hw
      rw [eds_applied h h0 h1, Pc.cont, if_pos hw, List.append_assoc]
    · rename_i hw
      split
      · rename_i hft
        rw [if_neg (by simp_all)] at h
        rw [Pc.cont, if_neg hw]
        unfold flush
        split
        · rw [List.singleton_append, applied]
          simp only
          rw [eds_applied h.2 (by omega) (by omega), List.nil_append]
        · rename_i c
          have c1 : x = [] := by
            cases x with
            | nil => rfl
            | cons => simp at c
          have c2 : k = p.f := by omega
          subst c1
          rw [List.nil_append, eds_applied h.2 (by omega) (by omega), List.nil_append, List.nil_append, c2, ← List.append_assoc, take_split s k0 p.f p.t h0 (by omega) (by omega)]
      · rw [if_pos (by simp_all)] at h
        rename_i hft
        rw [eds_applied h h0 h1, Pc.cont, if_neg hw]
        have : p.t.toNat - p.f.toNat = 0 := by omega
        simp [this]

-- where a place of the text behind stands in the text ahead

def bnd (x : Int) : Int → Int → List Pc → Int
  | lo, _, [] => lo
  | lo, k, p :: r => if p.w then bnd x lo (k + p.long) r else if k + p.long ≤ x then bnd x p.t (k + p.long) r else if k < x then p.f + (x - k) else lo

theorem bnd_lt {x : Int} : ∀ {l : List Pc} {lo k lo' hi : Int}, Sch lo' l hi → x < k → bnd x lo k l = lo
  | [], _, _, _, _, _, _ => rfl
  | p :: r, lo, k, lo', hi, h, hx => by
    have h0 := sch_long h
    obtain ⟨l1, -, h'⟩ := sch_tail h
    rw [bnd]
    split
    · exact bnd_lt h' (by omega)
    · rw [if_neg (by omega), if_neg (by omega)]

theorem bnd_range {x : Int} : ∀ {l : List Pc} {lo k hi : Int}, Sch lo l hi → lo ≤ bnd x lo k l ∧ bnd x lo k l ≤ hi
  | [], lo, _, hi, h => by simp only [Sch, bnd] at *; omega
  | p :: r, lo, k, hi, h => by
    have h0 := sch_long h
    have hle := sch_le h
    simp only [Sch] at h
    rw [bnd]
    split
    · rw [if_pos (by assumption)] at h; exact bnd_range h
    · rename_i hw
      rw [if_neg hw] at h
      have hle2 := sch_le h.2.2
      split
      · have := bnd_range (x := x) (k := k + p.long) h.2.2; omega
      · have : p.long = p.t - p.f := by simp [Pc.long, hw]
        split <;> omega

theorem cut_old {p : Pc} {a b : Int} (hw : ¬ p.w = true) : p.cut a b = ⟨p.f + a, p.f + b, [], false⟩ := by simp [Pc.cut, hw]

theorem cut_new {p : Pc} {a b : Int} (hw : p.w = true) : (p.cut a b).w = true := by simp [Pc.cut, hw]

theorem ch_part {a b : Int} (hab : a ≤ b) : ∀ {l : List Pc} {lo k hi : Int}, Sch lo l hi → Ch (bnd a lo k l) (part a b k l) (bnd b lo k l)
  | [], lo, k, hi, h => by simp [part, Ch, bnd]
  | p :: r, lo, k, hi, h => by
    have h0 := sch_long h
    simp only [Sch] at h
    rw [bnd, bnd, part]
    by_cases hw : p.w = true
    · rw [if_pos hw, if_pos hw]
      rw [if_pos hw] at h
      have ih := ch_part hab (k := k + p.long) h
      by_cases hc : max (a - k) 0 < min (b - k) p.long
      · rw [if_pos hc, Ch, if_pos (.inl (cut_new hw))]; exact ih
      · rw [if_neg hc]; exact ih
    · rw [if_neg hw, if_neg hw]
      rw [if_neg hw] at h
      have hl : p.long = p.t - p.f := by simp [Pc.long, hw]
      have ih := ch_part hab (k := k + p.long) h.2.2
      by_cases h1 : k + p.long ≤ a
      · rw [if_pos h1, if_pos (c := k + p.long ≤ b) (by omega), if_neg (c := max (a - k) 0 < min (b - k) p.long) (by omega)]; exact ih
      · rw [if_neg h1]
        by_cases h2 : k + p.long ≤ b
        · rw [if_pos h2]
          rw [bnd_lt (x := a) h.2.2 (by omega)] at ih
          have h3 : (if k < a then p.f + (a - k) else lo) ≤ p.f + max (a - k) 0 := by split <;> omega
          by_cases hc : max (a - k) 0 < min (b - k) p.long
          · rw [if_pos hc, cut_old hw, Ch, if_neg (by simp; omega)]
            refine ⟨h3, ?_⟩
            simp only
            rw [show p.f + min (b - k) p.long = p.t by omega]; exact ih
          · rw [if_neg hc]
            exact ch_weak ih (by split <;> omega)
        · rw [if_neg h2, part_nil h.2.2 (by omega)]
          have h3 : (if k < a then p.f + (a - k) else lo) ≤ p.f + max (a - k) 0 := by split <;> omega
          by_cases hc : max (a - k) 0 < min (b - k) p.long
          · rw [if_pos hc, cut_old hw, Ch, if_neg (by simp; omega)]
            refine ⟨h3, ?_⟩
            show _ ≤ _
            simp only
            split <;> omega
          · rw [if_neg hc]
            show _ ≤ _
            split <;> split <;> omega

theorem ch_allOf {first : List Pc} {hi m : Int} (hf : Sch 0 first hi) : ∀ {l : List Ed} {k last : Int}, soundFrom m last l = 0 → k ≤ last + 1 → k ≤ m → Ch (bnd k 0 0 first) (allOf first (pcs m k l)) hi
  | [], k, last, _, _, h => by
    simp only [pcs, allOf, List.append_nil]
    rw [if_neg (by simp)]
    have h1 := ch_part (a := k) (b := m) h (k := 0) hf
    have h2 : Ch (bnd m 0 0 first) [] hi := (bnd_range hf).2
    simpa using ch_app h1 h2
  | e :: r, k, last, h, h0, h1 => by
    obtain ⟨e1, e2, e3, e4, e5⟩ := soundFrom_cons h
    simp only [pcs, allOf]
    rw [if_neg (by simp), if_pos (by simp)]
    have i1 := ch_part (a := k) (b := e.f) (by omega) (k := 0) hf
    have i2 := ch_le (ch_part (a := e.f) (b := e.t) (by omega) (k := 0) hf)
    have i3 := ch_allOf (m := m) hf (k := e.t) e5 (by omega) e3
    refine ch_app i1 (ch_weak ?_ i2)
    rw [List.singleton_append, Ch, if_pos (by simp)]
    exact i3

-- how many

def cnt (x : Int) : Int → List Pc → Nat
  | _, [] => 0
  | k, p :: r => (if p.w = true ∨ ¬ k < x then 0 else 1) + cnt x (k + p.long) r

theorem cnt_zero {x : Int} : ∀ {l : List Pc} {k lo hi : Int}, Sch lo l hi → x ≤ k → cnt x k l = 0
  | [], _, _, _, _, _ => rfl
  | p :: r, k, lo, hi, h, hx => by
    have h0 := sch_long h
    obtain ⟨l1, -, h'⟩ := sch_tail h
    rw [cnt, cnt_zero h' (by omega), if_pos (by omega)]

theorem cnt_mono {x y : Int} (h : x ≤ y) : ∀ (l : List Pc) (k : Int), cnt x k l ≤ cnt y k l
  | [], _ => Nat.le_refl _
  | p :: r, k => by
    have := cnt_mono h r (k + p.long)
    simp only [cnt]
    cases p.w <;> simp <;> (try split) <;> (try split) <;> omega

def oldsA : List Pc → Nat
  | [] => 0
  | p :: r => (if p.w = true then 0 else 1) + oldsA r

theorem cnt_le {x : Int} : ∀ (l : List Pc) (k : Int), cnt x k l ≤ oldsA l
  | [], _ => Nat.le_refl _
  | p :: r, k => by
    have := cnt_le (x := x) r (k + p.long)
    simp only [cnt, oldsA]
    cases p.w <;> simp <;> (try split) <;> omega

theorem oldsA_pcs {n : Int} : ∀ (l : List Ed) (k : Int), oldsA (pcs n k l) = l.length + 1
  | [], _ => rfl
  | e :: r, k => by simp [pcs, oldsA, oldsA_pcs r]; omega

theorem olds_one (p : Pc) : (if p.w = true ∨ ¬ p.f < p.t then 0 else 1) ≤ 1 := by split <;> omega

theorem olds_part0 {a b : Int} : ∀ {l : List Pc} {k lo hi : Int}, Sch lo l hi → olds (part a b k l) ≤ cnt b k l
  | [], _, _, _, _ => Nat.le_refl _
  | p :: r, k, lo, hi, h => by
    have h0 := sch_long h
    obtain ⟨l1, -, h'⟩ := sch_tail h
    have ih := olds_part0 (a := a) (b := b) (k := k + p.long) h'
    rw [part, cnt]
    by_cases hc : max (a - k) 0 < min (b - k) p.long
    · rw [if_pos hc, olds]
      by_cases hw : p.w = true
      · rw [if_pos (.inl (cut_new hw)), if_pos (.inl hw)]; omega
      · rw [if_neg (c := p.w = true ∨ ¬ k < b) (by simp [hw]; omega)]
        have := olds_one (p.cut (max (a - k) 0) (min (b - k) p.long))
        omega
    · rw [if_neg hc]; omega

theorem olds_part {a b : Int} (hab : a ≤ b) : ∀ {l : List Pc} {k lo hi : Int}, Sch lo l hi → olds (part a b k l) + cnt a k l ≤ cnt b k l + 1
  | [], _, _, _, _ => by simp [part, olds, cnt]
  | p :: r, k, lo, hi, h => by
    have h0 := sch_long h
    by_cases hk : a ≤ k
    · have := olds_part0 (a := a) (b := b) (k := k) h
      rw [cnt_zero h hk]; omega
    obtain ⟨l1, -, h'⟩ := sch_tail h
    have ih := olds_part (k := k + p.long) hab h'
    rw [part, cnt, cnt]
    by_cases hw : p.w = true
    · rw [if_pos (c := p.w = true ∨ ¬ k < a) (.inl hw), if_pos (c := p.w = true ∨ ¬ k < b) (.inl hw)]
      by_cases hc : max (a - k) 0 < min (b - k) p.long
      · rw [if_pos hc, olds, if_pos (.inl (cut_new hw))]; omega
      · rw [if_neg hc]; omega
    · rw [if_neg (c := p.w = true ∨ ¬ k < a) (by simp [hw]; omega), if_neg (c := p.w = true ∨ ¬ k < b) (by simp [hw]; omega)]
      by_cases hc : max (a - k) 0 < min (b - k) p.long
      · rw [if_pos hc, olds]
        have := olds_one (p.cut (max (a - k) 0) (min (b - k) p.long))
        have h1 := olds_part0 (a := a) (b := b) (k := k + p.long) h'
        rw [cnt_zero (x := a) h' (by omega)]
        omega
      · rw [if_neg hc]; omega

theorem olds_allOf {first : List Pc} {lo hi m : Int} (hf : Sch lo first hi) : ∀ {l : List Ed} {k last : Int}, soundFrom m last l = 0 → k ≤ last + 1 → k ≤ m → olds (allOf first (pcs m k l)) + cnt k 0 first ≤ cnt m 0 first + l.length + 1
  | [], k, last, _, _, h => by
    simp only [pcs, allOf, List.append_nil]
    rw [if_neg (by simp)]
    have h1 := olds_part (a := k) (b := m) h (k := 0) hf
    simp; omega
  | e :: r, k, last, h, h0, h1 => by
    obtain ⟨e1, e2, e3, e4, e5⟩ := soundFrom_cons h
    simp only [pcs, allOf]
    rw [if_neg (by simp), if_pos (by simp), olds_app, olds_app]
    have i1 := olds_part (a := k) (b := e.f) (by omega) (k := 0) hf
    have i2 := cnt_mono (x := e.f) (y := e.t) (by omega) first 0
    have i3 := olds_allOf (m := m) hf (k := e.t) e5 (by omega) e3
    simp [olds]
    omega

theorem compose_law {s : List UInt8} {a b : List Ed} (ha : sound a s.length = 0) (hb : sound b (applied s 0 a).length = 0) (hn : a.length + b.length ≤ 509) :
    (compose a b s.length).length ≤ a.length + b.length + 3 ∧ sound (compose a b s.length) s.length = 0 ∧ applied s 0 (compose a b s.length) = applied (applied s 0 a) 0 b := by
  obtain ⟨-, a0⟩ := sound_zero ha
  obtain ⟨-, b0⟩ := sound_zero hb
  have hlen := applied_len s a 0 (-1) a0 (by omega) (by omega) (by omega)
  have hm : (s.length : Int) + grows a = (applied s 0 a).length := by omega
  have hf : Sch 0 (pcs s.length 0 a) s.length := sch_pcs a0 (by omega) (by omega)
  have hc := cat_pcs s a 0
  have hch := ch_allOf hf (k := 0) b0 (by omega) (by omega)
  have hch0 := ch_weak hch (bnd_range hf).1
  have hol := olds_allOf hf (k := 0) b0 (by omega) (by omega)
  have h1 := cnt_le (x := ((applied s 0 a).length : Int)) (pcs s.length 0 a) 0
  rw [oldsA_pcs] at h1
  have h2 := eds_len (n := s.length) (allOf (pcs s.length 0 a) (pcs (applied s 0 a).length 0 b)) 0 []
  unfold compose
  rw [hm]
  refine ⟨by omega, ?_, ?_⟩
  · rw [sound, if_neg (by omega)]
    exact eds_sound hch0 (by omega) (by omega)
  · rw [eds_applied hch0 (by omega) (by omega)]
    have := cat_allOf hf b 0 0
    rw [hc] at this
    rw [this]; simp

end Go.Proofs.Zt
