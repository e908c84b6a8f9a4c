/-
  An abstract machine over the model, first part: pure data (D), abstract values (A), abstract memory (Hp), and how they stand to the model's values and worlds (DR, VR, HR). No program in sight. No condition.
-/
import Derived.RowKit3
import Derived.Below
import Derived.Orders
import Derived.Laws.Cells
import Derived.Laws.World
namespace Go.Zam
open Go.RowKit (Below)

/-- pure data: no reference to memory that is written again -/
inductive D where
  | bool (b : Bool)
  | int (k : IntKind) (n : Int)
  | str (s : List UInt8)
  | sl (z : Bool) (sz : Nat) (rows : List (List D))
  | nilp | nilf | nili | nilm
  | fn (f : FuncId)
  deriving Inhabited

inductive A where
  | d (x : D)
  | agg (cs : List A)
  | tup (vs : List A)
  | osl (z : Bool) (sz : Nat) (rows : List (List D)) (t : Nat)
  | msl (i off len : Nat)
  | vsl (i k len : Nat)
  | vptr (i k idx off : Nat)
  | ptr (i off : Nat)
  | aptr (i idx off : Nat)
  | eptr (cells : List D)
  | fn (f : Fn) (first captured : List A)
  | map (i : Nat)
  | cun
  | undef
  deriving Inhabited

inductive Ob where
  | box (ty : TypeId) (cs : List A)
  | arr (sz : Nat) (rows : List (List A))
  | tok (n sz : Nat) (e : TypeId)
  | vec (sz : Nat) (e : TypeId) (k : Nat) (rows : List (List D))
  | mp (es : List (D × A))
  | dead
  deriving Inhabited

abbrev Hp := List Ob

inductive Bind where
  | none
  | blk (b : Nat)
  | arr (b sz : Nat)
  | map (b : Nat)
  | nilT
  | reg (b e c m sz : Nat)
  | vec (b c l k sz : Nat)
  | deadT

def Bind.block : Bind → Option Nat
  | .blk b | .arr b _ | .map b | .reg b _ _ _ _ | .vec b _ _ _ _ => some b
  | _ => Option.none

def Bind.owns : Bind → Nat → Nat → Prop
  | .blk b, b', _ | .arr b _, b', _ | .map b, b', _ | .vec b _ _ _ _, b', _ => b = b'
  | .reg b e _ _ _, b', o => b = b' ∧ e ≤ o
  | _, _, _ => False

def Bind.le : Bind → Bind → Prop
  | .none, _ => True
  | .nilT, y => y = .nilT ∨ y = .deadT ∨ ∃ b e c m sz, y = .reg b e c m sz ∧ 0 < m
  | .reg b e c m sz, y => y = .reg b e c m sz ∨ y = .deadT ∨ ∃ b' e' c' m', y = .reg b' e' c' m' sz ∧ m < m'
  | .arr b sz, y => y = .arr b sz ∨ y = .deadT
  | .vec b c l k sz, y => y = .vec b c l k sz ∨ y = .deadT ∨ ∃ b' c' l' k', y = .vec b' c' l' k' sz ∧ k < k'
  | x, y => y = x

theorem Bind.le_refl (x : Bind) : x.le x := by cases x <;> simp [Bind.le]

theorem Bind.le_trans {x y z : Bind} (h : x.le y) (k : y.le z) : x.le z := by
  cases x with
  | none => trivial
  | blk b => simp only [Bind.le] at h; subst h; exact k
  | arr b s =>
    simp only [Bind.le] at h
    rcases h with rfl | rfl
    · exact k
    · simp only [Bind.le] at k ⊢; exact .inr k
  | vec b c l n sz =>
    simp only [Bind.le] at h
    rcases h with rfl | rfl | ⟨b', c', l', n', rfl, hn⟩
    · exact k
    · simp only [Bind.le] at k ⊢; subst k; exact .inr (.inl rfl)
    · simp only [Bind.le] at k ⊢
      rcases k with rfl | rfl | ⟨b2, c2, l2, n2, rfl, hn2⟩
      · exact .inr (.inr ⟨_, _, _, _, rfl, hn⟩)
      · exact .inr (.inl rfl)
      · exact .inr (.inr ⟨_, _, _, _, rfl, by omega⟩)
  | map b => simp only [Bind.le] at h; subst h; exact k
  | nilT =>
    simp only [Bind.le] at h
    rcases h with rfl | rfl | ⟨b, e, c, m, sz, rfl, hm⟩
    · exact k
    · simp only [Bind.le] at k ⊢; subst k; exact .inr (.inl rfl)
    · simp only [Bind.le] at k ⊢
      rcases k with rfl | rfl | ⟨b', e', c', m', rfl, hm'⟩
      · exact .inr (.inr ⟨_, _, _, _, _, rfl, hm⟩)
      · exact .inr (.inl rfl)
      · exact .inr (.inr ⟨_, _, _, _, _, rfl, by omega⟩)
  | deadT => simp only [Bind.le] at h; subst h; exact k
  | reg b e c m sz =>
    simp only [Bind.le] at h
    rcases h with rfl | rfl | ⟨b', e', c', m', rfl, hm⟩
    · exact k
    · simp only [Bind.le] at k ⊢; subst k; exact .inr (.inl rfl)
    · simp only [Bind.le] at k ⊢
      rcases k with rfl | rfl | ⟨b2, e2, c2, m2, rfl, hm2⟩
      · exact .inr (.inr ⟨_, _, _, _, rfl, hm⟩)
      · exact .inr (.inl rfl)
      · exact .inr (.inr ⟨_, _, _, _, rfl, by omega⟩)

/-- stable cells: never written again -/
abbrev St := Nat → Nat → Option Value

def St.le (s t : St) : Prop := ∀ b o v, s b o = some v → t b o = some v

inductive DR (σ : St) : Value → D → Prop
  | bool (b : Bool) : DR σ (.bool b) (.bool b)
  | int (k : IntKind) (n : Int) : DR σ (.int k n) (.int k n)
  | str (s : ByteArray) : DR σ (.string s) (.str s.data.toList)
  | nilsl (sz : Nat) : DR σ (.slice none 0 0) (.sl true sz [])
  | sl (z : Bool) (sz : Nat) (rows : List (List D)) (b o cap : Nat) (f : Nat → Nat → Value)
      (hz : z = true → rows ≠ [])
      (hcap : rows.length ≤ cap)
      (hrow : ∀ (i : Nat) (r : List D), rows[i]? = some r → r.length = sz)
      (hc : ∀ (i j : Nat) (r : List D) (x : D), rows[i]? = some r → r[j]? = some x → σ b (o + i * sz + j) = some (f i j))
      (hd : ∀ (i j : Nat) (r : List D) (x : D), rows[i]? = some r → r[j]? = some x → DR σ (f i j) x) :
      DR σ (.slice (some ⟨b, o, none⟩) rows.length cap) (.sl z sz rows)
  | emp (sz : Nat) (a : Addr) (cap : Nat) : DR σ (.slice (some a) 0 cap) (.sl false sz [])
  | nilp : DR σ (.pointer none) .nilp
  | nilf : DR σ .nilFunc .nilf
  | nili : DR σ .nilIface .nili
  | nilm : DR σ (.map none) .nilm
  | fn (f : FuncId) : DR σ (.func (.func f) #[] #[]) (.fn f)

theorem DR.mono {σ τ : St} (hs : σ.le τ) {v : Value} {x : D} (h : DR σ v x) : DR τ v x := by
  induction h with
  | bool b => exact .bool b
  | int k n => exact .int k n
  | str s => exact .str s
  | nilsl sz => exact .nilsl sz
  | sl z sz rows b o cap f hz hcap hrow hc hd ih => exact .sl z sz rows b o cap f hz hcap hrow (fun i j r x h1 h2 => hs _ _ _ (hc i j r x h1 h2)) ih
  | emp sz a cap => exact .emp sz a cap
  | nilp => exact .nilp
  | nilf => exact .nilf
  | nili => exact .nili
  | nilm => exact .nilm
  | fn f => exact .fn f

theorem DR.sl_inv {σ : St} {v : Value} {z : Bool} {sz : Nat} {rows : List (List D)} (h : DR σ v (.sl z sz rows)) : (v = .slice none 0 0 ∧ z = true ∧ rows = []) ∨ (∃ (a : Addr) (cap : Nat), v = .slice (some a) 0 cap ∧ z = false ∧ rows = []) ∨
    ∃ (b o cap : Nat) (f : Nat → Nat → Value), v = .slice (some ⟨b, o, none⟩) rows.length cap ∧ (z = true → rows ≠ []) ∧ rows.length ≤ cap ∧
      (∀ (i : Nat) (r : List D), rows[i]? = some r → r.length = sz) ∧
      (∀ (i j : Nat) (r : List D) (x : D), rows[i]? = some r → r[j]? = some x → σ b (o + i * sz + j) = some (f i j)) ∧
      (∀ (i j : Nat) (r : List D) (x : D), rows[i]? = some r → r[j]? = some x → DR σ (f i j) x) := by
  cases h with
  | nilsl => exact .inl ⟨rfl, rfl, rfl⟩
  | sl _ _ _ b o cap f hz hcap hrow hc hd => exact .inr (.inr ⟨b, o, cap, f, rfl, hz, hcap, hrow, hc, hd⟩)
  | emp _ a cap => exact .inr (.inl ⟨a, cap, rfl, rfl, rfl⟩)

theorem DR.sl_at {σ : St} {b o n cap : Nat} {z : Bool} {sz : Nat} {rows : List (List D)} (h : DR σ (.slice (some ⟨b, o, none⟩) n cap) (.sl z sz rows)) : n = rows.length ∧ ∃ (f : Nat → Nat → Value), (z = true → rows ≠ []) ∧ rows.length ≤ cap ∧
      (∀ (i : Nat) (r : List D), rows[i]? = some r → r.length = sz) ∧
      (∀ (i j : Nat) (r : List D) (x : D), rows[i]? = some r → r[j]? = some x → σ b (o + i * sz + j) = some (f i j)) ∧
      (∀ (i j : Nat) (r : List D) (x : D), rows[i]? = some r → r[j]? = some x → DR σ (f i j) x) := by
  rcases h.sl_inv with ⟨h0, -⟩ | ⟨a, c, h0, rfl, rfl⟩ | ⟨b', o', c', f, h0, hz, hcap, hrow, hc, hd⟩
  · cases h0
  · cases h0
    exact ⟨rfl, fun _ _ => .tuple #[], by simp, by simp, by simp, by simp, by simp⟩
  · cases h0
    exact ⟨rfl, f, hz, hcap, hrow, hc, hd⟩

structure K where
  w0 : World
  σ : St
  β : Nat → Bind

def tokFit : Bind → Value → Nat → Prop
  | .nilT, v, n => n = 0 ∧ v = .slice none 0 0
  | .reg b e c m sz, v, n => n ≤ m ∧ (n = m → ∃ o cap, v = .slice (some ⟨b, o, none⟩) n cap ∧ n ≤ cap ∧ e = o + n * sz ∧ c = o + cap * sz ∧ o = 0)
  | .deadT, _, _ => True
  | _, _, _ => False

theorem tokFit.mono {x y : Bind} (h : x.le y) {v : Value} {n : Nat} (t : tokFit x v n) : tokFit y v n := by
  cases x with
  | none => exact t.elim
  | blk b => exact t.elim
  | arr b s => exact t.elim
  | map b => exact t.elim
  | vec b c l k sz => exact t.elim
  | nilT =>
    simp only [Bind.le] at h
    rcases h with rfl | rfl | ⟨b, e, c, m, sz, rfl, hm⟩
    · exact t
    · trivial
    · obtain ⟨rfl, -⟩ := t
      exact ⟨by omega, fun h0 => by omega⟩
  | reg b e c m sz =>
    simp only [Bind.le] at h
    rcases h with rfl | rfl | ⟨b', e', c', m', rfl, hm⟩
    · exact t
    · trivial
    · obtain ⟨t1, -⟩ := t
      exact ⟨by omega, fun h0 => by omega⟩
  | deadT => simp only [Bind.le] at h; subst h; trivial

/-- a slice of a row that may be cut and grown, at a number of its lives -/
def vecFit : Bind → Value → Nat → Nat → Prop
  | .vec b c l k' _, v, k, len => k ≤ k' ∧ (k = k' → len ≤ l ∧ v = .slice (some ⟨b, 0, none⟩) len c)
  | .deadT, _, _, _ => True
  | _, _, _, _ => False

theorem vecFit.mono {x y : Bind} (h : x.le y) {v : Value} {k len : Nat} (t : vecFit x v k len) : vecFit y v k len := by
  cases x with
  | vec b c l n sz =>
    simp only [Bind.le] at h
    obtain ⟨t1, t2⟩ := t
    rcases h with rfl | rfl | ⟨b', c', l', n', rfl, hn⟩
    · exact ⟨t1, t2⟩
    · trivial
    · exact ⟨by omega, fun e => by omega⟩
  | deadT => simp only [Bind.le] at h; subst h; trivial
  | _ => exact t.elim

/-- a place in it -/
def vptrFit : Bind → Addr → Nat → Nat → Nat → Prop
  | .vec b _ _ k' sz, a, k, idx, off => k ≤ k' ∧ (k = k' → a = ⟨b, idx * sz + off, none⟩)
  | .deadT, _, _, _, _ => True
  | _, _, _, _, _ => False

theorem vptrFit.mono {x y : Bind} (h : x.le y) {a : Addr} {k idx off : Nat} (t : vptrFit x a k idx off) : vptrFit y a k idx off := by
  cases x with
  | vec b c l n sz =>
    simp only [Bind.le] at h
    obtain ⟨t1, t2⟩ := t
    rcases h with rfl | rfl | ⟨b', c', l', n', rfl, hn⟩
    · exact ⟨t1, t2⟩
    · trivial
    · exact ⟨by omega, fun e => by omega⟩
  | deadT => simp only [Bind.le] at h; subst h; trivial
  | _ => exact t.elim

inductive VR (κ : K) : Value → A → Prop
  | d {v : Value} {x : D} (h : DR κ.σ v x) : VR κ v (.d x)
  | agg (vs : List Value) (as : List A) (hl : vs.length = as.length) (h : ∀ (i : Nat) (v : Value) (a : A), vs[i]? = some v → as[i]? = some a → VR κ v a) : VR κ (.agg vs.toArray) (.agg as)
  | tup (vs : List Value) (as : List A) (hl : vs.length = as.length) (h : ∀ (i : Nat) (v : Value) (a : A), vs[i]? = some v → as[i]? = some a → VR κ v a) : VR κ (.tuple vs.toArray) (.tup as)
  | osl {v : Value} {z : Bool} {sz : Nat} {rows : List (List D)} {t : Nat} (h : DR κ.σ v (.sl z sz rows)) (ht : tokFit (κ.β t) v rows.length) : VR κ v (.osl z sz rows t)
  | msl (i off len b sz o cap : Nat) (hb : κ.β i = .arr b sz ∨ κ.β i = .deadT) (hl : len ≤ cap) (ho : 0 < len → o = off * sz) (hz : len = 0 → cap = 0) : VR κ (.slice (some ⟨b, o, none⟩) len cap) (.msl i off len)
  | vsl (i k len : Nat) (ad : Option Addr) (cap : Nat) (hl : len ≤ cap) (hf : vecFit (κ.β i) (.slice ad len cap) k len) : VR κ (.slice ad len cap) (.vsl i k len)
  | vptr (i k idx off b o : Nat) (hf : vptrFit (κ.β i) ⟨b, o, none⟩ k idx off) : VR κ (.pointer (some ⟨b, o, none⟩)) (.vptr i k idx off)
  | ptr (i off b : Nat) (hb : κ.β i = .blk b) : VR κ (.pointer (some ⟨b, off, none⟩)) (.ptr i off)
  | aptr (i idx off b sz : Nat) (hb : κ.β i = .arr b sz ∨ κ.β i = .deadT) : VR κ (.pointer (some ⟨b, idx * sz + off, none⟩)) (.aptr i idx off)
  | eptr (cells : List D) (b o : Nat) (f : Nat → Value) (hc : ∀ (j : Nat) (x : D), cells[j]? = some x → κ.σ b (o + j) = some (f j)) (hd : ∀ (j : Nat) (x : D), cells[j]? = some x → DR κ.σ (f j) x) :
      VR κ (.pointer (some ⟨b, o, none⟩)) (.eptr cells)
  | fn (f : Fn) (vs1 vs2 : List Value) (as1 as2 : List A) (hl1 : vs1.length = as1.length) (hl2 : vs2.length = as2.length)
      (h1 : ∀ (i : Nat) (v : Value) (a : A), vs1[i]? = some v → as1[i]? = some a → VR κ v a) (h2 : ∀ (i : Nat) (v : Value) (a : A), vs2[i]? = some v → as2[i]? = some a → VR κ v a) :
      VR κ (.func f vs1.toArray vs2.toArray) (.fn f as1 as2)
  | map (i b : Nat) (hb : κ.β i = .map b) : VR κ (.map (some b)) (.map i)
  | cun (v : Value) (h : v.oneCell' = true) : VR κ v .cun
  | undef (v : Value) : VR κ v .undef

structure K.le (κ κ' : K) : Prop where
  w0 : κ'.w0 = κ.w0
  σ : κ.σ.le κ'.σ
  β : ∀ i, (κ.β i).le (κ'.β i)

theorem K.le_refl (κ : K) : κ.le κ := ⟨rfl, fun _ _ _ h => h, fun _ => Bind.le_refl _⟩
theorem K.le_trans {a b c : K} (h : a.le b) (k : b.le c) : a.le c :=
  ⟨k.w0.trans h.w0, fun _ _ _ x => k.σ _ _ _ (h.σ _ _ _ x), fun i => Bind.le_trans (h.β i) (k.β i)⟩

theorem K.le.trans {a b c : K} (h : a.le b) (k : b.le c) : a.le c := K.le_trans h k

theorem K.le.arr {κ κ' : K} (hk : κ.le κ') {i b sz : Nat} (hb : κ.β i = .arr b sz ∨ κ.β i = .deadT) : κ'.β i = .arr b sz ∨ κ'.β i = .deadT := by
  have := hk.β i
  rcases hb with hb | hb
  · rw [hb] at this; exact this
  · rw [hb] at this; exact .inr this

theorem VR.mono {κ κ' : K} (hk : κ.le κ') {v : Value} {a : A} (h : VR κ v a) : VR κ' v a := by
  induction h with
  | d h => exact .d (h.mono hk.σ)
  | agg vs as hl _ ih => exact .agg vs as hl ih
  | tup vs as hl _ ih => exact .tup vs as hl ih
  | osl h ht => exact .osl (h.mono hk.σ) (ht.mono (hk.β _))
  | msl i off len b sz o cap hb hl ho hz => exact .msl i off len b sz o cap (hk.arr hb) hl ho hz
  | vsl i k len ad cap hl hf => exact .vsl i k len ad cap hl (hf.mono (hk.β i))
  | vptr i k idx off b o hf => exact .vptr i k idx off b o (hf.mono (hk.β i))
  | ptr i off b hb => exact .ptr i off b (by have := hk.β i; rw [hb] at this; exact this)
  | aptr i idx off b sz hb => exact .aptr i idx off b sz (hk.arr hb)
  | eptr cells b o f hc hd => exact .eptr cells b o f (fun j x h => hk.σ _ _ _ (hc j x h)) (fun j x h => (hd j x h).mono hk.σ)
  | fn f vs1 vs2 as1 as2 hl1 hl2 _ _ ih1 ih2 => exact .fn f vs1 vs2 as1 as2 hl1 hl2 ih1 ih2
  | map i b hb => exact .map i b (by have := hk.β i; rw [hb] at this; exact this)
  | cun v h => exact .cun v h
  | undef v => exact .undef v

def OR (κ : K) (w : World) (i : Nat) : Ob → Prop
  | .box ty cs => ∃ b, κ.β i = .blk b ∧ w.shape? b = some (ty, cs.length) ∧ ∀ (j : Nat) (a : A), cs[j]? = some a → ∃ v, w.cell? ⟨b, j, none⟩ = some v ∧ w.frozen? ⟨b, j, none⟩ = false ∧ VR κ v a
  | .arr sz rows => ∃ b, κ.β i = .arr b sz ∧ ∀ (k : Nat) (r : List A), rows[k]? = some r → r.length = sz ∧
      ∀ (j : Nat) (a : A), r[j]? = some a → ∃ v, w.cell? ⟨b, k * sz + j, none⟩ = some v ∧ w.frozen? ⟨b, k * sz + j, none⟩ = false ∧ VR κ v a
  | .tok n sz ty => (κ.β i = .nilT ∧ n = 0) ∨ ∃ (b e c : Nat) (cur : Array Value) (lo hi : Nat), κ.β i = .reg b e c n sz ∧ w.heap[b]? = some (.cells cur ty (lo, hi)) ∧ c ≤ cur.size ∧ (lo = hi ∨ hi ≤ e)
  | .vec sz ty k rows => ∃ (b c : Nat) (cur : Array Value), κ.β i = .vec b c rows.length k sz ∧ w.heap[b]? = some (.cells cur ty (0, 0)) ∧ rows.length ≤ c ∧ c * sz ≤ cur.size ∧
      ∀ (j : Nat) (r : List D), rows[j]? = some r → r.length = sz ∧ ∀ (q : Nat) (x : D), r[q]? = some x → ∃ v, cur[j * sz + q]? = some v ∧ DR κ.σ v x
  | .mp l => ∃ (b : Nat) (es : Array MapEntry) (clock : Nat), κ.β i = .map b ∧ w.heap[b]? = some (.map es clock) ∧ es.size = l.length ∧
      ∀ (j : Nat) (x : D × A), l[j]? = some x → ∃ e, es[j]? = some e ∧ DR κ.σ e.key x.1 ∧ VR κ e.val x.2
  | .dead => True

def A.flat0 : A → Bool
  | .agg _ | .tup _ | .fn .. | .undef => false
  | _ => true
def A.flat : A → Bool
  | .agg _ | .tup _ | .undef => false
  | .fn _ a b => a.all A.flat0 && b.all A.flat0
  | _ => true
def Ob.flat : Ob → Bool
  | .box _ cs => cs.all A.flat
  | .arr _ rows => rows.all fun r => r.all A.flat
  | .mp l => l.all fun e => e.2.flat
  | _ => true

structure HR (κ : K) (H : Hp) (w : World) : Prop where
  below : Below κ.w0.heap.size κ.w0 w
  st : ∀ b o v, κ.σ b o = some v → w.cell? ⟨b, o, none⟩ = some v
  ob : ∀ i x, H[i]? = some x → OR κ w i x
  dom : ∀ i, H.length ≤ i → κ.β i = .none
  ex : ∀ i b, (κ.β i).block = some b → κ.w0.heap.size ≤ b ∧ b < w.heap.size
  exσ : ∀ i b o, (κ.β i).owns b o → κ.σ b o = none
  exd : ∀ i j b, (κ.β i).block = some b → (κ.β j).block = some b → i = j
  fl : ∀ (i : Nat) (x : Ob), H[i]? = some x → x.flat = true

theorem HR.drew {κ : K} {H : Hp} {w : World} (h : HR κ H w) : HR κ H w.drew :=
  ⟨h.below.drew, h.st, fun i x hx => by have := h.ob i x hx; cases x <;> exact this, h.dom, h.ex, h.exσ, h.exd, h.fl⟩

theorem HR.lt {κ : K} {H : Hp} {w : World} (h : HR κ H w) {i : Nat} (hb : κ.β i ≠ .none) : i < H.length :=
  Nat.lt_of_not_le fun hle => hb (h.dom i hle)

abbrev Fr := Nat → A
def Fr.set (fr : Fr) (d : Nat) (v : A) : Fr := fun s => if s = d then v else fr s
def Fr.put (fr : Fr) (d : Option Nat) (v : A) : Fr := match d with | some d => fr.set d v | none => fr

structure SR (κ : K) (nt : Nat) (fr : Fr) (H : Hp) (a : Act) (w : World) : Prop where
  size : a.tmps.size = nt
  defers : a.defers = []
  hr : HR κ H w
  vr : ∀ s, VR κ (a.tmps.getD s undef) (fr s)

theorem SR.put {κ κ' : K} {nt : Nat} {fr : Fr} {H H' : Hp} {a : Act} {w w' : World} (h : SR κ nt fr H a w) (hk : κ.le κ') (hr : HR κ' H' w')
    {d : Option Nat} (hd : ∀ x, d = some x → x < nt) {v : Value} {x : A} (hv : VR κ' v x) : SR κ' nt (fr.put d x) H' (a.put d v) w' := by
  cases d with
  | none => exact ⟨h.size, h.defers, hr, fun s => (h.vr s).mono hk⟩
  | some d =>
    have hlt := hd d rfl
    refine ⟨by simpa [Act.put] using h.size, h.defers, hr, fun s => ?_⟩
    by_cases hs : s = d
    · subst hs
      simp only [Fr.put, Fr.set, if_true, Act.put]
      have : (a.tmps.setIfInBounds s v).getD s undef = v := by simp [h.size, hlt]
      rw [this]; exact hv
    · simp only [Fr.put, Fr.set, hs, if_false, Act.put]
      have : (a.tmps.setIfInBounds d v).getD s undef = a.tmps.getD s undef := by
        simp [Array.getElem?_setIfInBounds_ne (Ne.symm hs)]
      rw [this]; exact (h.vr s).mono hk

end Go.Zam
