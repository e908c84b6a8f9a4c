/-
  An abstract machine over the model, third part: rows that are never written again; tokens (who may append in place); what is forgotten. No program in sight. No condition.
-/
import Derived.Test.YtjpdjaglggcbkaaZam2
import Derived.Laws.IdiomCopy
namespace Go.Zam
open Go.RowKit (Below)

theorem HR.blk_lt {κ : K} {H : Hp} {w : World} (h : HR κ H w) {b o : Nat} {v : Value} (hv : κ.σ b o = some v) : b < w.heap.size :=
  World.block_lt_of_cell? w ⟨b, o, none⟩ (h.st b o v hv)

/-- stable cells of a new block -/
def addSt (σ : St) (b : Nat) (c : Array Value) (n : Nat) : St := fun b' o => if b' = b then (if o < n then c[o]? else none) else σ b' o

theorem HR.addSt_le {κ : K} {H : Hp} {w : World} (h : HR κ H w) (c : Array Value) (n : Nat) : κ.σ.le (addSt κ.σ w.heap.size c n) := fun b o v hv => by
  have := h.blk_lt hv
  unfold addSt; rw [if_neg (by omega)]; exact hv

/-- what a new block's stable cells read as -/
theorem DR.new {τ : St} (z : Bool) (rows : List (List D)) (b sz cap : Nat) (c : Array Value) (hz : z = true → rows ≠ []) (hcap : rows.length ≤ cap) (hrow : ∀ (k : Nat) (r : List D), rows[k]? = some r → r.length = sz)
    (hτ : ∀ o, o < rows.length * sz → τ b o = c[o]?)
    (hv : ∀ (k j : Nat) (r : List D) (x : D), rows[k]? = some r → r[j]? = some x → ∃ v, c[k * sz + j]? = some v ∧ DR τ v x) :
    DR τ (.slice (some ⟨b, 0, none⟩) rows.length cap) (.sl z sz rows) := by
  refine .sl z sz rows b 0 cap (fun k j => (c[k * sz + j]?).getD (.tuple #[])) hz hcap hrow (fun k j r x hr hx => ?_) (fun k j r x hr hx => ?_)
  · obtain ⟨v, h1, -⟩ := hv k j r x hr hx
    have hk : k < rows.length := (List.getElem?_eq_some_iff.1 hr).1
    have hj : j < sz := by rw [← hrow k r hr]; exact (List.getElem?_eq_some_iff.1 hx).1
    have hlt : k * sz + j < rows.length * sz := by
      have : (k + 1) * sz ≤ rows.length * sz := Nat.mul_le_mul_right _ hk
      rw [Nat.add_mul] at this; omega
    simp only [Nat.zero_add]
    rw [hτ _ hlt, h1]; rfl
  · obtain ⟨v, h1, h2⟩ := hv k j r x hr hx
    simp only [h1, Option.getD_some]; exact h2

theorem HR.pushRow {κ : K} {H : Hp} {w : World} (h : HR κ H w) (c : Array Value) (n : Nat) (t : TypeId) :
    κ.le { κ with σ := addSt κ.σ w.heap.size c n } ∧ HR { κ with σ := addSt κ.σ w.heap.size c n } H (w.alloc (.cells c t)) := by
  have hle : κ.le { κ with σ := addSt κ.σ w.heap.size c n } := ⟨rfl, h.addSt_le c n, fun _ => Bind.le_refl _⟩
  refine ⟨hle, ⟨h.below.alloc h.below.size _, fun b o v hv => ?_, fun i z hz => ?_, h.dom, fun i b hb => ?_, fun i b o ho => ?_, h.exd, h.fl⟩⟩
  · simp only [addSt] at hv
    by_cases hb : b = w.heap.size
    · subst hb
      rw [if_pos rfl] at hv
      by_cases ho : o < n
      · rw [if_pos ho] at hv; rw [World.cell?_alloc_new]; exact hv
      · rw [if_neg ho] at hv; cases hv
    · rw [if_neg hb] at hv
      rw [World.cell?_alloc_lt w _ ⟨b, o, none⟩ (h.blk_lt hv)]; exact h.st b o v hv
  · exact (h.ob i z hz).mono hle rfl fun b hb => Below.heap_alloc w _ b (h.ex i b hb).2
  · have := h.ex i b hb
    exact ⟨this.1, by simp; omega⟩
  · have hlt : b < w.heap.size := (h.ex i b (Bind.block_of_owns ho)).2
    show addSt κ.σ w.heap.size c n b o = none
    simp only [addSt]; rw [if_neg (by omega)]; exact h.exσ i b o ho

/-- a new block for a token: its first cells are stable, the others the token's -/
theorem HR.regrow {κ : K} {H : Hp} {w : World} (h : HR κ H w) {t m sz : Nat} {ty : TypeId} (ht : H[t]? = some (.tok m sz ty)) (c : Array Value) (rows : List (List D)) (cap : Nat) (z : Bool)
    (hm : m < rows.length) (hcap : rows.length ≤ cap) (hsz : c.size = cap * sz) (hrow : ∀ (k : Nat) (r : List D), rows[k]? = some r → r.length = sz)
    (hv : ∀ (k j : Nat) (r : List D) (x : D), rows[k]? = some r → r[j]? = some x → ∃ v, c[k * sz + j]? = some v ∧ DR κ.σ v x) :
    ∃ κ', κ.le κ' ∧ HR κ' (H.set t (.tok rows.length sz ty)) (w.alloc (.cells c ty)) ∧ VR κ' (.slice (some ⟨w.heap.size, 0, none⟩) rows.length cap) (.osl z sz rows t) := by
  have htl : t < H.length := (List.getElem?_eq_some_iff.1 ht).1
  let κ' : K := { κ with σ := addSt κ.σ w.heap.size c (rows.length * sz), β := upd κ.β t (.reg w.heap.size (rows.length * sz) (cap * sz) rows.length sz) }
  have hle : κ.le κ' := ⟨rfl, h.addSt_le c _, fun i => by
    show (κ.β i).le (upd κ.β t _ i)
    by_cases hi : i = t
    · subst hi
      rw [upd_same]
      rcases h.ob i _ ht with ⟨h1, h2⟩ | ⟨b, e, c', cur, lo, hi, h1, -⟩
      · rw [h1]; exact .inr (.inr ⟨_, _, _, _, _, rfl, by omega⟩)
      · rw [h1]; exact .inr (.inr ⟨_, _, _, _, rfl, hm⟩)
    · rw [upd_ne _ _ hi]; exact Bind.le_refl _⟩
  have hre : rows.length * sz ≤ cap * sz := Nat.mul_le_mul_right _ hcap
  refine ⟨κ', hle, ⟨h.below.alloc h.below.size _, fun b o v hv => ?_, fun i z hz => ?_, fun i hi => ?_, fun i b hb => ?_, fun i b o ho => ?_, fun i j b hi hj => ?_, fun i z hz => ?_⟩, .osl ?_ ?_⟩
  · have hv' : addSt κ.σ w.heap.size c (rows.length * sz) b o = some v := hv
    simp only [addSt] at hv'
    by_cases hb : b = w.heap.size
    · subst hb
      rw [if_pos rfl] at hv'
      by_cases ho : o < rows.length * sz
      · rw [if_pos ho] at hv'; rw [World.cell?_alloc_new]; exact hv'
      · rw [if_neg ho] at hv'; cases hv'
    · rw [if_neg hb] at hv'
      rw [World.cell?_alloc_lt w _ ⟨b, o, none⟩ (h.blk_lt hv')]; exact h.st b o v hv'
  · by_cases hi : t = i
    · subst hi
      simp [htl] at hz
      subst hz
      exact .inr ⟨w.heap.size, _, _, c, 0, 0, upd_same _ _ _, by show (w.heap.push _)[w.heap.size]? = _; simp, by omega, .inl rfl⟩
    · rw [List.getElem?_set_ne hi] at hz
      exact (h.ob i z hz).mono hle (upd_ne _ _ (Ne.symm hi)) fun b hb => Below.heap_alloc w _ b (h.ex i b hb).2
  · have hi' : H.length ≤ i := by simpa using hi
    show upd κ.β t _ i = _
    rw [upd_ne _ _ (by omega)]; exact h.dom i hi'
  · by_cases hi : i = t
    · subst hi
      have : some w.heap.size = some b := by rw [← hb]; show _ = (upd κ.β i _ i).block; rw [upd_same]; rfl
      cases this
      exact ⟨h.below.size, by simp⟩
    · have hb' : (κ.β i).block = some b := by rw [← hb]; show _ = (upd κ.β t _ i).block; rw [upd_ne _ _ hi]
      have := h.ex i b hb'
      exact ⟨this.1, by simp; omega⟩
  · show addSt κ.σ w.heap.size c (rows.length * sz) b o = none
    by_cases hi : i = t
    · subst hi
      have ho' : (Bind.reg w.heap.size (rows.length * sz) (cap * sz) rows.length sz).owns b o := by
        have := ho
        change (upd κ.β i _ i).owns b o at this
        rwa [upd_same] at this
      obtain ⟨rfl, ho2⟩ := ho'
      simp only [addSt, if_true]; rw [if_neg (by omega)]
    · have ho' : (κ.β i).owns b o := by
        have := ho
        change (upd κ.β t _ i).owns b o at this
        rwa [upd_ne _ _ hi] at this
      have hlt : b < w.heap.size := (h.ex i b (Bind.block_of_owns ho')).2
      simp only [addSt]; rw [if_neg (by omega)]; exact h.exσ i b o ho'
  · have hnew : ∀ k, k ≠ t → (κ'.β k).block = some b → b < w.heap.size := fun k hk hb => by
      change (upd κ.β t _ k).block = some b at hb
      rw [upd_ne _ _ hk] at hb
      exact (h.ex k b hb).2
    have hat : (κ'.β t).block = some w.heap.size := by show (upd κ.β t _ t).block = _; rw [upd_same]; rfl
    by_cases h1 : i = t <;> by_cases h2 : j = t
    · omega
    · subst h1; rw [hat] at hi; cases hi; have := hnew j h2 hj; omega
    · subst h2; rw [hat] at hj; cases hj; have := hnew i h1 hi; omega
    · change (upd κ.β t _ i).block = some b at hi
      change (upd κ.β t _ j).block = some b at hj
      rw [upd_ne _ _ h1] at hi
      rw [upd_ne _ _ h2] at hj
      exact h.exd i j b hi hj
  · by_cases hi : t = i
    · subst hi
      simp [htl] at hz
      subst hz; rfl
    · rw [List.getElem?_set_ne hi] at hz; exact h.fl i z hz
  · refine DR.new z rows w.heap.size sz cap c (fun _ hnil => by subst hnil; simp at hm) hcap hrow (fun o ho => ?_) (fun k j r x hr hx => ?_)
    · show addSt κ.σ w.heap.size c (rows.length * sz) w.heap.size o = _
      simp [addSt, ho]
    · obtain ⟨v, h1, h2⟩ := hv k j r x hr hx
      exact ⟨v, h1, h2.mono hle.σ⟩
  · show tokFit (upd κ.β t _ t) _ _
    rw [upd_same]
    exact ⟨Nat.le_refl _, fun _ => ⟨0, cap, rfl, hcap, by simp, by simp, rfl⟩⟩

/-- a token appends in place -/
theorem HR.appendIn {κ : K} {H : Hp} {w : World} (h : HR κ H w) {t sz : Nat} {ty : TypeId} {rows : List (List D)} {z : Bool} {v : Value} (ht : H[t]? = some (.tok rows.length sz ty)) (hv : VR κ v (.osl z sz rows t))
    (new : List (List D)) (hnew : new ≠ []) (vs : List Value) (hrow : ∀ (k : Nat) (r : List D), new[k]? = some r → r.length = sz) (hlen : vs.length = new.length * sz)
    (hvs : ∀ (k j : Nat) (r : List D) (x : D), new[k]? = some r → r[j]? = some x → ∃ u, vs[k * sz + j]? = some u ∧ DR κ.σ u x)
    {b o cap : Nat} (hval : v = .slice (some ⟨b, o, none⟩) rows.length cap) (hroom : rows.length + new.length ≤ cap) :
    (∀ j, j < vs.length → (w.cell? ⟨b, o + rows.length * sz + j, none⟩).isSome = true) ∧ (∀ j, j < vs.length → w.frozen? ⟨b, o + rows.length * sz + j, none⟩ = false) ∧
    ∃ κ', κ.le κ' ∧ HR κ' (H.set t (.tok (rows.length + new.length) sz ty)) (w.setCells b (o + rows.length * sz) vs) ∧ VR κ' (.slice (some ⟨b, o, none⟩) (rows.length + new.length) cap) (.osl z sz (rows ++ new) t) := by
  subst hval
  have htl : t < H.length := (List.getElem?_eq_some_iff.1 ht).1
  have hn0 : 0 < new.length := List.length_pos_iff.2 hnew
  cases hv with
  | osl hd hf =>
  rcases h.ob t _ ht with ⟨h1, h2⟩ | ⟨b', e, c, cur, lo, hi, h1, hheap, hcs, hlo⟩
  · rw [h1] at hf; obtain ⟨-, hf⟩ := hf; cases hf
  rw [h1] at hf
  obtain ⟨-, hf⟩ := hf
  obtain ⟨o', cap', heq, hle', he, hc, ho0⟩ := hf rfl
  cases heq
  have hcells := OR.spare hheap hcs (hlo.imp (fun e => Nat.le_of_eq e.symm) id)
  have hfit : ∀ j, j < vs.length → o + rows.length * sz + j < c := fun j hj => by
    have : (rows.length + new.length) * sz ≤ cap * sz := Nat.mul_le_mul_right _ hroom
    rw [Nat.add_mul] at this; omega
  have hcell : ∀ j, j < vs.length → (w.cell? ⟨b, o + rows.length * sz + j, none⟩).isSome = true := fun j hj => by
    obtain ⟨⟨u, hu⟩, -⟩ := hcells (o + rows.length * sz + j) (by omega) (hfit j hj)
    rw [hu]; rfl
  have hfz : ∀ j, j < vs.length → w.frozen? ⟨b, o + rows.length * sz + j, none⟩ = false := fun j hj => (hcells (o + rows.length * sz + j) (by omega) (hfit j hj)).2
  refine ⟨hcell, hfz, ?_⟩
  have hown : ∀ p, e ≤ p → κ.σ b p = none := fun p hp => h.exσ t b p (by rw [h1]; exact ⟨rfl, hp⟩)
  have hbx := h.ex t b (by rw [h1]; rfl)
  let τ : St := fun b' p => if b' = b ∧ e ≤ p ∧ p < e + vs.length then vs[p - e]? else κ.σ b' p
  let κ' : K := { κ with σ := τ, β := upd κ.β t (.reg b (e + vs.length) c (rows.length + new.length) sz) }
  have hσ : κ.σ.le τ := fun b' p u hu => by
    show (if b' = b ∧ e ≤ p ∧ p < e + vs.length then vs[p - e]? else κ.σ b' p) = some u
    rw [if_neg (fun hh => by rw [hh.1, hown p hh.2.1] at hu; cases hu)]; exact hu
  have hle : κ.le κ' := ⟨rfl, hσ, fun i => by
    show (κ.β i).le (upd κ.β t _ i)
    by_cases hi : i = t
    · subst hi; rw [upd_same, h1]; exact .inr (.inr ⟨_, _, _, _, rfl, by omega⟩)
    · rw [upd_ne _ _ hi]; exact Bind.le_refl _⟩
  have hout : ∀ b' p, ¬ (b' = b ∧ e ≤ p ∧ p < e + vs.length) → (w.setCells b (o + rows.length * sz) vs).cell? ⟨b', p, none⟩ = w.cell? ⟨b', p, none⟩ := fun b' p hh =>
    World.cell?_setCells_out b vs _ w ⟨b', p, none⟩ (fun hb _ => by
      simp only at hb ⊢
      by_cases hlt : p < o + rows.length * sz
      · exact .inl hlt
      · refine .inr (Nat.le_of_not_lt fun h3 => hh ⟨hb, by omega, by omega⟩))
  have hsize : (w.setCells b (o + rows.length * sz) vs).heap.size = w.heap.size := by
    have : ∀ (vs : List Value) (o : Nat) (w : World), (w.setCells b o vs).heap.size = w.heap.size := fun vs => by
      induction vs with
      | nil => intro o w; rfl
      | cons x r ih => intro o w; rw [World.setCells, ih]; simp
    exact this _ _ _
  have hbelow : Below κ.w0.heap.size κ.w0 (w.setCells b (o + rows.length * sz) vs) := by
    have : ∀ (vs : List Value) (o : Nat) (w : World), Below κ.w0.heap.size κ.w0 w → Below κ.w0.heap.size κ.w0 (w.setCells b o vs) := fun vs => by
      induction vs with
      | nil => intro o w hw; exact hw
      | cons x r ih => intro o w hw; rw [World.setCells]; exact ih _ _ (hw.setCell hbx.1 x)
    exact this _ _ _ h.below
  have hblk : ∀ (vs : List Value) (o : Nat) (w : World), (∀ k, k ≠ b → (w.setCells b o vs).heap[k]? = w.heap[k]?) ∧ ∀ cur, w.heap[b]? = some (.cells cur ty (lo, hi)) → ∃ cur', (w.setCells b o vs).heap[b]? = some (.cells cur' ty (lo, hi)) ∧ cur'.size = cur.size := fun vs => by
    induction vs with
    | nil => exact fun o w => ⟨fun _ _ => rfl, fun cur hc => ⟨cur, hc, rfl⟩⟩
    | cons x r ih =>
      intro o w
      obtain ⟨i1, i2⟩ := ih (o + 1) (w.setCell ⟨b, o, none⟩ x)
      refine ⟨fun k hk => by rw [World.setCells, i1 k hk]; exact Below.heap_setCell w _ x k hk, fun cur hc => ?_⟩
      obtain ⟨cur', h1, h2⟩ := i2 (cur.setIfInBounds o x) (by simp [World.setCell, Array.getElem?_modify, hc])
      exact ⟨cur', h1, by simpa using h2⟩
  obtain ⟨cur', hheap', hcs'⟩ := (hblk vs (o + rows.length * sz) w).2 cur hheap
  refine ⟨κ', hle, ⟨hbelow, fun b' p u hu => ?_, fun i y hy => ?_, fun i hi => ?_, fun i b' hb' => ?_, fun i b' p hp => ?_, fun i j b' hi hj => ?_, fun i z hz => ?_⟩, .osl ?_ ?_⟩
  · have hu' : (if b' = b ∧ e ≤ p ∧ p < e + vs.length then vs[p - e]? else κ.σ b' p) = some u := hu
    by_cases hh : b' = b ∧ e ≤ p ∧ p < e + vs.length
    · rw [if_pos hh] at hu'
      obtain ⟨rfl, h3, h4⟩ := hh
      have hj : p - e < vs.length := by omega
      have := World.cell?_setCells_in b' vs (o + rows.length * sz) w hcell (p - e) hj
      rw [show o + rows.length * sz + (p - e) = p by omega] at this
      rw [this]
      rw [List.getElem?_eq_getElem hj] at hu'; exact hu'
    · rw [if_neg hh] at hu'
      rw [hout b' p hh]; exact h.st b' p u hu'
  · by_cases hi : t = i
    · subst hi
      simp [htl] at hy
      subst hy
      exact .inr ⟨b, _, _, cur', lo, hi, upd_same _ _ _, hheap', by omega, hlo.imp id (fun h => Nat.le_trans h (Nat.le_add_right _ _))⟩
    · rw [List.getElem?_set_ne hi] at hy
      refine (h.ob i y hy).mono hle (upd_ne _ _ (Ne.symm hi)) fun b' hb' => ?_
      have hbb : b' ≠ b := fun hh => by subst hh; exact hi (h.exd t i b' (by rw [h1]; rfl) hb')
      exact (hblk vs _ w).1 b' hbb
  · have hi' : H.length ≤ i := by simpa using hi
    show upd κ.β t _ i = _
    rw [upd_ne _ _ (by omega)]; exact h.dom i hi'
  · rw [hsize]
    by_cases hi : i = t
    · subst hi
      have : some b = some b' := by rw [← hb']; show _ = (upd κ.β i _ i).block; rw [upd_same]; rfl
      cases this
      exact hbx
    · exact h.ex i b' (by rw [← hb']; show _ = (upd κ.β t _ i).block; rw [upd_ne _ _ hi])
  · show (if b' = b ∧ e ≤ p ∧ p < e + vs.length then vs[p - e]? else κ.σ b' p) = none
    by_cases hi : i = t
    · subst hi
      have ho' : (Bind.reg b (e + vs.length) c (rows.length + new.length) sz).owns b' p := by
        have := hp
        change (upd κ.β i _ i).owns b' p at this
        rwa [upd_same] at this
      obtain ⟨rfl, ho2⟩ := ho'
      rw [if_neg (by omega)]; exact hown p (by omega)
    · have ho' : (κ.β i).owns b' p := by
        have := hp
        change (upd κ.β t _ i).owns b' p at this
        rwa [upd_ne _ _ hi] at this
      have hbb : b' ≠ b := fun hh => by subst hh; exact hi (h.exd i t b' (Bind.block_of_owns ho') (by rw [h1]; rfl))
      rw [if_neg (fun hh => hbb hh.1)]; exact h.exσ i b' p ho'
  · have hat : ∀ k, (κ'.β k).block = (κ.β k).block := fun k => by
      show (upd κ.β t _ k).block = _
      by_cases hk : k = t
      · subst hk; rw [upd_same, h1]; rfl
      · rw [upd_ne _ _ hk]
    rw [hat] at hi hj
    exact h.exd i j b' hi hj
  · by_cases hi : t = i
    · subst hi
      simp [htl] at hz
      subst hz; rfl
    · rw [List.getElem?_set_ne hi] at hz; exact h.fl i z hz
  · -- the whole slice
    obtain ⟨-, f, hz, hcap, hrows, hcs, hds⟩ := hd.sl_at
    have hg := DR.sl (σ := τ) z sz (rows ++ new) b o cap (fun i j => if i < rows.length then f i j else (vs[(i - rows.length) * sz + j]?).getD (.tuple #[]))
      (fun _ hh => by have : new = [] := (List.append_eq_nil_iff.1 hh).2; exact hnew this) (by simpa using hroom)
      (fun i r hr => by
        by_cases hi : i < rows.length
        · rw [List.getElem?_append_left hi] at hr; exact hrows i r hr
        · rw [List.getElem?_append_right (by omega)] at hr; exact hrow _ r hr)
      (fun i j r x hr hx => by
        by_cases hi : i < rows.length
        · rw [List.getElem?_append_left hi] at hr
          simp only [hi, if_true]
          exact hσ _ _ _ (hcs i j r x hr hx)
        · rw [List.getElem?_append_right (by omega)] at hr
          simp only [hi, if_false]
          obtain ⟨u, h3, h4⟩ := hvs (i - rows.length) j r x hr hx
          rw [h3]
          have hk : i - rows.length < new.length := (List.getElem?_eq_some_iff.1 hr).1
          have hj : j < sz := by rw [← hrow _ r hr]; exact (List.getElem?_eq_some_iff.1 hx).1
          have hpos : o + i * sz + j = e + ((i - rows.length) * sz + j) := by
            have : i * sz = rows.length * sz + (i - rows.length) * sz := by rw [← Nat.add_mul]; congr 1; omega
            omega
          have hlt : (i - rows.length) * sz + j < vs.length := (List.getElem?_eq_some_iff.1 h3).1
          show (if b = b ∧ e ≤ o + i * sz + j ∧ o + i * sz + j < e + vs.length then vs[o + i * sz + j - e]? else κ.σ b (o + i * sz + j)) = _
          rw [if_pos ⟨rfl, by omega, by omega⟩, hpos, show e + ((i - rows.length) * sz + j) - e = (i - rows.length) * sz + j by omega, h3]; rfl)
      (fun i j r x hr hx => by
        by_cases hi : i < rows.length
        · rw [List.getElem?_append_left hi] at hr
          simp only [hi, if_true]
          exact (hds i j r x hr hx).mono hσ
        · rw [List.getElem?_append_right (by omega)] at hr
          simp only [hi, if_false]
          obtain ⟨u, h3, h4⟩ := hvs (i - rows.length) j r x hr hx
          rw [h3]
          exact h4.mono hσ)
    simpa using hg
  · show tokFit (upd κ.β t _ t) _ _
    rw [upd_same]
    refine ⟨by simp, fun _ => ⟨o, cap, by simp, by simpa using hroom, ?_, hc, ho0⟩⟩
    rw [List.length_append, Nat.add_mul]; omega

end Go.Zam
