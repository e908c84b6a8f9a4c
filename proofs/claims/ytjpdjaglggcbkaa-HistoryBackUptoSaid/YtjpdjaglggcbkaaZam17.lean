/-
  An abstract machine over the model, seventeenth part: from the reading of a call's arguments to pure data. No program in sight. No condition.
-/
import Derived.Test.YtjpdjaglggcbkaaZam16
import Derived.DataReads
import Derived.ChangeArms
namespace Go.Zam

/-- so many cells a field, one behind the other -/
def lays (P : Program) : List Field → Nat → Nat → Bool
  | [], off, tot => off == tot
  | f :: r, off, tot => f.offset == off && lays P r (off + P.cellsOf f.type) tot

/-- types whose readings are pure data -/
def plainT (P : Program) (ts : List TypeId) : Bool := ts.all fun t =>
  match P.underlying t with
  | some .bool | some (.int _) | some .string => true
  | some (.slice e) => ts.contains e && decide (0 < P.cellsOf e)
  | some (.struct fs) => fs.toList.all (fun f => ts.contains f.type) && lays P fs.toList 0 (P.cellsOf t)
  | _ => false

def TypedFs (T : TypeId → List D → Prop) : List Field → List D → Prop
  | [], ds => ds = []
  | f :: r, ds => ∃ a b, ds = a ++ b ∧ T f.type a ∧ TypedFs T r b

def Typed (P : Program) : Nat → TypeId → List D → Prop
  | 0, _, _ => False
  | n + 1, t, ds =>
    match P.underlying t with
    | some .bool => ∃ b, ds = [.bool b]
    | some (.int k) => ∃ x, ds = [.int k x] ∧ (Lit.int k x).wf = true
    | some .string => ∃ s, ds = [.str s]
    | some (.slice e) => ∃ z rows, ds = [.sl z (P.cellsOf e) rows] ∧ ∀ r ∈ rows, Typed P n e r
    | some (.struct fs) => TypedFs (Typed P n) fs.toList ds
    | _ => False

mutual
def D.bulk : D → Nat
  | .str s => s.length + 1
  | .sl _ _ rows => D.bulkR rows + 1
  | _ => 1
def D.bulkR : List (List D) → Nat
  | [] => 0
  | r :: rs => D.bulkC r + D.bulkR rs
def D.bulkC : List D → Nat
  | [] => 0
  | d :: ds => D.bulk d + D.bulkC ds
end

theorem D.bulkC_append (a b : List D) : D.bulkC (a ++ b) = D.bulkC a + D.bulkC b := by
  induction a with
  | nil => simp [D.bulkC]
  | cons x r ih => simp only [List.cons_append, D.bulkC, ih]; omega

/-- how a reading's size is counted -/
structure IsBulk {X : Type} (f : DataW X → Nat) (fs : List (DataW X) → Nat) : Prop where
  str : ∀ b, b.length + 1 ≤ f (.lit (.string b))
  bool : ∀ b, 1 ≤ f (.lit (.bool b))
  int : ∀ k n, 1 ≤ f (.lit (.int k n))
  nil : 1 ≤ f .nil
  slice : ∀ e s, fs e + 1 ≤ f (.slice e s)
  agg : ∀ p, fs p ≤ f (.agg p)
  cons : ∀ d r, f d + fs r ≤ fs (d :: r)

def wst (w : World) : St := fun b o => w.cell? ⟨b, o, none⟩

section
variable {X : Type} {enc : TypeId × Value → X} {P : Program} {w : World} {base : Nat} {spare : Nat → Bool} {held : Bool}

theorem fields_read {ts : List TypeId} {f : DataW X → Nat} {fs : List (DataW X) → Nat} (B : IsBulk f fs) {n : Nat}
    (ih : ∀ (t : TypeId) (cs : List Value) (x : DataW X × List MemPlace), DataW.trod enc P w base spare held n t cs = some x → t ∈ ts →
      ∃ ds : List D, ds.length = cs.length ∧ Typed P n t ds ∧ D.bulkC ds ≤ f x.1 ∧ ∀ (i : Nat) (v : Value) (d : D), cs[i]? = some v → ds[i]? = some d → DR (wst w) v d) (cs : List Value) :
    ∀ (l : List Field) (off : Nat) (xs : List (DataW X × List MemPlace)), lays P l off cs.length = true → (∀ g ∈ l, g.type ∈ ts) → xs.length = l.length →
      (∀ (i : Nat) (g : Field), l[i]? = some g → DataW.trod enc P w base spare held n g.type ((cs.drop g.offset).take (P.cellsOf g.type)) = xs[i]?) → off ≤ cs.length →
      ∃ ds : List D, ds.length + off = cs.length ∧ TypedFs (Typed P n) l ds ∧ D.bulkC ds ≤ fs (xs.map (·.1)) ∧ ∀ (i : Nat) (v : Value) (d : D), cs[off + i]? = some v → ds[i]? = some d → DR (wst w) v d
  | [], off, xs, hl, _, hx, _, _ => by
    simp only [lays, beq_iff_eq] at hl
    refine ⟨[], by simp [hl], rfl, by simp [D.bulkC], by simp⟩
  | g :: r, off, xs, hl, hm, hx, hr, hoff => by
    simp only [lays, Bool.and_eq_true, beq_iff_eq] at hl
    obtain ⟨h1, h2⟩ := hl
    cases xs with
    | nil => simp at hx
    | cons x xs =>
    have h0 := hr 0 g rfl
    simp only [List.getElem?_cons_zero] at h0
    obtain ⟨a, ha1, ha2, ha3, ha4⟩ := ih _ _ _ h0 (hm g (by simp))
    have hle : off + P.cellsOf g.type ≤ cs.length := by
      have : ∀ (l : List Field) (o tot : Nat), lays P l o tot = true → o ≤ tot := by
        intro l
        induction l with
        | nil => intro o tot h; simp [lays] at h; omega
        | cons y l ih => intro o tot h; simp [lays] at h; have := ih _ _ h.2; omega
      exact this _ _ _ h2
    have hal : a.length = P.cellsOf g.type := by rw [ha1, h1]; simp; omega
    obtain ⟨b, hb1, hb2, hb3, hb4⟩ := fields_read B ih cs r (off + P.cellsOf g.type) xs h2 (fun g' hg => hm g' (by simp [hg])) (by simpa using hx) (fun i g' hi => by have := hr (i + 1) g' (by simpa using hi); simpa using this) hle
    refine ⟨a ++ b, by simp; omega, ⟨a, b, rfl, ha2, hb2⟩, ?_, fun i v d hv hd => ?_⟩
    · rw [D.bulkC_append]
      have := B.cons x.1 (xs.map (·.1))
      simp only [List.map_cons]
      omega
    · by_cases hi : i < a.length
      · rw [List.getElem?_append_left hi] at hd
        refine ha4 i v d ?_ hd
        rw [h1, List.getElem?_take, List.getElem?_drop, if_pos (by omega)]
        exact hv
      · rw [List.getElem?_append_right (by omega)] at hd
        refine hb4 (i - a.length) v d ?_ hd
        rw [show off + P.cellsOf g.type + (i - a.length) = off + i by omega]
        exact hv

theorem rows_read {f : DataW X → Nat} {fs : List (DataW X) → Nat} (B : IsBulk f fs) : ∀ (rows : List (List D)) (l : List (DataW X)), rows.length = l.length → (∀ (i : Nat) (r : List D) (d : DataW X), rows[i]? = some r → l[i]? = some d → D.bulkC r ≤ f d) → D.bulkR rows ≤ fs l
  | [], l, _, _ => by simp [D.bulkR]
  | r :: rows, [], h, _ => by simp at h
  | r :: rows, d :: l, h, hi => by
    have h1 := hi 0 r d rfl rfl
    have h2 := rows_read B rows l (by simpa using h) (fun i r' d' hr hd => hi (i + 1) r' d' (by simpa using hr) (by simpa using hd))
    have h3 := B.cons d l
    simp only [D.bulkR]
    omega

/-- A READING OF PLAIN DATA, AS DATA OF THE MACHINE -/
theorem trod_read {ts : List TypeId} (hp : plainT P ts = true) {f : DataW X → Nat} {fs : List (DataW X) → Nat} (B : IsBulk f fs) : ∀ (n : Nat) (t : TypeId) (cs : List Value) (x : DataW X × List MemPlace),
    DataW.trod enc P w base spare held n t cs = some x → t ∈ ts →
      ∃ ds : List D, ds.length = cs.length ∧ Typed P n t ds ∧ D.bulkC ds ≤ f x.1 ∧ ∀ (i : Nat) (v : Value) (d : D), cs[i]? = some v → ds[i]? = some d → DR (wst w) v d
  | 0, t, cs, x, h, _ => by simp [DataW.trod] at h
  | n + 1, t, cs, x, h, ht => by
    have hpt := List.all_eq_true.1 hp t ht
    have one : ∀ (v : Value) (d : D), DR (wst w) v d → ∀ (i : Nat) (v' : Value) (d' : D), [v][i]? = some v' → [d][i]? = some d' → DR (wst w) v' d' := fun v d hd i v' d' h1 h2 => by
      cases i with
      | zero => simp at h1 h2; subst h1; subst h2; exact hd
      | succ i => simp at h1
    split at hpt
    · rename_i hu
      obtain ⟨b, rfl, rfl⟩ := DataW.trod_bool hu h
      exact ⟨[.bool b], rfl, by simp [Typed, hu], by have := B.bool b; simpa [D.bulkC, D.bulk] using this, one _ _ (.bool b)⟩
    · rename_i k hu
      obtain ⟨m, rfl, rfl, hw⟩ := DataW.trod_int hu h
      exact ⟨[.int k m], rfl, by simp [Typed, hu, hw], by have := B.int k m; simpa [D.bulkC, D.bulk] using this, one _ _ (.int k m)⟩
    · rename_i hu
      obtain ⟨s, rfl, rfl, hw⟩ := DataW.trod_string hu h
      exact ⟨[.str s.data.toList], rfl, by simp [Typed, hu], by have := B.str s.data.toList; simpa [D.bulkC, D.bulk] using this, one _ _ (.str s)⟩
    · rename_i e hu
      simp only [Bool.and_eq_true, List.contains_iff_mem, decide_eq_true_eq] at hpt
      obtain ⟨he, hpos⟩ := hpt
      rcases DataW.trod_slice hu h with ⟨rfl, rfl⟩ | ⟨a, len, cap, elems, rest, n', hn, rfl, rfl, hb, hlc, hcm, hel, hread, -, -⟩
      · exact ⟨[.sl true (P.cellsOf e) []], rfl, by simp [Typed, hu], by have := B.nil; simpa [D.bulkC, D.bulk, D.bulkR] using this, one _ _ (.nilsl _)⟩
      · cases hn
        have each : ∀ i, i < len → ∃ (r : List D) (cs' : List Value) (y : DataW X × List MemPlace), elems[i]? = some y ∧ w.cells? base (a.add (i * P.cellsOf e)) (P.cellsOf e) = some cs' ∧ r.length = cs'.length ∧ Typed P n e r ∧ D.bulkC r ≤ f y.1 ∧
            ∀ (j : Nat) (v : Value) (d : D), cs'[j]? = some v → r[j]? = some d → DR (wst w) v d := fun i hi => by
          have h1 := hread i hi
          have h2 : elems[i]? = some (elems[i]'(by omega)) := List.getElem?_eq_getElem (by omega)
          rw [h2] at h1
          obtain ⟨cs', h3, h4⟩ := Option.bind_eq_some_iff.1 h1
          obtain ⟨r, r1, r2, r3, r4⟩ := trod_read hp B n e cs' _ h4 he
          exact ⟨r, cs', _, h2, h3, r1, r2, r3, r4⟩
        have each' : ∀ i : Nat, ∃ (r : List D), i < len → ∃ (cs' : List Value) (y : DataW X × List MemPlace), elems[i]? = some y ∧ w.cells? base (a.add (i * P.cellsOf e)) (P.cellsOf e) = some cs' ∧ r.length = cs'.length ∧ Typed P n e r ∧ D.bulkC r ≤ f y.1 ∧
            ∀ (j : Nat) (v : Value) (d : D), cs'[j]? = some v → r[j]? = some d → DR (wst w) v d := fun i => by
          by_cases hi : i < len
          · obtain ⟨r, h⟩ := each i hi; exact ⟨r, fun _ => h⟩
          · exact ⟨[], fun h => absurd h hi⟩
        obtain ⟨R, hR⟩ := Classical.axiomOfChoice each'
        have hrows : ∀ (i : Nat) (r : List D), ((List.range len).map R)[i]? = some r → i < len ∧ r = R i := fun i r hr => by
          simp only [List.getElem?_map, Option.map_eq_some_iff] at hr
          obtain ⟨k, hk, rfl⟩ := hr
          obtain ⟨hk1, hk2⟩ := List.getElem?_eq_some_iff.1 hk
          simp at hk1 hk2
          subst hk2
          exact ⟨hk1, rfl⟩
        refine ⟨[.sl (decide (len ≠ 0)) (P.cellsOf e) ((List.range len).map R)], rfl, ?_, ?_, ?_⟩
        · simp only [Typed, hu]
          refine ⟨_, _, rfl, fun r hr => ?_⟩
          obtain ⟨i, hi, rfl⟩ := List.mem_map.1 hr
          obtain ⟨cs', y, -, -, -, h5, -⟩ := hR i (by simpa using hi)
          exact h5
        · have h1 := rows_read B ((List.range len).map R) (elems.map (·.1)) (by simp [hel]) (fun i r d hr hd => by
            obtain ⟨hi, rfl⟩ := hrows i r hr
            obtain ⟨cs', y, h3, -, -, -, h6, -⟩ := hR i hi
            simp only [List.getElem?_map, h3, Option.map_some, Option.some.injEq] at hd
            subst hd; exact h6)
          have h2 := B.slice (elems.map (·.1)) (rest.map (·.1))
          simp only [D.bulkC, D.bulk]
          omega
        · refine one _ _ ?_
          cases len with
          | zero => exact .emp _ _ _
          | succ m =>
            have hcell : ∀ (i j : Nat) (r : List D) (d : D), ((List.range (m + 1)).map R)[i]? = some r → r[j]? = some d → r.length = P.cellsOf e ∧ ∃ v, w.cell? ((a.add (i * P.cellsOf e)).add j) = some v ∧ DR (wst w) v d := fun i j r d hr hd => by
              obtain ⟨hi, rfl⟩ := hrows i r hr
              obtain ⟨cs', y, -, h3, h4, -, -, h7⟩ := hR i hi
              obtain ⟨-, hcl, hat⟩ := World.cells?_some h3
              have hj : j < (R i).length := (List.getElem?_eq_some_iff.1 hd).1
              have hv : cs'[j]? = some (cs'[j]'(by omega)) := List.getElem?_eq_getElem (by omega)
              exact ⟨by omega, _, (hat j (by omega)).trans hv, h7 j _ d hv hd⟩
            obtain ⟨b, o, s⟩ := a
            have hs : s = none := by
              obtain ⟨cs', y, -, h3, h4, -⟩ := hR 0 (by omega)
              obtain ⟨-, hcl, hat⟩ := World.cells?_some h3
              have hv : cs'[0]? = some (cs'[0]'(by omega)) := List.getElem?_eq_getElem (by omega)
              have := (hat 0 hpos).trans hv
              rw [show ((⟨b, o, s⟩ : Addr).add (0 * P.cellsOf e)).add 0 = ⟨b, o, s⟩ by simp [Addr.add]] at this
              unfold World.cell? at this
              split at this
              · split at this
                · cases this
                · rename_i hns
                  cases s with
                  | none => rfl
                  | some q => exact absurd rfl hns
              · cases this
            subst hs
            have hval : ∀ (i j : Nat), ∃ v : Value, ∀ (r : List D) (d : D), ((List.range (m + 1)).map R)[i]? = some r → r[j]? = some d → wst w b (o + i * P.cellsOf e + j) = some v ∧ DR (wst w) v d := fun i j => by
              by_cases hx : ∃ (r : List D) (d : D), ((List.range (m + 1)).map R)[i]? = some r ∧ r[j]? = some d
              · obtain ⟨r, d, hr, hd⟩ := hx
                obtain ⟨-, v, hv1, hv2⟩ := hcell i j r d hr hd
                refine ⟨v, fun r' d' hr' hd' => ?_⟩
                rw [hr] at hr'; cases hr'
                rw [hd] at hd'; cases hd'
                rw [add_mk, add_mk] at hv1
                exact ⟨hv1, hv2⟩
              · exact ⟨.tuple #[], fun r d hr hd => absurd ⟨r, d, hr, hd⟩ hx⟩
            obtain ⟨F, hF⟩ := Classical.axiomOfChoice fun i => Classical.axiomOfChoice (hval i)
            have := DR.sl (σ := wst w) (decide (m + 1 ≠ 0)) (P.cellsOf e) ((List.range (m + 1)).map R) b o cap F (fun _ hh => by simp at hh) (by simpa using hlc) (fun i r hr => by
                obtain ⟨hi, rfl⟩ := hrows i r hr
                obtain ⟨cs', y, -, h3, h4, -⟩ := hR i hi
                obtain ⟨-, hcl, -⟩ := World.cells?_some h3
                omega) (fun i j r d hr hd => (hF i j r d hr hd).1) (fun i j r d hr hd => (hF i j r d hr hd).2)
            simpa using this
    · rename_i gs hu
      simp only [Bool.and_eq_true, List.all_eq_true, List.contains_iff_mem] at hpt
      obtain ⟨hm, hl⟩ := hpt
      obtain ⟨xs, n', hn, rfl, hcl, hxl, hr⟩ := DataW.trod_struct hu h
      cases hn
      rw [← hcl] at hl
      obtain ⟨ds, d1, d2, d3, d4⟩ := fields_read B (fun t cs x h ht => trod_read hp B n t cs x h ht) cs gs.toList 0 xs hl (fun g hg => hm g hg) (by simpa using hxl) (fun i g hi => hr i g (by simpa using hi)) (Nat.zero_le _)
      refine ⟨ds, by omega, by simp only [Typed, hu]; exact d2, Nat.le_trans d3 (B.agg _), fun i v d hv hd => d4 i v d (by simpa using hv) hd⟩
    · cases hpt

end
end Go.Zam
