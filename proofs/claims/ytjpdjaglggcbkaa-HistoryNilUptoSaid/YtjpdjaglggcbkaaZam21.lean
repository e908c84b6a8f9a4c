/-
  An abstract machine over the model, twenty-first part: arrays that are written, given back as plain slices. No condition.
-/
import Derived.Test.YtjpdjaglggcbkaaZam20
namespace Go.Zam

/-- the cells of an array, as they are now -/
def frzSt (σ : St) (b : Nat) (w : World) (n : Nat) : St := fun b' o => if b' = b then (if o < n then w.cell? ⟨b, o, none⟩ else none) else σ b' o

/-- an array that is written no more: its rows are stable -/
theorem HR.freezeArr {κ : K} {H : Hp} {w : World} (h : HR κ H w) {i sz : Nat} {rows : List (List D)} (hi : H[i]? = some (.arr sz (rows.map (List.map .d)))) {v : Value} (hv : VR κ v (.msl i 0 rows.length)) :
    ∃ κ', κ.le κ' ∧ HR κ' (H.set i .dead) w ∧ VR κ' v (.d (.sl false sz rows)) := by
  have hil : i < H.length := (List.getElem?_eq_some_iff.1 hi).1
  cases hv with
  | msl _ _ _ b sz' o cap hb hl ho hz =>
  obtain ⟨b', hb', hc⟩ := h.ob i _ hi
  obtain ⟨rfl, rfl⟩ : b' = b ∧ sz = sz' := by rcases hb with hb | hb <;> rw [hb] at hb' <;> cases hb'; exact ⟨rfl, rfl⟩
  have hex := h.ex i b' (by rw [hb']; rfl)
  have hσ : ∀ o, κ.σ b' o = none := fun o => h.exσ i b' o (by rw [hb']; rfl)
  let κ' : K := { κ with σ := frzSt κ.σ b' w (rows.length * sz), β := upd κ.β i .deadT }
  have hle : κ.le κ' := ⟨rfl, fun b2 o2 u hu => by
    show frzSt κ.σ b' w _ b2 o2 = some u
    by_cases hbb : b2 = b'
    · subst hbb; rw [hσ] at hu; cases hu
    · simp only [frzSt, hbb, if_false]; exact hu, fun j => by
    show (κ.β j).le (upd κ.β i _ j)
    by_cases hj : j = i
    · subst hj; rw [upd_same, hb']; exact .inr rfl
    · rw [upd_ne _ _ hj]; exact Bind.le_refl _⟩
  refine ⟨κ', hle, ⟨h.below, fun b2 o2 u hu => ?_, fun j x hj => ?_, fun j hj => ?_, fun j b2 hb2 => ?_, fun j b2 o2 ho2 => ?_, fun j k b2 hj hk => ?_, fun j x hj => ?_⟩, .d ?_⟩
  · have hu' : frzSt κ.σ b' w (rows.length * sz) b2 o2 = some u := hu
    simp only [frzSt] at hu'
    split at hu'
    · rename_i e; subst e
      split at hu'
      · exact hu'
      · cases hu'
    · exact h.st b2 o2 u hu'
  · by_cases hji : i = j
    · subst hji
      rw [List.getElem?_set_self hil] at hj
      cases hj; trivial
    · rw [List.getElem?_set_ne hji] at hj
      exact (h.ob j x hj).mono hle (upd_ne _ _ (Ne.symm hji)) fun b _ => rfl
  · have : H.length ≤ j := by simpa using hj
    show upd κ.β i _ j = _
    rw [upd_ne _ _ (by omega)]; exact h.dom j this
  · by_cases hji : j = i
    · subst hji
      have : (upd κ.β j Bind.deadT j).block = some b2 := hb2
      rw [upd_same] at this; cases this
    · have : (upd κ.β i Bind.deadT j).block = some b2 := hb2
      rw [upd_ne _ _ hji] at this
      exact h.ex j b2 this
  · by_cases hji : j = i
    · subst hji
      have : (upd κ.β j Bind.deadT j).owns b2 o2 := ho2
      rw [upd_same] at this; exact this.elim
    · have h1 : (upd κ.β i Bind.deadT j).owns b2 o2 := ho2
      rw [upd_ne _ _ hji] at h1
      show frzSt κ.σ b' w _ b2 o2 = none
      have hne : b2 ≠ b' := fun e => by
        subst e
        exact hji (h.exd j i b2 (Bind.block_of_owns h1) (by rw [hb']; rfl))
      simp only [frzSt, hne, if_false]
      exact h.exσ j b2 o2 h1
  · by_cases hji : j = i
    · subst hji
      have : (upd κ.β j Bind.deadT j).block = some b2 := hj
      rw [upd_same] at this; cases this
    · by_cases hki : k = i
      · subst hki
        have : (upd κ.β k Bind.deadT k).block = some b2 := hk
        rw [upd_same] at this; cases this
      · have h1 : (upd κ.β i Bind.deadT j).block = some b2 := hj
        have h2 : (upd κ.β i Bind.deadT k).block = some b2 := hk
        rw [upd_ne _ _ hji] at h1
        rw [upd_ne _ _ hki] at h2
        exact h.exd j k b2 h1 h2
  · by_cases hji : i = j
    · subst hji
      rw [List.getElem?_set_self hil] at hj
      cases hj; rfl
    · rw [List.getElem?_set_ne hji] at hj
      exact h.fl j x hj
  · by_cases h0 : rows.length = 0
    · have : rows = [] := List.eq_nil_of_length_eq_zero h0
      subst this
      exact .emp sz ⟨b', o, none⟩ cap
    · have ho' := ho (by omega)
      rw [Nat.zero_mul] at ho'
      subst ho'
      have hcell : ∀ (k j : Nat) (r : List D) (x : D), rows[k]? = some r → r[j]? = some x → ∃ u, w.cell? ⟨b', k * sz + j, none⟩ = some u ∧ VR κ u (.d x) ∧ k * sz + j < rows.length * sz := fun k j r x hk hx => by
        have hk' : (rows.map (List.map A.d))[k]? = some (r.map .d) := by simp [hk]
        obtain ⟨h1, h2⟩ := hc k _ hk'
        obtain ⟨u, u1, -, u2⟩ := h2 j (.d x) (by simp [hx])
        refine ⟨u, u1, u2, ?_⟩
        have hj : j < sz := by rw [← h1]; simpa using (List.getElem?_eq_some_iff.1 hx).1
        have hkl : k < rows.length := (List.getElem?_eq_some_iff.1 hk).1
        have : (k + 1) * sz ≤ rows.length * sz := Nat.mul_le_mul_right _ (by omega)
        rw [Nat.add_mul] at this; omega
      refine DR.sl false sz rows b' 0 cap (fun k j => (w.cell? ⟨b', k * sz + j, none⟩).getD (.tuple #[])) (fun h => by cases h) hl (fun k r hk => ?_) (fun k j r x hk hx => ?_) (fun k j r x hk hx => ?_)
      · have hk' : (rows.map (List.map A.d))[k]? = some (r.map .d) := by simp [hk]
        simpa using (hc k _ hk').1
      · obtain ⟨u, u1, -, u3⟩ := hcell k j r x hk hx
        show frzSt κ.σ b' w (rows.length * sz) b' (0 + k * sz + j) = _
        rw [Nat.zero_add]
        simp only [frzSt, if_true, u3, u1, Option.getD_some]
      · obtain ⟨u, u1, u2, -⟩ := hcell k j r x hk hx
        simp only [u1, Option.getD_some]
        exact u2.d_inv.mono hle.σ

/-- a call that yields an array that it made: it may as well be a plain slice -/
theorem ACall.freeze {P : Program} {f : FuncId} {args : List A} {H X : Hp} {k sz : Nat} {rows : List (List D)} (hX : X[k]? = some (.arr sz (rows.map (List.map .d)))) (h : ACall P f args H (fun r H' => r = .msl (H.length + k) 0 rows.length ∧ H' = H ++ X)) :
    ACall P f args H (fun r H' => r = .d (.sl false sz rows) ∧ H' = H) := by
  intro κ w vs hr hl hv
  refine (h κ w vs hr hl hv).mono ?_
  rintro e w' ⟨v, κ', x, H', h1, h2, h3, h4, rfl, rfl⟩
  obtain ⟨κ2, k1, k2, k3⟩ := h3.freezeArr (i := H.length + k) (sz := sz) (rows := rows) (by rw [getElem?_appk]; exact hX) h4
  rw [set_appk] at k2
  exact ⟨v, κ2.cut H.length, .d _, Hp.cut H.length (H ++ X.set k .dead), h1, K.le_cut (h2.trans k1) hr.dom, k2.cut _ (by simp), VR.clr H.length k3, rfl, cut_app hr.closed _⟩

/-- what a function made may stay -/
theorem acall_fink {P : Program} {f : FuncId} {fn : Func} {tok : List Nat} {ifn : IFn} {args : List A} {H : Hp} {K : A → Hp → Prop} (k : Nat) (hf : P.funcs[f]? = some fn) (hc : compF P tok fn = some ifn) (hn : args.length ≤ ifn.nt)
    (h : H.Closed → (∀ a ∈ args, a.flat0 = true → a.lo H.length = true) → AWp P H.length ifn.body (Fin ifn.res (H.length + k) K) (Fr.init args) H) : ACall P f args H K :=
  acall_of hf hc hn fun h1 h2 => AWp.mono _ (fun e fr H' h => by
    have hx : RetK K .mk (H.length + k) (resA fr H' ifn.res) H' := by cases e <;> first | exact h | exact h.elim
    unfold RetK at hx
    split at hx
    · rename_i x e1
      cases e with
      | exit => exact h.elim
      | normal => exact ⟨x, H.length + k, e1, by omega, hx.1, hx.2⟩
      | ret => exact ⟨x, H.length + k, e1, by omega, hx.1, hx.2⟩
    · exact hx.elim) _ _ (h h1 h2)

end Go.Zam
