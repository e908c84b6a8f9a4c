/-
  An abstract machine over the model, eighteenth part: from a call of the machine to what a law's row asks. No program in sight. No condition.
-/
import Derived.Test.YtjpdjaglggcbkaaZam17
import Derived.ChangeSame
import Derived.Carry
import Derived.OpenShut
namespace Go.Zam
open Go.RowKit Go.ChangeShapes Go.WideShapes

section
variable {X : Type} {enc : TypeId × Value → X} {P : Program} {W W' : World}

theorem stays {sp : Nat → Bool} (hl : laidOutB P = true) (hb : Below W.heap.size W W') : ∀ {ts : List TypeId} {vs : List Value} {ds : List (DataW X)} {ps : List MemPlace},
    (∀ t ∈ ts, P.readableRec t = true ∧ t < P.types.size) → DataW.TrodAll enc P W 0 (fun _ => true) true ts vs ds ps → (∀ x ∈ ps, x.block < W.heap.size) → (∀ x ∈ ps, sp x.block = true) →
      DataW.TrodAll enc P W' 0 sp true ts vs ds ps
  | [], [], [], _, _, h, _, _ => h
  | _ :: _, _ :: _, _ :: _, _, ht, ⟨p, q, h1, h2, e⟩, hlt, hs =>
    ⟨p, q, WideElems.Trod_stays hl (ht _ (by simp)).1 (ht _ (by simp)).2 h1 (fun x hx => hb.same (hlt x (by rw [e]; exact List.mem_append_left _ hx))) (fun x hx => hs x (by rw [e]; exact List.mem_append_left _ hx)),
      stays hl hb (fun t h => ht t (by simp [h])) h2 (fun x hx => hlt x (by rw [e]; exact List.mem_append_right _ hx)) (fun x hx => hs x (by rw [e]; exact List.mem_append_right _ hx)), e⟩

/-- A LAW's ROW: it returned true, and below the heap's old end nothing has turned -/
theorem post_law {f : Func} {s : ChangeSpec} {apart fresh handsOn again : Bool} {args : Array Value} {ds gs : List (DataW X)} {before : List MemPlace} {bt : TypeId} (hl : laidOutB P = true)
    (hW : DataW.Whole enc P f.params.toList s.vars apart W args.toList ds gs before) (hv : s.vars = []) (hr : f.resultTypes = #[bt]) (hbt : P.underlying bt = some .bool)
    (hp : ∀ t ∈ f.params.toList, P.readableRec t = true ∧ t < P.types.size) (h1 : (s.fn X ds).results = [.lit (.bool true)]) (h2 : (s.fn X ds).args = ds) (h3 : (s.fn X ds).vars = []) (hb : Below W.heap.size W W') :
    s.post enc P f apart fresh handsOn again W args (.bool true) W' := by
  have hW0 := hW
  obtain ⟨p, q, hA, hV, rfl, hz, hn⟩ := hW
  rw [hv] at hV
  obtain ⟨rfl, rfl⟩ : gs = [] ∧ q = [] := by
    cases gs with
    | nil => exact ⟨rfl, hV⟩
    | cons g gs => exact hV.elim
  have hlt : ∀ x ∈ p, x.block < W.heap.size := fun x hx => hW0.lt x (by simpa using hx)
  have hargs : ∀ sp : Nat → Bool, (∀ x ∈ p, sp x.block = true) → DataW.TrodAll enc P W' 0 sp true f.params.toList args.toList (s.fn X (ds ++ [])).args p := fun sp hs => by
    rw [List.append_nil, h2]; exact stays hl hb hp hA hlt hs
  have hres : ∀ (b : Nat) (sp : Nat → Bool) (hd : Bool), DataW.TrodAll enc P W' b sp hd f.resultTypes.toList ((Value.bool true).resultList f.resultTypes.size) (s.fn X (ds ++ [])).results [] := fun b sp hd => by
    rw [List.append_nil, h1, hr]
    exact trodAll_cons_mk (shut_bool hbt true) trodAll_mk0
  have hvars : ∀ sp : Nat → Bool, DataW.TrodVars enc P W' sp s.vars (s.fn X (ds ++ [])).vars [] := fun sp => by
    rw [List.append_nil, h3, hv]; rfl
  refine ⟨ds, [], p ++ [], [], p, [], hW0, hres _ _ _, hargs _ (fun x hx => by simpa using hlt x hx), hvars _, World.keptBut_mono (fun x hx => ⟨hx, .inr (List.mem_append.1 hx)⟩) (hb.frame (· ∈ p ++ [])), fun _ => ?_⟩
  refine ⟨ok_one (t := bt) hr rfl (okWide_bool_mk hbt true), _, _, ([] ++ p) ++ [], ⟨[] ++ p, [], trodAll_append (hargs _ (fun _ _ => rfl)) (hres _ _ _), hvars _, rfl, ?_, ?_⟩, ?_⟩
  · intro b off hx
    have : MemPlace.cell b off ∈ p := by simpa using hx
    rw [hb.frozen (hlt _ this)]
    exact hz b off (by simpa using this)
  · intro ha
    have := hn ha
    simpa using this
  · intro x hx _
    simpa using hx

/-- an argument of the machine for a parameter -/
def ArgOf (P : Program) (t : TypeId) (ds : List D) (a : A) : Prop :=
  match P.underlying t with
  | some (.struct _) => a = .agg (ds.map .d)
  | _ => ∃ x, ds = [x] ∧ a = .d x

def kst (W : World) : K := ⟨W, wst W, fun _ => .none⟩

theorem arg_read {ts : List TypeId} (hp : plainT P ts = true) {f : DataW X → Nat} {fs : List (DataW X) → Nat} (B : IsBulk f fs) {t : TypeId} (ht : t ∈ ts) {b0 base : Nat} {sp : Nat → Bool} {held : Bool} {v : Value} {d : DataW X} {p : List MemPlace}
    (hv : Value.okWide P W .any b0 t v) (h : DataW.Trod enc P W base sp held t v d p) : ∃ n ds a, Typed P n t ds ∧ D.bulkC ds ≤ f d ∧ ArgOf P t ds a ∧ VR (kst W) v a := by
  obtain ⟨n, h⟩ := h
  obtain ⟨ds, h1, h2, h3, h4⟩ := trod_read hp B n t _ _ h ht
  have hpt := List.all_eq_true.1 hp t ht
  have one : v.cells = #[v] → (∀ fs, P.underlying t ≠ some (.struct fs)) → ∃ n ds a, Typed P n t ds ∧ D.bulkC ds ≤ f d ∧ ArgOf P t ds a ∧ VR (kst W) v a := fun hc hs => by
    rw [hc] at h1 h4
    match ds, h1 with
    | [x], _ =>
      refine ⟨n, [x], .d x, h2, h3, ?_, .d (h4 0 v x rfl rfl)⟩
      unfold ArgOf
      split
      · rename_i fs e; exact absurd e (hs fs)
      · exact ⟨x, rfl, rfl⟩
  split at hpt
  · rename_i hu
    simp only [Value.okWide, hu, Cell.okWide, Cell.ok] at hv
    refine one ?_ (by simp [hu])
    cases v <;> first | rfl | exact hv.elim
  · rename_i k hu
    simp only [Value.okWide, hu, Cell.okWide, Cell.ok] at hv
    refine one ?_ (by simp [hu])
    cases v <;> first | rfl | exact hv.elim
  · rename_i hu
    simp only [Value.okWide, hu, Cell.okWide, Cell.ok] at hv
    refine one ?_ (by simp [hu])
    cases v <;> first | rfl | exact hv.elim
  · rename_i e hu
    simp only [Value.okWide, hu, Cell.okWide, Cell.ok] at hv
    refine one ?_ (by simp [hu])
    cases v <;> first | rfl | exact hv.elim
  · rename_i gs hu
    simp only [Value.okWide, hu] at hv
    obtain ⟨cs, rfl, -, -⟩ := hv
    refine ⟨n, ds, .agg (ds.map .d), h2, h3, by simp [ArgOf, hu], ?_⟩
    have h1' : ds.length = cs.toList.length := h1
    have := VR.agg (κ := kst W) cs.toList (ds.map A.d) (by simp [h1']) (fun i v a hi ha => by
      simp only [List.getElem?_map, Option.map_eq_some_iff] at ha
      obtain ⟨x, hx, rfl⟩ := ha
      exact .d (h4 i v x hi hx))
    simpa using this
  · cases hpt

/-- the arguments of the machine for parameters, and how much they hold -/
def ArgsOf (P : Program) : List TypeId → List A → Nat → Prop
  | [], as, _ => as = []
  | t :: ts, as, b => ∃ n ds a r b', as = a :: r ∧ Typed P n t ds ∧ ArgOf P t ds a ∧ ArgsOf P ts r b' ∧ D.bulkC ds + b' ≤ b

theorem args_read {ts : List TypeId} (hp : plainT P ts = true) {f : DataW X → Nat} {fs : List (DataW X) → Nat} (B : IsBulk f fs) {b0 base : Nat} {sp : Nat → Bool} {held : Bool} : ∀ {us : List TypeId} {vs : List Value} {ds : List (DataW X)} {ps : List MemPlace},
    (∀ t ∈ us, t ∈ ts) → (∀ (j : Nat) (t : TypeId) (v : Value), us[j]? = some t → vs[j]? = some v → Value.okWide P W .any b0 t v) → DataW.TrodAll enc P W base sp held us vs ds ps →
      ∃ as, ArgsOf P us as (fs ds) ∧ vs.length = as.length ∧ ∀ (i : Nat) (v : Value) (a : A), vs[i]? = some v → as[i]? = some a → VR (kst W) v a
  | [], [], [], _, _, _, _ => ⟨[], rfl, rfl, by simp⟩
  | t :: us, v :: vs, d :: ds, _, hu, hv, ⟨p, q, h1, h2, _⟩ => by
    obtain ⟨n, cs, a, a1, a2, a3, a4⟩ := arg_read hp B (hu t (by simp)) (hv 0 t v rfl rfl) h1
    obtain ⟨as, b1, b2, b3⟩ := args_read hp B (fun t ht => hu t (by simp [ht])) (fun j t v ht hv' => hv (j + 1) t v (by simpa using ht) (by simpa using hv')) h2
    refine ⟨a :: as, ⟨n, cs, a, as, fs ds, rfl, a1, a3, b1, ?_⟩, by simp [b2], fun i u x hx hy => ?_⟩
    · have := B.cons d ds; omega
    · cases i with
      | zero => simp at hx hy; subst hx; subst hy; exact a4
      | succ i => exact b3 i u x (by simpa using hx) (by simpa using hy)

theorem kst_hr (W : World) : HR (kst W) [] W :=
  ⟨Below.refl _ _, fun _ _ _ h => h, by simp, fun _ _ => rfl, by simp [kst, Bind.block], by simp [kst, Bind.owns], by simp [kst, Bind.block], by simp⟩

/-- A LAW, FROM ITS CALL ON THE MACHINE -/
theorem law_of {f : FuncId} {fn : Func} {s : ChangeSpec} {apart fresh handsOn again : Bool} {args : Array Value} {ds gs : List (DataW X)} {before : List MemPlace} {bt : TypeId} {base : Nat} {ts : List TypeId} (hl : laidOutB P = true) (hpl : plainT P ts = true)
    {g : DataW X → Nat} {gl : List (DataW X) → Nat} (B : IsBulk g gl)
    (hval : ∀ (j : Nat) (t : TypeId) (v : Value), fn.params[j]? = some t → args[j]? = some v → Value.okWide P W .any base t v)
    (hW : DataW.Whole enc P fn.params.toList s.vars apart W args.toList ds gs before) (hv : s.vars = []) (hr : fn.resultTypes = #[bt]) (hbt : P.underlying bt = some .bool)
    (hp : ∀ t ∈ fn.params.toList, t ∈ ts ∧ P.readableRec t = true ∧ t < P.types.size) (h1 : (s.fn X ds).results = [.lit (.bool true)]) (h2 : (s.fn X ds).args = ds) (h3 : (s.fn X ds).vars = [])
    (h : ∀ as, ArgsOf P fn.params.toList as (gl ds) → ACall P f as [] (fun r _ => r = .d (.bool true))) :
    Calls P f args W fun e W' => ∃ v, e = .returned v ∧ s.post enc P fn apart fresh handsOn again W args v W' := by
  have hW0 := hW
  obtain ⟨p, q, hA, -⟩ := hW
  obtain ⟨as, a1, a2, a3⟩ := args_read hpl B (fun t ht => (hp t ht).1) (fun j t v ht hv' => hval j t v (by simpa using ht) (by simpa using hv')) hA
  refine (h as a1 (kst W) W args.toList (kst_hr W) a2 a3).mono fun e W' ⟨v, κ', x, H', he, hk, hh, hvr, hx⟩ => ?_
  subst hx
  have hvt : v = .bool true := by
    cases hvr with | d h => cases h; rfl
  subst hvt
  refine ⟨_, he, post_law hl hW0 hv hr hbt (fun t ht => (hp t ht).2) h1 h2 h3 ?_⟩
  have := hh.below
  rw [hk.w0] at this
  exact this

end
end Go.Zam
