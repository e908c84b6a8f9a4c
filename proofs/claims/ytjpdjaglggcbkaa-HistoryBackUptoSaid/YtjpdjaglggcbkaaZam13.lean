/-
  An abstract machine over the model, thirteenth part: a region whose order is open comes to what it comes to in the order of the text. No program in sight. No condition.
-/
import Derived.Test.YtjpdjaglggcbkaaZam12
namespace Go.Zam
open Go.RowKit (Below)

/-- one operation, as it stands in the text's order: what it yields, and memory behind it -/
def StepD (P : Program) (fr : Fr) (H : Hp) (i : I) (v : A) (H' : Hp) : Prop :=
  (EntersR P fr i (fun f as => ACall P f as H (fun v' H'' => v' = v ∧ H'' = H)) ∧ H' = H) ∨ (i.cls ≠ 3 ∧ stepI fr H i = some (v, H'))

def StepG (P : Program) (fr : Fr) (H : Hp) (o : IOp) (v : A) (H' : Hp) : Prop :=
  match o.g with
  | none => StepD P fr H o.i v H'
  | some (s, b) => (fr s = .d (.bool b) ∧ StepD P fr H o.i v H') ∨ ((fr s = .d (.bool (!b)) ∨ fr s = .tup []) ∧ v = .tup [] ∧ H' = H)

theorem runD_step {P : Program} {fr : Fr} {H : Hp} {i : I} {K : A → Hp → Prop} (h : runD P fr H i K) : ∃ v H', StepD P fr H i v H' ∧ K v H' := by
  cases i with
  | call f l => obtain ⟨v, h1, h2⟩ := h; exact ⟨v, H, .inl ⟨h1, rfl⟩, h2⟩
  | callv f l =>
    simp only [runD] at h
    split at h
    · rename_i g e
      obtain ⟨h0, v, h1, h2⟩ := h
      exact ⟨v, H, .inl ⟨by simp only [EntersR, e]; exact ⟨h0, h1⟩, rfl⟩, h2⟩
    · rename_i g first cap e
      obtain ⟨h0, v, h1, h2⟩ := h
      exact ⟨v, H, .inl ⟨by simp only [EntersR, e]; exact ⟨h0, h1⟩, rfl⟩, h2⟩
    · exact h.elim
  | _ =>
    simp only [runD] at h
    split at h
    · rename_i v H' e; exact ⟨v, H', .inr ⟨by simp [I.cls], e⟩, h⟩
    · exact h.elim

/-- the run in the text's order -/
theorem draw_run {P : Program} {K : Fr → Hp → Prop} : ∀ (l : List IOp) (fr : Fr) (H : Hp), ADraw P l K fr H →
    ∃ (frs : Nat → Fr) (Hs : Nat → Hp) (vs : Nat → A), frs 0 = fr ∧ Hs 0 = H ∧ (∀ (k : Nat) (o : IOp), l[k]? = some o → StepG P (frs k) (Hs k) o (vs k) (Hs (k + 1)) ∧ frs (k + 1) = (frs k).put o.dst (vs k)) ∧ K (frs l.length) (Hs l.length)
  | [], fr, H, h => ⟨fun _ => fr, fun _ => H, fun _ => .undef, rfl, rfl, by simp, h⟩
  | o :: r, fr, H, h => by
    have key : ∃ v H', StepG P fr H o v H' ∧ ADraw P r K (fr.put o.dst v) H' := by
      simp only [ADraw] at h
      unfold StepG
      cases hg : o.g with
      | none =>
        rw [hg] at h
        exact runD_step h
      | some sb =>
        obtain ⟨s, b⟩ := sb
        rw [hg] at h
        simp only at h ⊢
        unfold AGd at h
        split at h
        · rename_i c e
          split at h
          · rename_i hc
            subst hc
            obtain ⟨v, H', h1, h2⟩ := runD_step h
            exact ⟨v, H', .inl ⟨e, h1⟩, h2⟩
          · rename_i hc
            refine ⟨.tup [], H, .inr ⟨.inl ?_, rfl, rfl⟩, h⟩
            rw [e]; cases b <;> cases c <;> simp_all
        · rename_i e; exact ⟨.tup [], H, .inr ⟨.inr e, rfl, rfl⟩, h⟩
        · exact h.elim
    obtain ⟨v, H', h1, h2⟩ := key
    obtain ⟨frs, Hs, vs, r1, r2, r3, r4⟩ := draw_run r _ _ h2
    refine ⟨fun k => match k with | 0 => fr | k + 1 => frs k, fun k => match k with | 0 => H | k + 1 => Hs k, fun k => match k with | 0 => v | k + 1 => vs k, rfl, rfl, fun k q hq => ?_, r4⟩
    cases k with
    | zero => simp at hq; subst hq; simp only [r1, r2]; exact ⟨h1, trivial⟩
    | succ k => exact r3 k q (by simpa using hq)

/-! a step hangs on its slots alone, and on memory as its class says -/

theorem ev_congr {fr fr' : Fr} {x : Arg} (h : ∀ s ∈ x.slots, fr' s = fr s) : x.ev fr' = x.ev fr := by
  cases x with
  | t s => exact h s (by simp [Arg.slots])
  | c d => rfl

theorem map_ev_congr {fr fr' : Fr} {l : List Arg} (h : ∀ s ∈ l.flatMap Arg.slots, fr' s = fr s) : l.map (Arg.ev fr') = l.map (Arg.ev fr) :=
  List.map_congr_left fun x hx => ev_congr fun s hs => h s (List.mem_flatMap.2 ⟨x, hx, hs⟩)

theorem bound_congr {fr fr' : Fr} {d : Nat} {x : Option Arg} (h : ∀ s ∈ optSlots x, fr' s = fr s) : boundOf fr' d x = boundOf fr d x := by
  cases x with
  | none => rfl
  | some x => simp only [boundOf]; rw [ev_congr (fr := fr) (fr' := fr') (x := x) h]

theorem stepI_congr {fr fr' : Fr} {H : Hp} {i : I} (h : ∀ s ∈ i.slots, fr' s = fr s) : stepI fr' H i = stepI fr H i := by
  cases i with
  | nilT => rfl
  | alloc => rfl
  | allocT => rfl
  | mkMap => rfl
  | call => rfl
  | callv => rfl
  | build z ps =>
    simp only [stepI]
    congr 2
    refine List.map_congr_left fun x hx => ?_
    rw [ev_congr (fr := fr) (fr' := fr') (x := x.2.2) fun s hs => h s (List.mem_flatMap.2 ⟨x, hx, hs⟩)]
  | bslice sz ps =>
    simp only [stepI]
    congr 1
    have : ∀ l : List Arg, (∀ s ∈ l.flatMap Arg.slots, fr' s = fr s) → l.mapM (fun x => rowOf sz (x.ev fr')) = l.mapM (fun x => rowOf sz (x.ev fr)) := by
      intro l
      induction l with
      | nil => intro _; rfl
      | cons x l ih =>
        intro hl
        simp only [List.mapM_cons]
        rw [ev_congr (fr := fr) (fr' := fr') (x := x) fun s hs => hl s (by simp [hs]), ih fun s hs => hl s (by simp only [List.flatMap_cons, List.mem_append]; exact .inr hs)]
    exact this ps h
  | bsliceT sz e ps =>
    simp only [stepI]
    congr 1
    have : ∀ l : List Arg, (∀ s ∈ l.flatMap Arg.slots, fr' s = fr s) → l.mapM (fun x => rowOf sz (x.ev fr')) = l.mapM (fun x => rowOf sz (x.ev fr)) := by
      intro l
      induction l with
      | nil => intro _; rfl
      | cons x l ih =>
        intro hl
        simp only [List.mapM_cons]
        rw [ev_congr (fr := fr) (fr' := fr') (x := x) fun s hs => hl s (by simp [hs]), ih fun s hs => hl s (by simp only [List.flatMap_cons, List.mem_append]; exact .inr hs)]
    exact this ps h
  | bsliceM sz ps =>
    simp only [stepI]
    congr 1
    have : ∀ l : List Arg, (∀ s ∈ l.flatMap Arg.slots, fr' s = fr s) → l.mapM (fun x => rowOf sz (x.ev fr')) = l.mapM (fun x => rowOf sz (x.ev fr)) := by
      intro l
      induction l with
      | nil => intro _; rfl
      | cons x l ih =>
        intro hl
        simp only [List.mapM_cons]
        rw [ev_congr (fr := fr) (fr' := fr') (x := x) fun s hs => hl s (by simp [hs]), ih fun s hs => hl s (by simp only [List.flatMap_cons, List.mem_append]; exact .inr hs)]
    exact this ps h
  | mkSl sz by' z x y =>
    simp only [I.slots, List.mem_append] at h
    simp only [stepI]; rw [ev_congr (x := x) fun s hs => h s (.inl hs), ev_congr (x := y) fun s hs => h s (.inr hs)]
  | box ty n x =>
    have h : ∀ s ∈ x.slots, fr' s = fr s := h
    simp only [stepI]; rw [ev_congr h]
  | mkfn f a b =>
    simp only [stepI]
    rw [map_ev_congr (l := a) fun s hs => h s (by simp only [I.slots, List.mem_append]; exact .inl hs), map_ev_congr (l := b) fun s hs => h s (by simp only [I.slots, List.mem_append]; exact .inr hs)]
  | pick c x y =>
    simp only [I.slots, List.mem_append] at h
    simp only [stepI]
    rw [ev_congr (x := c) fun s hs => h s (.inl (.inl hs)), ev_congr (x := x) fun s hs => h s (.inl (.inr hs)), ev_congr (x := y) fun s hs => h s (.inr hs)]
  | sslice x lo hi =>
    simp only [I.slots, List.mem_append] at h
    simp only [stepI]
    rw [ev_congr (x := x) fun s hs => h s (.inl (.inl hs))]
    split
    · rw [bound_congr (x := lo) fun s hs => h s (.inl (.inr hs)), bound_congr (x := hi) fun s hs => h s (.inr hs)]
    · rfl
  | slice sz x lo hi mx =>
    simp only [I.slots, List.mem_append] at h
    simp only [stepI]
    rw [ev_congr (x := x) fun s hs => h s (.inl (.inl (.inl hs)))]
    split
    · rw [bound_congr (x := lo) fun s hs => h s (.inl (.inl (.inr hs))), bound_congr (x := hi) fun s hs => h s (.inl (.inr hs))]
      cases mx with
      | none => cases boundOf fr 0 lo <;> cases boundOf fr _ hi <;> rfl
      | some m =>
        have := bound_congr (d := 0) (x := some m) fun s hs => h s (.inr hs)
        cases boundOf fr 0 lo <;> cases boundOf fr _ hi <;> simp only [this]
    · rfl
  | store n x y =>
    simp only [I.slots, List.mem_append] at h
    simp only [stepI]; rw [ev_congr (x := x) fun s hs => h s (.inl hs), ev_congr (x := y) fun s hs => h s (.inr hs)]
  | bin op x y =>
    simp only [I.slots, List.mem_append] at h
    simp only [stepI]; rw [ev_congr (x := x) fun s hs => h s (.inl hs), ev_congr (x := y) fun s hs => h s (.inr hs)]
  | appV sz by' e x y =>
    simp only [I.slots, List.mem_append] at h
    simp only [stepI]; rw [ev_congr (x := x) fun s hs => h s (.inl hs), ev_congr (x := y) fun s hs => h s (.inr hs)]
  | iaddrV sz x y =>
    simp only [I.slots, List.mem_append] at h
    simp only [stepI]; rw [ev_congr (x := x) fun s hs => h s (.inl hs), ev_congr (x := y) fun s hs => h s (.inr hs)]
  | loadV n g x => simp only [stepI]; rw [ev_congr (x := x) h]
  | cutV sz x y =>
    simp only [I.slots, List.mem_append] at h
    simp only [stepI]; rw [ev_congr (x := x) fun s hs => h s (.inl hs), ev_congr (x := y) fun s hs => h s (.inr hs)]
  | lkp ok key ag z x y =>
    simp only [I.slots, List.mem_append] at h
    simp only [stepI]; rw [ev_congr (x := x) fun s hs => h s (.inl hs), ev_congr (x := y) fun s hs => h s (.inr hs)]
  | mpUpd key x k v =>
    simp only [I.slots, List.mem_append] at h
    simp only [stepI]; rw [ev_congr (x := x) fun s hs => h s (.inl (.inl hs)), ev_congr (x := k) fun s hs => h s (.inl (.inr hs)), ev_congr (x := v) fun s hs => h s (.inr hs)]
  | eqA op l x y =>
    simp only [I.slots, List.mem_append] at h
    simp only [stepI]; rw [ev_congr (x := x) fun s hs => h s (.inl hs), ev_congr (x := y) fun s hs => h s (.inr hs)]
  | beq op x y =>
    simp only [I.slots, List.mem_append] at h
    simp only [stepI]; rw [ev_congr (x := x) fun s hs => h s (.inl hs), ev_congr (x := y) fun s hs => h s (.inr hs)]
  | iaddr n x y =>
    simp only [I.slots, List.mem_append] at h
    simp only [stepI]; rw [ev_congr (x := x) fun s hs => h s (.inl hs), ev_congr (x := y) fun s hs => h s (.inr hs)]
  | sidx x y =>
    simp only [I.slots, List.mem_append] at h
    simp only [stepI]; rw [ev_congr (x := x) fun s hs => h s (.inl hs), ev_congr (x := y) fun s hs => h s (.inr hs)]
  | mm b x y =>
    simp only [I.slots, List.mem_append] at h
    simp only [stepI]; rw [ev_congr (x := x) fun s hs => h s (.inl hs), ev_congr (x := y) fun s hs => h s (.inr hs)]
  | app n m e x y =>
    simp only [I.slots, List.mem_append] at h
    simp only [stepI]; rw [ev_congr (x := x) fun s hs => h s (.inl hs), ev_congr (x := y) fun s hs => h s (.inr hs)]
  | appS e x y =>
    simp only [I.slots, List.mem_append] at h
    simp only [stepI]; rw [ev_congr (x := x) fun s hs => h s (.inl hs), ev_congr (x := y) fun s hs => h s (.inr hs)]
  | mv x => simp only [stepI]; rw [ev_congr (x := x) h]
  | load n g x => simp only [stepI]; rw [ev_congr (x := x) h]
  | nilCheck x => simp only [stepI]; rw [ev_congr (x := x) h]
  | isNilS n x => simp only [stepI]; rw [ev_congr (x := x) h]
  | isNilP n x => simp only [stepI]; rw [ev_congr (x := x) h]
  | un op x => simp only [stepI]; rw [ev_congr (x := x) h]
  | cvt k x => simp only [stepI]; rw [ev_congr (x := x) h]
  | cvtS x => simp only [stepI]; rw [ev_congr (x := x) h]
  | faddr n x => simp only [stepI]; rw [ev_congr (x := x) h]
  | fld o n g x => simp only [stepI]; rw [ev_congr (x := x) h]
  | ext x n => simp only [stepI]; rw [ev_congr (x := x) h]
  | lenS x => simp only [stepI]; rw [ev_congr (x := x) h]
  | lenL x => simp only [stepI]; rw [ev_congr (x := x) h]

theorem enters_congr {P : Program} {fr fr' : Fr} {i : I} {R : FuncId → List A → Prop} (h : ∀ s ∈ i.slots, fr' s = fr s) : EntersR P fr' i R ↔ EntersR P fr i R := by
  cases i with
  | call f l => simp only [EntersR]; rw [map_ev_congr h]
  | callv f l =>
    simp only [I.slots, List.mem_append] at h
    simp only [EntersR]
    rw [ev_congr (x := f) fun s hs => h s (.inl hs), map_ev_congr (l := l) fun s hs => h s (.inr hs)]
  | _ => exact Iff.rfl

/-- what looks at slots alone leaves memory as it is, whatever it is -/
theorem stepI_pure {fr : Fr} {H : Hp} {i : I} (hc : i.cls = 0) : stepI fr H i = (stepI fr [] i).map fun p => (p.1, H) := by
  cases i <;> first | (simp only [I.cls] at hc; exact absurd hc (by decide)) | skip
  all_goals
    simp only [stepI]
    (repeat' split) <;> simp_all [Option.map_map, Function.comp_def]

theorem stepI_cls0 {fr : Fr} {H H' : Hp} {i : I} {v : A} (hc : i.cls = 0) (h : stepI fr H i = some (v, H')) : H' = H ∧ ∀ H2, stepI fr H2 i = some (v, H2) := by
  rw [stepI_pure hc] at h
  simp only [Option.map_eq_some_iff, Prod.mk.injEq] at h
  obtain ⟨p, hp, rfl, rfl⟩ := h
  exact ⟨rfl, fun H2 => by rw [stepI_pure hc, hp]; rfl⟩

def Ob.fix (v : Bool) : Ob → Bool
  | .tok .. => false
  | .vec .. => v
  | _ => true

/-- two memories that read alike below a bound -/
def Alike (v : Bool) (n : Nat) (H H2 : Hp) : Prop := ∀ j, j < n → ∀ o : Ob, o.fix v = true → (H[j]? = some o ↔ H2[j]? = some o)

def A.at? : A → Option Nat
  | .ptr i _ | .aptr i _ _ | .msl i _ _ | .vsl i _ _ | .vptr i _ _ _ | .map i => some i
  | _ => none

theorem ldA_alike {vv : Bool} {H H2 : Hp} {n m : Nat} {p : A} {cs : List A} (h : ldA H n p = some cs) (hp : ∀ j, p.at? = some j → j < m) (ha : Alike vv m H H2) : ldA H2 n p = some cs := by
  unfold ldA at h
  split at h
  · rename_i i off
    split at h
    · rename_i c e
      simp only [ldA, (ha i (hp i rfl) _ rfl).1 e]; exact h
    · cases h
  · rename_i i k off
    split at h
    · rename_i sz rows e
      simp only [ldA, (ha i (hp i rfl) _ rfl).1 e]; exact h
    · cases h
  · exact h
  · cases h

theorem iaddrA_alike {vv : Bool} {H H2 : Hp} {sz m : Nat} {p q u : A} (h : iaddrA H sz p q = some u) (hp : ∀ j, p.at? = some j → j < m) (ha : Alike vv m H H2) : iaddrA H2 sz p q = some u := by
  unfold iaddrA at h
  split at h
  · exact h
  · exact h
  · rename_i i off len k n
    split at h
    · rename_i s rows e
      simp only [iaddrA, (ha i (hp i rfl) _ rfl).1 e]; exact h
    · cases h
  · cases h

/-- what looks at memory leaves it as it is, and yields the same where memory reads alike -/
theorem stepI_cls1 {fr : Fr} {H H' : Hp} {i : I} {v : A} (hc : i.cls = 1) {vv : Bool} (hvv : i.vread = true → vv = true) (h : stepI fr H i = some (v, H')) :
    H' = H ∧ ∀ (H2 : Hp) (m : Nat), (∀ s ∈ i.slots, ∀ j, (fr s).at? = some j → j < m) → Alike vv m H H2 → stepI fr H2 i = some (v, H2) := by
  have evat : ∀ (x : Arg) (m : Nat), (∀ s ∈ x.slots, ∀ j, (fr s).at? = some j → j < m) → ∀ j, (x.ev fr).at? = some j → j < m := by
    intro x m hx j hj
    cases x with
    | t s => exact hx s (by simp [Arg.slots]) j hj
    | c d => cases d <;> cases hj
  cases i <;> first | (simp only [I.cls] at hc; exact absurd hc (by decide)) | skip
  case load n g x =>
    simp only [stepI, Option.map_eq_some_iff, Prod.mk.injEq] at h
    obtain ⟨cs, h1, h2, h3⟩ := h
    refine ⟨h3.symm, fun H2 m hs ha => ?_⟩
    simp only [stepI, ldA_alike h1 (evat x m hs) ha, Option.map_some, Option.some.injEq, Prod.mk.injEq]
    exact ⟨h2, trivial⟩
  case iaddr n x y =>
    simp only [stepI, Option.map_eq_some_iff, Prod.mk.injEq] at h
    obtain ⟨u, h1, h2, h3⟩ := h
    refine ⟨h3.symm, fun H2 m hs ha => ?_⟩
    have := iaddrA_alike h1 (evat x m fun s hx => hs s (by simp only [I.slots, List.mem_append]; exact .inl hx)) ha
    simp only [stepI, this, Option.map_some, Option.some.injEq, Prod.mk.injEq]
    exact ⟨h2, trivial⟩
  case iaddrV n x y =>
    obtain rfl : vv = true := hvv rfl
    simp only [stepI, Option.map_eq_some_iff, Prod.mk.injEq] at h
    obtain ⟨u, h1, h2, h3⟩ := h
    refine ⟨h3.symm, fun H2 m hs ha => ?_⟩
    have hat := evat x m fun s hx => hs s (by simp only [I.slots, List.mem_append]; exact .inl hx)
    have : iaddrV H2 n (x.ev fr) (y.ev fr) = some u := by
      generalize x.ev fr = p at h1 hat ⊢
      generalize y.ev fr = q at h1 ⊢
      unfold iaddrV at h1
      split at h1
      · split at h1
        · rename_i e
          simp only [iaddrV, (ha _ (hat _ rfl) _ rfl).1 e]; exact h1
        · cases h1
      · cases h1
    simp only [stepI, this, Option.map_some, Option.some.injEq, Prod.mk.injEq]
    exact ⟨h2, trivial⟩
  case loadV n g x =>
    obtain rfl : vv = true := hvv rfl
    simp only [stepI, Option.map_eq_some_iff, Prod.mk.injEq] at h
    obtain ⟨cs, h1, h2, h3⟩ := h
    refine ⟨h3.symm, fun H2 m hs ha => ?_⟩
    have hat := evat x m hs
    have : ldV H2 n (x.ev fr) = some cs := by
      generalize x.ev fr = p at h1 hat ⊢
      unfold ldV at h1
      split at h1
      · split at h1
        · rename_i e
          simp only [ldV, (ha _ (hat _ rfl) _ rfl).1 e]; exact h1
        · cases h1
      · cases h1
    simp only [stepI, this, Option.map_some, Option.some.injEq, Prod.mk.injEq]
    exact ⟨h2, trivial⟩
  case lkp ok key ag z x y =>
    have hat := fun m (hs : ∀ s ∈ (I.lkp ok key ag z x y).slots, ∀ j, (fr s).at? = some j → j < m) => evat x m fun s hx => hs s (by simp only [I.slots, List.mem_append]; exact .inl hx)
    simp only [stepI] at h
    split at h
    · rename_i kd i e1 e2
      split at h
      · rename_i l hH
        split at h
        · rename_i hok
          split at h <;> (cases h; refine ⟨rfl, fun H2 m hs ha => ?_⟩; have := (ha i (hat m hs i (by rw [e2]; rfl)) _ rfl).1 hH; simp only [stepI, e1, e2, this, hok, if_true]; simp only [*])
        · cases h
      · cases h
    · rename_i kd e1 e2
      split at h
      · rename_i hok
        cases h
        exact ⟨rfl, fun H2 m hs ha => by simp only [stepI, e1, e2, hok, if_true]⟩
      · cases h
    · cases h

theorem Alike.refl (v : Bool) (n : Nat) (H : Hp) : Alike v n H H := fun _ _ _ _ => Iff.rfl
theorem Alike.symm {v : Bool} {n : Nat} {H H2 : Hp} (h : Alike v n H H2) : Alike v n H2 H := fun j hj o ho => (h j hj o ho).symm
theorem Alike.trans {v : Bool} {n : Nat} {H H2 H3 : Hp} (h : Alike v n H H2) (k : Alike v n H2 H3) : Alike v n H H3 := fun j hj o ho => (h j hj o ho).trans (k j hj o ho)
theorem Alike.mono {v : Bool} {n m : Nat} {H H2 : Hp} (h : Alike v n H H2) (hm : m ≤ n) : Alike v m H H2 := fun j hj => h j (by omega)

theorem push_alike {vv : Bool} (H : Hp) (y : Ob) : H.length ≤ (H ++ [y]).length ∧ Alike vv H.length H (H ++ [y]) :=
  ⟨by simp, fun j hj _ _ => by rw [List.getElem?_append_left hj]⟩

theorem appA_alike {vv : Bool} {H H' : Hp} {sz by' : Nat} {e : TypeId} {new : List (List D)} {p v : A} (h : appA H sz by' e new p = some (v, H')) : H.length ≤ H'.length ∧ Alike vv H.length H H' := by
  unfold appA at h
  split at h
  · rename_i z s rows t
    split at h
    · rename_i n s' e' hH
      split at h
      · cases h
        refine ⟨by simp, fun j hj o ho => ?_⟩
        by_cases hjt : t = j
        · subst hjt
          rw [hH, List.getElem?_set_self hj]
          exact ⟨fun h => (by cases h; cases ho), fun h => (by cases h; cases ho)⟩
        · rw [List.getElem?_set_ne hjt]
      · cases h
    · cases h
  · split at h
    · cases h; exact ⟨Nat.le_refl _, .refl _ _ _⟩
    · cases h
  · split at h
    · split at h
      · split at h
        · cases h; exact ⟨Nat.le_refl _, .refl _ _ _⟩
        · cases h; exact push_alike _ _
      · cases h
    · cases h
  · cases h

theorem stepI_cls2 {fr : Fr} {H H' : Hp} {i : I} {v : A} (hc : i.cls = 2) {vv : Bool} (hvv : i.vapp = true → vv = false) (h : stepI fr H i = some (v, H')) : H.length ≤ H'.length ∧ Alike vv H.length H H' := by
  cases i <;> first | (simp only [I.cls] at hc; exact absurd hc (by decide)) | skip
  case nilT => simp only [stepI, Option.some.injEq, Prod.mk.injEq] at h; rw [← h.2]; exact push_alike _ _
  case alloc => simp only [stepI, Option.some.injEq, Prod.mk.injEq] at h; rw [← h.2]; exact push_alike _ _
  case mkMap => simp only [stepI, Option.some.injEq, Prod.mk.injEq] at h; rw [← h.2]; exact push_alike _ _
  case allocT =>
    simp only [stepI, Option.some.injEq, Prod.mk.injEq] at h; rw [← h.2]
    exact ⟨by simp, fun j hj _ _ => by rw [List.getElem?_append_left hj]⟩
  case box =>
    simp only [stepI] at h
    split at h
    · simp only [Option.some.injEq, Prod.mk.injEq] at h; rw [← h.2]; exact push_alike _ _
    · cases h
  case bsliceT =>
    simp only [stepI, Option.map_eq_some_iff, Prod.mk.injEq] at h
    obtain ⟨rows, -, -, h3⟩ := h
    rw [← h3]; exact push_alike _ _
  case bsliceM =>
    simp only [stepI, Option.map_eq_some_iff, Prod.mk.injEq] at h
    obtain ⟨rows, -, -, h3⟩ := h
    rw [← h3]; exact push_alike _ _
  case mkSl =>
    simp only [stepI] at h
    split at h
    · split at h
      · simp only [Option.some.injEq, Prod.mk.injEq] at h; rw [← h.2]; exact push_alike _ _
      · cases h
    · cases h
  case app =>
    simp only [stepI] at h
    split at h
    · exact appA_alike h
    · cases h
  case appS =>
    simp only [stepI] at h
    split at h
    · exact appA_alike h
    · cases h
  case appV =>
    obtain rfl : vv = false := hvv rfl
    simp only [stepI] at h
    split at h
    · unfold appVA at h
      split at h
      · split at h
        · cases h; exact push_alike _ _
        · cases h
      · rename_i i k len hk
        split at h
        · rename_i hH
          split at h
          · cases h
            refine ⟨by simp, fun j hj o ho => ?_⟩
            by_cases hji : i = j
            · subst hji
              rw [hH, List.getElem?_set_self hj]
              exact ⟨fun h => (by cases h; cases ho), fun h => (by cases h; cases ho)⟩
            · rw [List.getElem?_set_ne hji]
          · cases h
        · cases h
      · cases h
    · cases h

theorem cls_le (i : I) : i.cls = 0 ∨ i.cls = 1 ∨ i.cls = 2 ∨ i.cls = 3 ∨ i.cls = 4 := by cases i <;> simp [I.cls]

end Go.Zam
