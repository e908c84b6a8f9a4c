/-
  An abstract machine over the model, eleventh part: an operation that compI takes does in the model what stepI says. No program in sight. No condition.
-/
import Derived.Test.YtjpdjaglggcbkaaZam10
namespace Go.Zam
open Go.RowKit (Below)

theorem step_sound {P : Program} {κ : K} {nt : Nat} {fr : Fr} {H H' : Hp} {a : Act} {w : World} {x : A} {tok : List Nat} {o : Oper} {i : I} (hc : compI P tok o = some i) (hs : SR κ nt fr H a w) (h : stepI fr H i = some (x, H')) :
    Does P (execOp a.eval o) w κ H' x := by
  obtain ⟨dst, op, ty, pos, aft, g⟩ := o
  cases op with
  | move y => exact does_move hs hc h
  | assign y => exact does_move (pos := pos) (aft := aft) (g := g) (dst := dst) hs hc h
  | pick c y z =>
    simp only [compI, Option.bind_eq_bind, Option.bind_eq_some_iff, Option.pure_def, Option.some.injEq] at hc
    obtain ⟨c', h1, y', h2, z', h3, rfl⟩ := hc
    exact does_pick hs h1 h2 h3 h
  | alloc t =>
    simp only [compI] at hc
    split at hc
    · split at hc
      · rename_i _ h1
        split at hc
        · rename_i hj
          cases hc
          exact does_allocT hs h1 hj h
        · cases hc
      · cases hc
    · simp only [Option.map_eq_some_iff] at hc
      obtain ⟨cs, h1, rfl⟩ := hc
      exact does_alloc hs h1 h
  | box t y =>
    simp only [compI] at hc
    split at hc
    · simp only [Option.map_eq_some_iff] at hc
      obtain ⟨y', h1, rfl⟩ := hc
      exact does_box hs h1 h
    · cases hc
  | load t p =>
    simp only [compI] at hc
    split at hc
    · rename_i d i' hd hi
      split at hc
      · cases hagg : isAggD d with
        | true =>
          rw [hagg] at hc
          simp only [if_true, Option.map_eq_some_iff] at hc
          obtain ⟨p', hp, rfl⟩ := hc
          exact does_loadV hs hd hi hp (by rw [hagg]; exact h)
        | false =>
          rw [hagg] at hc
          simp only [Bool.false_eq_true, if_false, Option.map_eq_some_iff] at hc
          obtain ⟨p', hp, rfl⟩ := hc
          exact does_loadV hs hd hi hp (by rw [hagg]; exact h)
      · cases hagg : isAggD d with
        | true =>
          rw [hagg] at hc
          simp only [if_true, Option.map_eq_some_iff] at hc
          obtain ⟨p', hp, rfl⟩ := hc
          exact does_load hs hd hi hp (by rw [hagg]; exact h)
        | false =>
          rw [hagg] at hc
          simp only [Bool.false_eq_true, if_false, Option.map_eq_some_iff] at hc
          obtain ⟨p', hp, rfl⟩ := hc
          exact does_load hs hd hi hp (by rw [hagg]; exact h)
    · cases hc
  | store t p v =>
    simp only [compI] at hc
    split at hc
    · rename_i i' hi
      simp only [Option.bind_eq_bind, Option.bind_eq_some_iff, Option.pure_def, Option.some.injEq] at hc
      obtain ⟨p', hp, v', hv, rfl⟩ := hc
      exact does_store hs hi hp hv h
    · cases hc
  | nilCheck y =>
    simp only [compI, Option.map_eq_some_iff] at hc
    obtain ⟨y', hy, rfl⟩ := hc
    exact does_nilCheck hs rfl hy h
  | binOp op t y z yt =>
    simp only [compI] at hc
    split at hc
    · simp only [Option.bind_eq_bind, Option.bind_eq_some_iff, Option.pure_def, Option.some.injEq] at hc
      obtain ⟨y', hy, z', hz, rfl⟩ := hc
      exact does_bin hs hy hz h
    · simp only [Option.bind_eq_bind, Option.bind_eq_some_iff, Option.pure_def, Option.some.injEq] at hc
      obtain ⟨y', hy, z', hz, rfl⟩ := hc
      exact does_bin hs hy hz h
    · rename_i ht
      split at hc
      · simp only [Option.bind_eq_bind, Option.bind_eq_some_iff, Option.pure_def, Option.some.injEq] at hc
        obtain ⟨y', hy, z', hz, rfl⟩ := hc
        exact does_beq (neg := false) rfl hs ht hy hz h
      · simp only [Option.bind_eq_bind, Option.bind_eq_some_iff, Option.pure_def, Option.some.injEq] at hc
        obtain ⟨y', hy, z', hz, rfl⟩ := hc
        exact does_beq (neg := true) rfl hs ht hy hz h
      · cases hc
    · rename_i e ht
      split at hc
      · simp only [Option.map_eq_some_iff] at hc
        obtain ⟨y', hy, rfl⟩ := hc
        exact does_isNilS (neg := false) rfl hs ht hy h
      · simp only [Option.map_eq_some_iff] at hc
        obtain ⟨y', hy, rfl⟩ := hc
        exact does_isNilS (neg := true) rfl hs ht hy h
      · cases hc
    · rename_i e ht
      split at hc
      · simp only [Option.map_eq_some_iff] at hc
        obtain ⟨y', hy, rfl⟩ := hc
        exact does_isNilP (neg := false) rfl hs ht hy h
      · simp only [Option.map_eq_some_iff] at hc
        obtain ⟨y', hy, rfl⟩ := hc
        exact does_isNilP (neg := true) rfl hs ht hy h
      · cases hc
    · rename_i fs ht
      split at hc
      · rename_i l hl hp hm
        split at hc
        · simp only [Option.bind_eq_bind, Option.bind_eq_some_iff, Option.pure_def, Option.some.injEq] at hc
          obtain ⟨y', hy, z', hz, rfl⟩ := hc
          exact does_eqA (neg := false) rfl hs ht hl hp hm hy hz h
        · simp only [Option.bind_eq_bind, Option.bind_eq_some_iff, Option.pure_def, Option.some.injEq] at hc
          obtain ⟨y', hy, z', hz, rfl⟩ := hc
          exact does_eqA (neg := true) rfl hs ht hl hp hm hy hz h
        · cases hc
      · cases hc
    · cases hc
  | unOp op t y =>
    simp only [compI, Option.map_eq_some_iff] at hc
    obtain ⟨y', hy, rfl⟩ := hc
    exact does_un hs hy h
  | convert s t y =>
    simp only [compI] at hc
    split at hc
    · rename_i k0 k h1 h2
      simp only [Option.map_eq_some_iff] at hc
      obtain ⟨y', hy, rfl⟩ := hc
      exact does_cvt hs h1 h2 hy h
    · rename_i h1 h2
      simp only [Option.map_eq_some_iff] at hc
      obtain ⟨y', hy, rfl⟩ := hc
      exact does_cvtS hs h1 h2 hy h
    · cases hc
  | makeFunc fn f1 f2 =>
    simp only [compI, Option.bind_eq_bind, Option.bind_eq_some_iff, Option.pure_def, Option.some.injEq] at hc
    obtain ⟨y1, h1, y2, h2, rfl⟩ := hc
    exact does_mkfn hs h1 h2 h
  | fieldAddr s y f =>
    simp only [compI] at hc
    split at hc
    · rename_i fs hfs
      split at hc
      · rename_i fd hfd
        split at hc
        · rename_i i' hi
          split at hc
          · cases hc
          · rename_i hsz
            simp only [Option.map_eq_some_iff] at hc
            obtain ⟨y', hy, rfl⟩ := hc
            exact does_faddr hs hfs hfd hi hsz hy h
        · cases hc
      · cases hc
    · cases hc
  | field s y f =>
    simp only [compI] at hc
    split at hc
    · rename_i fs hfs
      split at hc
      · rename_i fd hfd
        split at hc
        · rename_i d i' hd hi
          cases hagg : isAggD d with
          | true =>
            rw [hagg] at hc
            simp only [if_true, Option.map_eq_some_iff] at hc
            obtain ⟨p', hp, rfl⟩ := hc
            exact does_fld hs hfs hfd hd hi hp (by rw [hagg]; exact h)
          | false =>
            rw [hagg] at hc
            simp only [Bool.false_eq_true, if_false, Option.map_eq_some_iff] at hc
            obtain ⟨p', hp, rfl⟩ := hc
            exact does_fld hs hfs hfd hd hi hp (by rw [hagg]; exact h)
        · cases hc
      · cases hc
    · cases hc
  | indexAddr t y z =>
    simp only [compI] at hc
    split at hc
    · rename_i e ti h1
      split at hc
      · simp only [Option.bind_eq_bind, Option.bind_eq_some_iff, Option.pure_def, Option.some.injEq] at hc
        obtain ⟨y', hy, z', hz, rfl⟩ := hc
        exact does_iaddrV hs h1 hy hz h
      · simp only [Option.bind_eq_bind, Option.bind_eq_some_iff, Option.pure_def, Option.some.injEq] at hc
        obtain ⟨y', hy, z', hz, rfl⟩ := hc
        exact does_iaddr hs h1 hy hz h
    · cases hc
  | index t y z =>
    simp only [compI] at hc
    split at hc
    · rename_i ht
      simp only [Option.bind_eq_bind, Option.bind_eq_some_iff, Option.pure_def, Option.some.injEq] at hc
      obtain ⟨y', hy, z', hz, rfl⟩ := hc
      exact does_sidx hs ht hy hz h
    · cases hc
  | slice t y lo hi mx =>
    simp only [compI] at hc
    split at hc
    · rename_i ht
      simp only [Option.bind_eq_bind, Option.bind_eq_some_iff, Option.pure_def, Option.some.injEq] at hc
      obtain ⟨y', hy, lo', h1, hi', h2, rfl⟩ := hc
      exact does_sslice hs ht hy h1 h2 h
    · rename_i e ht
      split at hc
      · rename_i ti hti
        split at hc
        · split at hc
          · rename_i hi2
            simp only [Option.bind_eq_bind, Option.bind_eq_some_iff, Option.pure_def, Option.some.injEq] at hc
            obtain ⟨y', hy, hi', h2, rfl⟩ := hc
            exact does_cutV hs ht hti hy h2 h
          · cases hc
        · simp only [Option.bind_eq_bind, Option.bind_eq_some_iff, Option.pure_def, Option.some.injEq] at hc
          obtain ⟨y', hy, lo', h1, hi', h2, mx', h3, rfl⟩ := hc
          exact does_slice hs ht hti hy h1 h2 h3 h
      · cases hc
    · cases hc
  | build t parts =>
    simp only [compI] at hc
    split at hc
    · rename_i fs z hfs hz
      simp only [Option.bind_eq_bind, Option.bind_eq_some_iff, Option.pure_def] at hc
      obtain ⟨ps, hps, hc⟩ := hc
      split at hc
      · rename_i hall
        simp only [Option.some.injEq] at hc
        subst hc
        exact does_build hs hfs hz hps hall h
      · cases hc
    · cases hc
  | buildSlice t n parts =>
    simp only [compI] at hc
    split at hc
    · rename_i e ti h1
      split at hc
      · rename_i hb
        simp only [Bool.and_eq_true, beq_iff_eq, decide_eq_true_eq] at hb
        obtain ⟨⟨⟨⟨b1, b2⟩, b3⟩, b4⟩, b5⟩ := hb
        simp only [Option.bind_eq_bind, Option.bind_eq_some_iff, Option.pure_def] at hc
        obtain ⟨ps, hps, hc⟩ := hc
        split at hc
        · simp only [Option.some.injEq] at hc
          subst hc
          exact does_bsliceT hs h1 b1 b2 b3 b4 b5 hps h
        · split at hc
          · simp only [Option.some.injEq] at hc
            subst hc
            exact does_bsliceM hs h1 b1 b2 b3 b4 b5 hps h
          · simp only [Option.some.injEq] at hc
            subst hc
            exact does_bslice hs h1 b1 b2 b3 b4 b5 hps h
      · cases hc
    · cases hc
  | makeMap t r =>
    cases r with
    | none =>
      simp only [compI, Option.some.injEq] at hc
      subst hc
      exact does_mkMap hs h
    | some r => simp [compI] at hc
  | lookup t y k ok =>
    simp only [compI] at hc
    split at hc
    · rename_i kt et ht
      split at hc
      · rename_i kd z hk hz
        simp only [Option.bind_eq_bind, Option.bind_eq_some_iff, Option.pure_def, Option.some.injEq] at hc
        obtain ⟨y', hy, k', hkk, rfl⟩ := hc
        exact does_lkp hs ht hk hz hy hkk h
      · cases hc
    · cases hc
  | mapUpdate t y k v =>
    simp only [compI] at hc
    split at hc
    · rename_i kt et ht
      split at hc
      · rename_i kd hk
        simp only [Option.bind_eq_bind, Option.bind_eq_some_iff, Option.pure_def, Option.some.injEq] at hc
        obtain ⟨y', hy, k', hkk, v', hvv, rfl⟩ := hc
        exact does_mpUpd hs ht hk hy hkk hvv h
      · cases hc
    · cases hc
  | makeSlice t l c =>
    simp only [compI] at hc
    split at hc
    · rename_i e ti h1
      split at hc
      · rename_i z hz
        split at hc
        · rename_i hb
          simp only [Bool.and_eq_true, beq_iff_eq, decide_eq_true_eq] at hb
          obtain ⟨⟨⟨b1, b2⟩, b3⟩, b4⟩ := hb
          simp only [Option.bind_eq_bind, Option.bind_eq_some_iff, Option.pure_def, Option.some.injEq] at hc
          obtain ⟨l', hl, c', hc', rfl⟩ := hc
          exact does_mkSl hs h1 hz b1 b3 b4 hl hc' h
        · cases hc
      · cases hc
    · cases hc
  | extract y n =>
    simp only [compI, Option.map_eq_some_iff] at hc
    obtain ⟨y', hy, rfl⟩ := hc
    exact does_ext hs hy h
  | call c =>
    obtain ⟨callee, xs, ts⟩ := c
    simp only [compI] at hc
    cases callee with
    | builtin b =>
      have hres : ∀ (s : Sem Value), (∀ cs, builtin b ts ty cs (xs.map a.eval) = (do pure (.value (← s)))) →
          Does P (do pure (.value (← s))) w κ H' x → Does P (execOp a.eval { dst := dst, op := .call { callee := .builtin b, args := xs, argTypes := ts }, type := ty, pos := pos, after := aft, guard := g }) w κ H' x := by
        rintro s hb ⟨u, w', κ', hr, rest⟩
        refine ⟨u, w', κ', ?_, rest⟩
        have : (execOp a.eval { dst := dst, op := .call { callee := .builtin b, args := xs, argTypes := ts }, type := ty, pos := pos, after := aft, guard := g }).run P w = (do pure (Next.value (← s)) : Sem Next).run P w := by
          simp only [execOp, resolve, Sem.run_bind, Sem.run_pure, Result.andThen_ok, invoke]
          rw [hb]; simp
        rw [this]; exact hr
      cases b with
      | len =>
        simp only at hc
        split at hc
        · rename_i t y h0 hx
          split at hc
          · rename_i ht
            simp only [Option.map_eq_some_iff] at hc
            obtain ⟨y', hy, rfl⟩ := hc
            exact hres _ (fun _ => rfl) (does_lenS hs ht h0 hx hy h)
          · rename_i e ht
            simp only [Option.map_eq_some_iff] at hc
            obtain ⟨y', hy, rfl⟩ := hc
            exact hres _ (fun _ => rfl) (does_lenL hs ht h0 hx hy h)
          · cases hc
        · cases hc
      | max =>
        simp only at hc
        split at hc
        · rename_i y z hx
          simp only [Option.bind_eq_bind, Option.bind_eq_some_iff, Option.pure_def, Option.some.injEq] at hc
          obtain ⟨y', hy, z', hz, rfl⟩ := hc
          exact hres (Builtin.max_ ts ty (xs.map a.eval)) (fun _ => rfl) (does_mm (ts := ts) (ty := ty) (isMax := true) hs hx hy hz h)
        · cases hc
      | min =>
        simp only at hc
        split at hc
        · rename_i y z hx
          simp only [Option.bind_eq_bind, Option.bind_eq_some_iff, Option.pure_def, Option.some.injEq] at hc
          obtain ⟨y', hy, z', hz, rfl⟩ := hc
          exact hres (Builtin.min_ ts ty (xs.map a.eval)) (fun _ => rfl) (does_mm (ts := ts) (ty := ty) (isMax := false) hs hx hy hz h)
        · cases hc
      | append =>
        simp only at hc
        split at hc
        · rename_i t u y z hts hxs
          split at hc
          · rename_i e ti h1
            split at hc
            · cases hc
            · rename_i hb
              simp only [Bool.or_eq_true, decide_eq_true_eq, bne_iff_ne, ne_eq, not_or, Decidable.not_not] at hb
              obtain ⟨⟨b1, b2⟩, b3⟩ := hb
              obtain ⟨z0, hz0, hzs⟩ : ∃ z0, ti.zero = some z0 ∧ z0.cells.size = ti.size := by
                cases hzz : ti.zero with
                | none => rw [hzz] at b3; simp at b3
                | some z0 => rw [hzz] at b3; exact ⟨z0, rfl, by simpa using b3⟩
              split at hc
              · rename_i eu hu
                split at hc
                · simp only [Option.bind_eq_bind, Option.bind_eq_some_iff, Option.pure_def, Option.some.injEq] at hc
                  obtain ⟨y', hy, z', hz, rfl⟩ := hc
                  exact hres _ (fun _ => rfl) (does_appV hs hts hxs h1 hu hz0 hzs (by omega) hy hz h)
                · simp only [Option.bind_eq_bind, Option.bind_eq_some_iff, Option.pure_def, Option.some.injEq] at hc
                  obtain ⟨y', hy, z', hz, rfl⟩ := hc
                  exact hres _ (fun _ => rfl) (does_app hs hts hxs h1 hu hz0 hzs (by omega) hy hz h)
              · rename_i hu
                split at hc
                · rename_i hb1
                  simp only [Bool.and_eq_true, beq_iff_eq] at hb1
                  simp only [Option.bind_eq_bind, Option.bind_eq_some_iff, Option.pure_def, Option.some.injEq] at hc
                  obtain ⟨y', hy, z', hz, rfl⟩ := hc
                  exact hres _ (fun _ => rfl) (does_appS hs hts hxs h1 hu hz0 hzs hb1.1 hb1.2 hy hz h)
                · cases hc
              · cases hc
          · cases hc
        · cases hc
      | _ => cases hc
    | value f =>
      cases f with
      | func f =>
        simp only at hc
        split at hc
        · simp only [Option.map_eq_some_iff] at hc
          obtain ⟨ys, -, rfl⟩ := hc
          cases h
        · cases hc
      | _ =>
        simp only [Option.bind_eq_bind, Option.bind_eq_some_iff, Option.pure_def, Option.some.injEq] at hc
        obtain ⟨y, -, ys, -, rfl⟩ := hc
        cases h
    | invoke r m => cases hc
  | _ => cases hc

end Go.Zam
