/-
  An abstract machine over the model, nineteenth part: strings.Builder on the machine, over any program. No condition.
-/
import Derived.Test.YtjpdjaglggcbkaaZam18
import Derived.Shelf.Strings.Builder1
namespace Go.Zam
open Go.RowKit Go.Proofs Go.Shelf

/-- bytes of a token's row are frozen -/
theorem HR.freeze {κ : K} {H : Hp} {w : World} (h : HR κ H w) {t b e c n m sz : Nat} {ty : TypeId} (ht : H[t]? = some (.tok n sz ty)) (hb : κ.β t = .reg b e c m sz) (hm : m ≤ e) (hmn : m = n) : HR κ H (w.freeze ⟨b, 0, none⟩ m) := by
  subst hmn
  by_cases h0 : m = 0
  · subst h0; simp only [World.freeze, if_true]; exact h
  have hne : ∀ k, k ≠ b → (w.freeze ⟨b, 0, none⟩ m).heap[k]? = w.heap[k]? := fun k hk => by
    simp only [World.freeze, h0, if_false, Array.getElem?_modify]
    rw [if_neg (Ne.symm hk)]
  have hcell : ∀ a : Addr, (w.freeze ⟨b, 0, none⟩ m).cell? a = w.cell? a := fun a => by
    by_cases ha : a.block = b
    · simp only [World.cell?, World.freeze, h0, if_false, Array.getElem?_modify, ha, if_true]
      cases w.heap[b]? with
      | none => rfl
      | some o => cases o <;> rfl
    · simp only [World.cell?, hne _ ha]
  have hsz : (w.freeze ⟨b, 0, none⟩ m).heap.size = w.heap.size := by simp [World.freeze, h0]
  have hex := h.ex t b (by rw [hb]; rfl)
  refine ⟨?_, fun b' o v hv => (hcell _).trans (h.st b' o v hv), fun i x hx => ?_, h.dom, fun i b' hi => ?_, h.exσ, h.exd, h.fl⟩
  · refine h.below.trans ⟨by simp [World.freeze, h0], by simp [World.freeze, h0], by simp [World.freeze, h0], by rw [hsz]; exact Nat.le_refl _, fun k hk => hne k (by omega)⟩
  · by_cases hit : i = t
    · subst hit
      rw [ht] at hx; cases hx
      rcases h.ob i _ ht with ⟨h1, -⟩ | ⟨b', e', c', cur, lo, hi, h1, h2, h3, h4⟩
      · rw [hb] at h1; cases h1
      · rw [hb] at h1; cases h1
        refine .inr ⟨b, e, c, cur, (if lo == hi then (0, 0 + m) else (min lo 0, max hi (0 + m))).1, (if lo == hi then (0, 0 + m) else (min lo 0, max hi (0 + m))).2, hb, ?_, h3, ?_⟩
        · simp only [World.freeze, h0, if_false, Array.getElem?_modify, if_true, h2, Option.map_some]
        · right
          by_cases hlh : lo = hi
          · simp [hlh]; exact hm
          · have : (lo == hi) = false := by simpa using hlh
            simp only [this, Bool.false_eq_true, if_false]
            rcases h4 with h4 | h4
            · exact absurd h4 hlh
            · omega
    · refine (h.ob i x hx).mono (K.le_refl κ) rfl fun b' hb' => hne b' fun e => ?_
      subst e
      exact hit (h.exd i t b' hb' (by rw [hb]; rfl))
  · rw [hsz]; exact h.ex i b' hi

section
variable {P : Program} {ρ : Ren}

theorem copyCheck_acall (L : Lays.n240 P ρ) (X : Builder.X72 P ρ) {H : Hp} {i : Nat} {x a : A} (hi : H[i]? = some (.box (ρ.t 72) [a, x])) (ha : a = .d .nilp ∨ a = .ptr i 0) :
    ACall P (ρ.f 240) [.ptr i 0] H (fun r H' => r = .tup [] ∧ H' = H.set i (.box (ρ.t 72) [.ptr i 0, x])) := by
  intro κ w vs hr hl hv
  match vs, hl with
  | [v], _ =>
  have hv0 := hv 0 v _ rfl rfl
  cases hv0 with
  | ptr _ _ b hb =>
  obtain ⟨b', hb', hsh, hc⟩ := hr.ob i _ hi
  have hbb : b' = b := by rw [hb] at hb'; cases hb'; rfl
  subst hbb
  obtain ⟨u, hu1, hu2, hu3⟩ := hc 0 a rfl
  rcases ha with rfl | rfl
  · have hu : u = .pointer none := by cases hu3 with | d h => cases h; rfl
    subst hu
    refine (Any.Builder_copyCheck_fresh L X b' w hu1 hsh hu2).mono fun e w' ⟨he, hw⟩ => ?_
    subst hw
    exact ⟨_, κ, .tup [], _, he, K.le_refl κ, hr.setBox (j := 0) hi hb (by simp) rfl (.ptr i 0 b' hb), .tup [] [] rfl (by simp), rfl, rfl⟩
  · have hu : u = .pointer (some ⟨b', 0, none⟩) := by
      cases hu3 with | ptr _ _ b2 h2 => rw [hb] at h2; cases h2; rfl
    subst hu
    refine (Any.Builder_copyCheck_used L X b' w hu1).mono fun e w' ⟨he, hw⟩ => ?_
    subst hw
    refine ⟨_, κ, .tup [], H, he, K.le_refl κ, hr, .tup [] [] rfl (by simp), rfl, ?_⟩
    refine List.ext_getElem? fun j => ?_
    by_cases hj : i = j
    · subst hj; rw [List.getElem?_set_self (List.getElem?_eq_some_iff.1 hi).1, hi]
    · rw [List.getElem?_set_ne hj]

set_option maxHeartbeats 1000000 in
set_option maxRecDepth 100000 in
theorem Builder_String_row (L : Lays.n169 P ρ) (X : Builder.Extra P ρ) (b g cap cells : Nat) (l : List UInt8) (w : World) (h0 : l ≠ []) (c0 : w.cell? ⟨b, 1, none⟩ = some (.slice (some ⟨g, 0, none⟩) l.length cap)) (hcap : l.length ≤ cap) (hcells : l.length ≤ cells)
    (hsh : w.shape? g = some (ρ.t 5, cells)) (h63 : l.length ≤ 9223372036854775807) (hb : ∀ j x, l[j]? = some x → w.cell? ⟨g, j, none⟩ = some (.int .u8 x.toNat)) :
    Calls P (ρ.f 169) #[.pointer (some ⟨b, 0, none⟩)] w fun e w' => e = .returned (.string ⟨l.toArray⟩) ∧ w' = w.drew.freeze ⟨g, 0, none⟩ l.length := by
  have hl0 : l.length ≠ 0 := by simpa using h0
  have c1 : w.drew.cell? ⟨b, 1, none⟩ = some (.slice (some ⟨g, 0, none⟩) l.length cap) := c0
  have hSD : (Builtin.unsafeSliceData_ #[(ρ.t 37)] (ρ.t 127) #[.slice (some ⟨g, 0, none⟩) l.length cap]).run P w.drew = .ok (.pointer (some ⟨g, 0, none⟩)) w.drew :=
    Lib.run_unsafeSliceData_row _ _ _ _ _ _ (by omega)
  have hUS : (Builtin.unsafeString_ #[(ρ.t 127), (ρ.t 3)] (ρ.t 9) #[.pointer (some ⟨g, 0, none⟩), .int .i64 l.length]).run P w.drew = .ok (.string ⟨l.toArray⟩) (w.drew.freeze ⟨g, 0, none⟩ l.length) := by
    refine Lib.run_unsafeString_row w.drew (ρ.t 127) (ρ.t 3) (ρ.t 9) (ρ.t 5) L.t127 X.cellsByte g cells hsh l h0 hcells h63 ?_
    intro j x hx
    have := hb j x hx
    rw [add_mk, Nat.zero_add]; exact this
  have mixed := L.mixed
  have t72 := L.t72; have a72 := L.a72; have z72 := L.z72; have v72 := L.v72; have u72 := run_underlying L.t72
  have t70 := L.t70; have a70 := L.a70; have z70 := L.z70; have v70 := L.v70; have u70 := run_underlying L.t70
  have t37 := L.t37; have a37 := L.a37; have z37 := L.z37; have v37 := L.v37; have u37 := run_underlying L.t37
  have t127 := L.t127; have a127 := L.a127; have z127 := L.z127; have v127 := L.v127; have u127 := run_underlying L.t127
  have t3 := L.t3; have a3 := L.a3; have z3 := L.z3; have v3 := L.v3; have u3 := run_underlying L.t3
  have t9 := L.t9; have a9 := L.a9; have z9 := L.z9; have v9 := L.v9; have u9 := run_underlying L.t9
  have t5 := X.t5; have a5 := X.a5; have z5 := X.z5; have v5 := X.v5; have u5 := run_underlying X.t5
  go_enter L.f169, Body.n169_ntmps ρ
  go_wp2
  go_region_o
  all_goals (go_wp2; go_ret; exact ⟨rfl, rfl⟩)

set_option maxHeartbeats 1000000 in
set_option maxRecDepth 100000 in
theorem Builder_String_nil' (L : Lays.n169 P ρ) (X : Builder.Extra P ρ) (b : Nat) (w : World) (c0 : w.cell? ⟨b, 1, none⟩ = some (.slice none 0 0)) :
    Calls P (ρ.f 169) #[.pointer (some ⟨b, 0, none⟩)] w fun e w' => e = .returned (.string ⟨#[]⟩) ∧ w' = w.drew := by
  have hUS := Any.unsafeString_none L X
  have c1 : w.drew.cell? ⟨b, 1, none⟩ = some (.slice none 0 0) := c0
  have hSD : (Builtin.unsafeSliceData_ #[(ρ.t 37)] (ρ.t 127) #[.slice none 0 0]).run P w.drew = .ok (.pointer none) w.drew := Lib.run_unsafeSliceData_nil _ _ _ _ _
  have mixed := L.mixed
  have t72 := L.t72; have a72 := L.a72; have z72 := L.z72; have v72 := L.v72; have u72 := run_underlying L.t72
  have t70 := L.t70; have a70 := L.a70; have z70 := L.z70; have v70 := L.v70; have u70 := run_underlying L.t70
  have t37 := L.t37; have a37 := L.a37; have z37 := L.z37; have v37 := L.v37; have u37 := run_underlying L.t37
  have t127 := L.t127; have a127 := L.a127; have z127 := L.z127; have v127 := L.v127; have u127 := run_underlying L.t127
  have t3 := L.t3; have a3 := L.a3; have z3 := L.z3; have v3 := L.v3; have u3 := run_underlying L.t3
  have t9 := L.t9; have a9 := L.a9; have z9 := L.z9; have v9 := L.v9; have u9 := run_underlying L.t9
  have t5 := X.t5; have a5 := X.a5; have z5 := X.z5; have v5 := X.v5; have u5 := run_underlying X.t5
  go_enter L.f169, Body.n169_ntmps ρ
  go_wp2
  go_region_o
  all_goals (go_wp2; go_ret; exact ⟨rfl, rfl⟩)

theorem string_acall (L : Lays.n169 P ρ) (X : Builder.Extra P ρ) {H : Hp} {i t : Nat} {a : A} {s : List UInt8} (hi : H[i]? = some (.box (ρ.t 72) [a, .osl true 1 (byteRows s) t])) (ht : H[t]? = some (.tok s.length 1 (ρ.t 5))) (hlen : s.length ≤ 4611686018427387904) :
    ACall P (ρ.f 169) [.ptr i 0] H (fun r H' => r = .d (.str s) ∧ H' = H) := by
  intro κ w vs hr hl hv
  match vs, hl with
  | [v], _ =>
  have hv0 := hv 0 v _ rfl rfl
  cases hv0 with
  | ptr _ _ b hb =>
  obtain ⟨b', hb', hsh, hc⟩ := hr.ob i _ hi
  have hbb : b' = b := by rw [hb] at hb'; cases hb'; rfl
  subst hbb
  obtain ⟨u, hu1, hu2, hu3⟩ := hc 1 _ rfl
  have hrl : (byteRows s).length = s.length := by simp [byteRows]
  cases hu3 with
  | osl hd hf =>
  have hstr : ∀ κ' : K, VR κ' (.string ⟨s.toArray⟩) (.d (.str s)) := fun κ' => by
    have := DR.str (σ := κ'.σ) ⟨s.toArray⟩
    exact .d (by simpa using this)
  by_cases h0 : s = []
  · subst h0
    have hu : u = .slice none 0 0 := by
      rcases hd.sl_inv with ⟨h1, -⟩ | ⟨_, _, _, h1, -⟩ | ⟨_, _, _, _, _, h1, -⟩
      · exact h1
      · cases h1
      · exact absurd rfl (h1 rfl)
    subst hu
    refine (Builder_String_nil' L X b' w hu1).mono fun e w' ⟨he, hw⟩ => ?_
    subst hw
    exact ⟨_, κ, _, H, he, K.le_refl κ, hr.drew, hstr κ, rfl, rfl⟩
  · rcases hr.ob t _ ht with ⟨-, h1⟩ | ⟨g, e, c, cur, lo, hi', h1, h2, h3, h4⟩
    · exact absurd (List.eq_nil_of_length_eq_zero h1) h0
    rw [h1, hrl] at hf
    obtain ⟨-, hf⟩ := hf
    obtain ⟨o, cap, hu, hcap, he, hcc, ho⟩ := hf rfl
    subst ho; subst hu
    obtain ⟨-, f, -, -, -, hcs, hds⟩ := hd.sl_at
    refine (Builder_String_row L X b' g cap cur.size s w h0 hu1 hcap (by omega) (by simp [World.shape?, h2]) (by omega) (fun j x hx => ?_)).mono fun e' w' ⟨he', hw⟩ => ?_
    · have hrow : (byteRows s)[j]? = some [.int .u8 x.toNat] := by simp [byteRows, hx]
      have h5 := hcs j 0 _ _ hrow rfl
      have h6 := hds j 0 _ _ hrow rfl
      have h7 := hr.st _ _ _ h5
      cases h7' : f j 0 <;> rw [h7'] at h6 <;> cases h6
      rw [h7'] at h7
      simpa using h7
    · subst hw
      refine ⟨_, κ, _, H, he', K.le_refl κ, ?_, hstr κ, rfl, rfl⟩
      exact hr.drew.freeze ht h1 (by omega) rfl


end

end Go.Zam
