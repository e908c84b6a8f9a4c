/-
  Texts of one proof, one behind the other: strconv.ParseUint(s, 10, 63), over any program that has it: turned from the kit's worked proofs at 32 and 64 bits. No condition but on lengths. The functions of the layers of runes and tokens at this program. (Printed by mktok.py.) strings.Builder's copyCheck and String on the abstract machine, at this program. No condition. The layers of runes and tokens at this program: the library's functions, one by one, and what token.Lex answers. (Printed by mktok.py.) The lengths are bounded.  The layers of texts, tokens and deltas at this program: what their functions answer. The lengths are bounded. The document's Sound on the abstract machine: what it computes. No condition. The document's Apply on the abstract machine: it computes what Apply does. The lengths are bounded where a theorem says so. The fifth chapter's laws at this program: the example, the tokens of two texts, DeltaMakes, DeltaTurns. The lengths are bounded. The law DeltaLeast at this program. The lengths are bounded.
-/
import Derived.BigCall
import Derived.BigGuard
import Derived.Laws.Closers25
import Derived.Laws.Closers25b
import Derived.Laws.Strings3
import Derived.Lib.AtoiErrMem
import Derived.Lib.ConvBytes
import Derived.Lib.Hide
import Derived.Lib.ParseIntBMem
import Derived.Lib.Strings
import Derived.Lib.Walk
import Derived.Shelf.Pu.Lays
import Derived.Shelf.Pu.Lower
import Derived.Shelf.Pu.ParseUint10
import Derived.Shelf.Pu.ParseUint10At
import Derived.Shelf.Pu.ParseUint10b16
import Derived.Shelf.Pu.ParseUint10b32
import Derived.Shelf.Pu.ParseUint10b64
import Derived.Shelf.Pu.ParseUint10b8
import Derived.Shelf.Pu.ParseUintEmpty
import Derived.Shelf.Pu.ToError
import Derived.Shelf.Pu.ToErrorRange
import Derived.WalkKit
import Derived.Test.YtnlfihdegglkfaaDoorM4
import Derived.Test.YtnlfihdegglkfaaDoorProg
import Derived.KernelRfl
import Derived.Test.YtnlfihdegglkfaaDoorM3
import Derived.Test.YtnlfihdegglkfaaDoorM5
import Derived.Test.YtnlfihdegglkfaaDoorM6
set_option linter.all false
namespace Go.Proofs
open Go.Shelf Go.RowKit
variable {P : Program} {ρ : Ren}

set_option maxHeartbeats 32000000 in
set_option maxRecDepth 100000 in
theorem AnyPu.internal_strconv_ParseUint_10_b63 (L : LaysPu.n16 P ρ) (t : ByteArray) (hne : t.size ≠ 0) (hmax : t.size ≤ 9223372036854775806) (w : World) :
    Calls P (ρ.f 16) #[.string t, .int .i64 10, .int .i64 63] w fun e w' => e = .returned (Lib.uintTupleM (ρ.t 34) 9223372036854775807 (Lib.parseUintM 9223372036854775807 0 t.data.toList)) ∧ w' = Lib.bytesWorld w (ρ.t 5) t := by
  have mixed := L.mixed
  have t9 := L.t9; have a9 := L.a9; have z9 := L.z9; have v9 := L.v9
  have t3 := L.t3; have a3 := L.a3; have z3 := L.z3; have v3 := L.v3
  have t22 := L.t22; have a22 := L.a22; have z22 := L.z22; have v22 := L.v22
  have t24 := L.t24; have a24 := L.a24; have z24 := L.z24; have v24 := L.v24
  have t4 := L.t4; have a4 := L.a4; have z4 := L.z4; have v4 := L.v4
  have t34 := L.t34; have a34 := L.a34; have z34 := L.z34; have v34 := L.v34
  have t5 := L.t5; have a5 := L.a5; have z5 := L.z5; have v5 := L.v5
  have t36 := L.t36; have a36 := L.a36; have z36 := L.z36; have v36 := L.v36
  have t37 := L.t37; have a37 := L.a37; have z37 := L.z37; have v37 := L.v37
  have t0 := L.t0; have a0 := L.a0; have z0 := L.z0; have v0 := L.v0
  have e19 : ∀ args w, (callFunc (ρ.f 19) args).run P w = .ok (.enter (ρ.f 19) args) w := enters_of L.f19 (by kernel_rfl) rfl
  have hemp : t.toList.isEmpty = false := by
    rw [← decide_eq_emptyBytes]
    exact decide_eq_false (fun h => hne (by rw [h]; rfl))
  have hcv := Lib.run_convert_string_bytes (P := P) w (ρ.t 9) (ρ.t 37) (ρ.t 5) t (u := .string) L.t9 L.t37 L.t5
  have hB : ∀ j, j < t.size → (Lib.bytesWorld w (ρ.t 5) t).cell? ⟨w.heap.size, j, none⟩ = some (.int .u8 (t.data.toList.getD j 0).toNat) := fun j hj => Lib.bytesWorld_cell w (ρ.t 5) t j hj
  obtain ⟨W1, hW1⟩ : ∃ W1, W1 = Lib.bytesWorld w (ρ.t 5) t := ⟨_, rfl⟩
  rw [← hW1] at hcv hB ⊢
  clear hW1
  obtain ⟨bs, hL⟩ : ∃ bs, bs = t.data.toList := ⟨_, rfl⟩
  have hLn : bs.length = t.size := by rw [hL, Lib.size_eq]
  rw [← hL] at hB ⊢
  clear hL
  -- 'maxVal := uint64(1)<<uint(bitSize) - 1': its value, for the walk to take
  have hmv : IntKind.u64.wrap (IntKind.u64.wrap 9223372036854775808 - 1) = 9223372036854775807 := by
    rw [IntKind.wrap_u64, IntKind.wrap_u64]
    decide
  go_enter L.f16, BodyPu.n16_ntmps ρ
  go_wp2
  go_loop [12, 13, 101] (fun vu vn vi => ∃ (k acc : Nat) (a : Int), vu = .bool false ∧ vn = .int .u64 a ∧ vi = .int .i64 k ∧ k ≤ t.size ∧ Hid (a = (acc : Int) ∧ acc ≤ 9223372036854775807 ∧ Lib.parseUintM 9223372036854775807 0 bs = Lib.parseUintM 9223372036854775807 acc (bs.drop k)))
    (fun _ _ vi => t.size - (intOf vi).toNat)
  case atStart => exact ⟨0, 0, 0, rfl, rfl, rfl, by omega, rfl, by omega, rfl⟩
  case round =>
    obtain ⟨k, acc, a, rfl, rfl, rfl, hk, hh⟩ := hrel
    obtain ⟨ha, hacc, hdec⟩ := hh.out
    clear hh
    have a0 : 0 ≤ a := by omega
    have a1 : a ≤ 9223372036854775807 := by omega
    by_cases hkn : k < t.size
    · have hc := hB k hkn
      have hdrop : bs.drop k = bs[k]'(by omega) :: bs.drop (k + 1) := List.drop_eq_getElem_cons (by omega)
      have hget : bs.getD k 0 = bs[k]'(by omega) := by simp [List.getD, List.getElem?_eq_getElem (show k < bs.length by omega)]
      rw [hdrop] at hdec
      rw [hget] at hc
      generalize bs[k]'(by omega) = c at hc hdec
      have hc256 : c.toNat < 256 := c.toNat_lt
      clear hB hdrop hget
      by_cases hdig : 48 ≤ c.toNat ∧ c.toNat ≤ 57
      · obtain ⟨hd0, hd1⟩ := hdig
        by_cases hcut : 1844674407370955162 ≤ acc
        · have hF : Lib.parseUintM 9223372036854775807 acc (c :: bs.drop (k + 1)) = .range := by simp [Lib.parseUintM, hd0, hd1, hcut]
          rw [hF] at hdec
          have icut : 1844674407370955162 ≤ a := by omega
          clear hcut hacc hF ha
          go_wp2
          go_ret2
          exact ⟨rfl, rfl⟩
        by_cases hov2 : 18446744073709551616 ≤ acc * 10 + (c.toNat - 48)
        · have hov : 9223372036854775807 < acc * 10 + (c.toNat - 48) := by omega
          have hF : Lib.parseUintM 9223372036854775807 acc (c :: bs.drop (k + 1)) = .range := by simp [Lib.parseUintM, hd0, hd1, hcut, hov]
          rw [hF] at hdec
          have icut : a < 1844674407370955162 := by omega
          have iov : 18446744073709551616 ≤ a * 10 + ((c.toNat : Int) - 48) := by omega
          have hwr : IntKind.u64.wrap (a * 10 + ((c.toNat : Int) - 48)) = a * 10 + ((c.toNat : Int) - 48) - 18446744073709551616 := by
            rw [IntKind.wrap_u64]
            omega
          clear hcut hacc hF hov hov2 ha
          go_wp2
          go_ret2
          exact ⟨rfl, rfl⟩
        by_cases hov : 9223372036854775807 < acc * 10 + (c.toNat - 48)
        · -- OVER THE SIZE
          have hF : Lib.parseUintM 9223372036854775807 acc (c :: bs.drop (k + 1)) = .range := by simp [Lib.parseUintM, hd0, hd1, hcut, hov]
          rw [hF] at hdec
          have iov : 9223372036854775807 < a * 10 + ((c.toNat : Int) - 48) := by omega
          have iov2 : a * 10 + ((c.toNat : Int) - 48) < 18446744073709551616 := by omega
          have icut : a < 1844674407370955162 := by omega
          clear hcut hacc hF hov hov2 ha
          go_wp2
          go_ret2
          exact ⟨rfl, rfl⟩
        · have hF : Lib.parseUintM 9223372036854775807 acc (c :: bs.drop (k + 1)) = Lib.parseUintM 9223372036854775807 (acc * 10 + (c.toNat - 48)) (bs.drop (k + 1)) := by simp [Lib.parseUintM, hd0, hd1, hcut, hov]
          have HN : Hid (a * 10 + ((c.toNat : Int) - 48) = ((acc * 10 + (c.toNat - 48) : Nat) : Int) ∧ acc * 10 + (c.toNat - 48) ≤ 9223372036854775807 ∧ Lib.parseUintM 9223372036854775807 0 bs = Lib.parseUintM 9223372036854775807 (acc * 10 + (c.toNat - 48)) (bs.drop (k + 1))) := Lib.hid ⟨by omega, by omega, hdec.trans hF⟩
          have iov : a * 10 + ((c.toNat : Int) - 48) ≤ 9223372036854775807 := by omega
          have icut : a < 1844674407370955162 := by omega
          clear hcut hacc hF hov hov2 hdec ha
          go_wp2
          refine ⟨⟨k + 1, acc * 10 + (c.toNat - 48), a * 10 + ((c.toNat : Int) - 48), rfl, (by first | rfl | (congr 1; omega)), (by first | rfl | (congr 1; omega)), by omega, HN⟩, by simp [intOf]; omega⟩
      · -- NO DIGIT: whatever way the text goes: (0, ErrSyntax)
        have hF : Lib.parseUintM 9223372036854775807 acc (c :: bs.drop (k + 1)) = Lib.NumEnd.syntax := by simp [Lib.parseUintM, hdig]
        rw [hF] at hdec
        clear hacc hF ha
        have hv0 := bits_lo_u8 .or (c.toNat : Int) 32
        have hv1 := bits_hi_u8 .or (c.toNat : Int) 32
        have hu0 := bits_lo_u8 .or 95 32       -- at '_' the walk writes the byte out
        have hu1 := bits_hi_u8 .or 95 32
        go_wp2_with (go_at_fn (ρ.f 19); refine (AnyPu.internal_strconv_lower { L with } _ _).mono ?_; rintro e w' ⟨rfl, rfl⟩)
        all_goals go_ret2
        all_goals first | exact ⟨rfl, rfl⟩ | exact ⟨by rw [hdec]; rfl, rfl⟩
    · -- THE BYTES ARE AT AN END
      have hkk : k = t.size := by omega
      subst hkk
      have hF : Lib.parseUintM 9223372036854775807 acc (bs.drop t.size) = .ok acc := by rw [List.drop_eq_nil_of_le (by omega)]; rfl
      rw [hF] at hdec
      subst ha
      clear hacc hF a0 a1
      go_wp2
      go_ret2
      exact ⟨rfl, rfl⟩



theorem AnyPu.internal_strconv_ParseUint_10_at63 (L : LaysPu.n16 P ρ) (t : ByteArray) (hmax : t.size ≤ 9223372036854775806) (w : World) :
    Calls P (ρ.f 16) #[.string t, .int .i64 10, .int .i64 63] w fun e w' => e = .returned (Lib.uintTupleM (ρ.t 34) 9223372036854775807 (Lib.parseUintB 63 t.data.toList)) ∧ (w' = w ∨ w' = Lib.bytesWorld w (ρ.t 5) t) := by
  have eM : (2 : Nat) ^ 63 - 1 = 9223372036854775807 := by decide
  by_cases h0 : t.size = 0
  · have ht : t = ⟨#[]⟩ := by
      apply ByteArray.ext
      exact Array.eq_empty_of_size_eq_zero h0
    subst ht
    exact (AnyPu.internal_strconv_ParseUint_empty { L with } 10 63 w).mono fun e w' ⟨he, hw⟩ => ⟨he, Or.inl hw⟩
  · have hne : t.data.toList ≠ [] := fun h => h0 (by rw [Lib.size_eq, h]; rfl)
    refine (AnyPu.internal_strconv_ParseUint_10_b63 { L with } t h0 hmax w).mono fun e w' ⟨he, hw⟩ => ⟨?_, Or.inr hw⟩
    rw [he, Lib.parseUintB, if_neg hne, eM]


set_option maxHeartbeats 4000000 in
set_option maxRecDepth 100000 in
theorem Any.strconv_ParseUint_10_at63_ok (L : LaysPu.n14 P ρ) (s : ByteArray) (hmax : s.size ≤ 9223372036854775806) (u : Nat) (h : Lib.parseUintB 63 s.data.toList = .ok u) (w : World) :
    Calls P (ρ.f 14) #[.string s, .int .i64 10, .int .i64 63] w fun e w' => e = .returned (.tuple #[.int .u64 u, .nilIface]) ∧ (w' = w ∨ w' = Lib.bytesWorld w (ρ.t 5) s) := by
  have mixed := L.mixed
  have t9 := L.t9; have a9 := L.a9; have z9 := L.z9; have v9 := L.v9
  have t3 := L.t3; have a3 := L.a3; have z3 := L.z3; have v3 := L.v3
  have t22 := L.t22; have a22 := L.a22; have z22 := L.z22; have v22 := L.v22
  have t24 := L.t24; have a24 := L.a24; have z24 := L.z24; have v24 := L.v24
  have t25 := L.t25; have a25 := L.a25; have z25 := L.z25; have v25 := L.v25
  have t4 := L.t4; have a4 := L.a4; have z4 := L.z4; have v4 := L.v4
  have e16 : ∀ args w, (callFunc (ρ.f 16) args).run P w = .ok (.enter (ρ.f 16) args) w := enters_of L.f16 (by kernel_rfl) rfl
  have hI := AnyPu.internal_strconv_ParseUint_10_at63 { L with } s hmax w
  rw [h] at hI
  have hI : Calls P (ρ.f 16) #[.string s, .int .i64 10, .int .i64 63] w fun e w' => e = .returned (.tuple #[.int .u64 u, .nilIface]) ∧ (w' = w ∨ w' = Lib.bytesWorld w (ρ.t 5) s) := hI
  clear h
  go_enter L.f14, BodyPu.n14_ntmps ρ
  go_wp2_with (go_at_fn (ρ.f 16); refine hI.mono ?_; rintro e W1 ⟨rfl, hW⟩)
  go_wp2
  go_ret2
  exact ⟨rfl, hW⟩

set_option maxHeartbeats 4000000 in
set_option maxRecDepth 100000 in
theorem Any.strconv_ParseUint_10_at63_syntax (L : LaysPu.n14 P ρ) (s : ByteArray) (hlim : s.size ≤ 281474976710656) (h : Lib.parseUintB 63 s.data.toList = Lib.NumEnd.syntax) (ev : Value) (w : World) (hv : w.cell? ⟨(ρ.g 0), 0, none⟩ = some ev) (hev : ev = .nilIface ∨ ∃ te pe, ev = .iface te pe) :
    Calls P (ρ.f 14) #[.string s, .int .i64 10, .int .i64 63] w fun e w' => ∃ N, e = .returned (.tuple #[.int .u64 0, .iface (ρ.t 39) (.pointer (some ⟨N, 0, none⟩))]) ∧ w.heap.size ≤ N ∧ w'.heap[N]? = some (.cells #[.string ⟨#[80, 97, 114, 115, 101, 85, 105, 110, 116]⟩, .string s, ev] (ρ.t 44) (0, 0)) ∧ Below w.heap.size w w' := by
  have mixed := L.mixed
  have t9 := L.t9; have a9 := L.a9; have z9 := L.z9; have v9 := L.v9
  have t3 := L.t3; have a3 := L.a3; have z3 := L.z3; have v3 := L.v3
  have t22 := L.t22; have a22 := L.a22; have z22 := L.z22; have v22 := L.v22
  have t24 := L.t24; have a24 := L.a24; have z24 := L.z24; have v24 := L.v24
  have t25 := L.t25; have a25 := L.a25; have z25 := L.z25; have v25 := L.v25
  have t4 := L.t4; have a4 := L.a4; have z4 := L.z4; have v4 := L.v4
  have e16 : ∀ args w, (callFunc (ρ.f 16) args).run P w = .ok (.enter (ρ.f 16) args) w := enters_of L.f16 (by kernel_rfl) rfl
  have e17 : ∀ args w, (callFunc (ρ.f 17) args).run P w = .ok (.enter (ρ.f 17) args) w := enters_of L.f17 (by kernel_rfl) rfl
  have hG : (ρ.g 0) < w.heap.size := Lib.lt_of_cell hv
  have hI := AnyPu.internal_strconv_ParseUint_10_at63 { L with } s (by omega) w
  rw [h] at hI
  have hI : Calls P (ρ.f 16) #[.string s, .int .i64 10, .int .i64 63] w fun e w' => e = .returned (.tuple #[.int .u64 0, .iface (ρ.t 34) (.int .i64 2)]) ∧ (w' = w ∨ w' = Lib.bytesWorld w (ρ.t 5) s) := hI
  clear h
  go_enter L.f14, BodyPu.n14_ntmps ρ
  go_wp2_with (go_at_fn (ρ.f 16); refine hI.mono ?_)
  rintro e W1 ⟨rfl, hW⟩
  have hb1 : Below w.heap.size w W1 := by
    rcases hW with rfl | rfl
    · exact Below.refl _ _
    · exact Lib.bytesWorld_below _ _ _
  have hv1 : W1.cell? ⟨(ρ.g 0), 0, none⟩ = some ev := (hb1.cell (show (⟨(ρ.g 0), 0, none⟩ : Addr).block < w.heap.size from hG)).trans hv
  clear hW
  go_wp2_with (go_at_fn (ρ.f 17); refine (AnyPu.strconv_toError_syntax { L with } ⟨#[80, 97, 114, 115, 101, 85, 105, 110, 116]⟩ s 10 63 ev _ hlim ?_ hev).mono ?_)
  · exact hv1
  rintro e W2 ⟨N, rfl, h1, h2, h3⟩
  go_wp2
  go_ret2
  exact ⟨N, rfl, Nat.le_trans hb1.size h1, h2, hb1.trans (h3.mono hb1.size)⟩

set_option maxHeartbeats 4000000 in
set_option maxRecDepth 100000 in
theorem Any.strconv_ParseUint_10_at63_range (L : LaysPu.n14 P ρ) (s : ByteArray) (hlim : s.size ≤ 281474976710656) (h : Lib.parseUintB 63 s.data.toList = .range) (ev : Value) (w : World) (hv : w.cell? ⟨(ρ.g 1), 0, none⟩ = some ev) (hev : ev = .nilIface ∨ ∃ te pe, ev = .iface te pe) :
    Calls P (ρ.f 14) #[.string s, .int .i64 10, .int .i64 63] w fun e w' => ∃ N, e = .returned (.tuple #[.int .u64 9223372036854775807, .iface (ρ.t 39) (.pointer (some ⟨N, 0, none⟩))]) ∧ w.heap.size ≤ N ∧ w'.heap[N]? = some (.cells #[.string ⟨#[80, 97, 114, 115, 101, 85, 105, 110, 116]⟩, .string s, ev] (ρ.t 44) (0, 0)) ∧ Below w.heap.size w w' := by
  have mixed := L.mixed
  have t9 := L.t9; have a9 := L.a9; have z9 := L.z9; have v9 := L.v9
  have t3 := L.t3; have a3 := L.a3; have z3 := L.z3; have v3 := L.v3
  have t22 := L.t22; have a22 := L.a22; have z22 := L.z22; have v22 := L.v22
  have t24 := L.t24; have a24 := L.a24; have z24 := L.z24; have v24 := L.v24
  have t25 := L.t25; have a25 := L.a25; have z25 := L.z25; have v25 := L.v25
  have t4 := L.t4; have a4 := L.a4; have z4 := L.z4; have v4 := L.v4
  have e16 : ∀ args w, (callFunc (ρ.f 16) args).run P w = .ok (.enter (ρ.f 16) args) w := enters_of L.f16 (by kernel_rfl) rfl
  have e17 : ∀ args w, (callFunc (ρ.f 17) args).run P w = .ok (.enter (ρ.f 17) args) w := enters_of L.f17 (by kernel_rfl) rfl
  have hG : (ρ.g 1) < w.heap.size := Lib.lt_of_cell hv
  have hI := AnyPu.internal_strconv_ParseUint_10_at63 { L with } s (by omega) w
  rw [h] at hI
  have hI : Calls P (ρ.f 16) #[.string s, .int .i64 10, .int .i64 63] w fun e w' => e = .returned (.tuple #[.int .u64 9223372036854775807, .iface (ρ.t 34) (.int .i64 1)]) ∧ (w' = w ∨ w' = Lib.bytesWorld w (ρ.t 5) s) := hI
  clear h
  go_enter L.f14, BodyPu.n14_ntmps ρ
  go_wp2_with (go_at_fn (ρ.f 16); refine hI.mono ?_)
  rintro e W1 ⟨rfl, hW⟩
  have hb1 : Below w.heap.size w W1 := by
    rcases hW with rfl | rfl
    · exact Below.refl _ _
    · exact Lib.bytesWorld_below _ _ _
  have hv1 : W1.cell? ⟨(ρ.g 1), 0, none⟩ = some ev := (hb1.cell (show (⟨(ρ.g 1), 0, none⟩ : Addr).block < w.heap.size from hG)).trans hv
  clear hW
  go_wp2_with (go_at_fn (ρ.f 17); refine (AnyPu.strconv_toError_range { L with } ⟨#[80, 97, 114, 115, 101, 85, 105, 110, 116]⟩ s 10 63 ev _ hlim ?_ hev).mono ?_)
  · exact hv1
  rintro e W2 ⟨N, rfl, h1, h2, h3⟩
  go_wp2
  go_ret2
  exact ⟨N, rfl, Nat.le_trans hb1.size h1, h2, hb1.trans (h3.mono hb1.size)⟩


end Go.Proofs

namespace Go.Proofs.Zd
open Go Go.Zam Go.Proofs
set_option maxRecDepth 100000
theorem tcf26 : compF Tryd.prog [7] Tryd.f26 = some (irTkLex 40 41 42 89 28) := by kernel_rfl
theorem h26 : HasT Tryd.prog [7] 26 (irTkLex 40 41 42 89 28) := ⟨_, Tryd.func26, tcf26⟩
theorem tcf54 : compF Tryd.prog [] Tryd.f54 = some (irTkIsKey 63 62) := by kernel_rfl
theorem h54 : Has Tryd.prog 54 (irTkIsKey 63 62) := ⟨_, Tryd.func54, tcf54⟩
theorem tcf40 : compF Tryd.prog [] Tryd.f40 = some (irRnBad 47) := by kernel_rfl
theorem h40 : Has Tryd.prog 40 (irRnBad 47) := ⟨_, Tryd.func40, tcf40⟩
theorem tcf41 : compF Tryd.prog [] Tryd.f41 = some (irScLead 48 49 50 51) := by kernel_rfl
theorem h41 : Has Tryd.prog 41 (irScLead 48 49 50 51) := ⟨_, Tryd.func41, tcf41⟩
theorem tcf42 : compF Tryd.prog [] Tryd.f42 = some (irScNext 48 52 53 54 55 56 57 58 28) := by kernel_rfl
theorem h42 : Has Tryd.prog 42 (irScNext 48 52 53 54 55 56 57 58 28) := ⟨_, Tryd.func42, tcf42⟩
theorem tcf62 : compF Tryd.prog [] Tryd.f62 = some (irSlHas 68) := by kernel_rfl
theorem h62 : Has Tryd.prog 62 (irSlHas 68) := ⟨_, Tryd.func62, tcf62⟩
theorem tcf68 : compF Tryd.prog [] Tryd.f68 = some (irSlIdx) := by kernel_rfl
theorem h68 : Has Tryd.prog 68 (irSlIdx) := ⟨_, Tryd.func68, tcf68⟩
theorem tcf63 : compF Tryd.prog [] Tryd.f63 = some (irTkKeys) := by kernel_rfl
theorem h63 : Has Tryd.prog 63 (irTkKeys) := ⟨_, Tryd.func63, tcf63⟩
theorem tcf52 : compF Tryd.prog [] Tryd.f52 = some (irLetter) := by kernel_rfl
theorem h52 : Has Tryd.prog 52 (irLetter) := ⟨_, Tryd.func52, tcf52⟩
theorem tcf55 : compF Tryd.prog [] Tryd.f55 = some (irDigit) := by kernel_rfl
theorem h55 : Has Tryd.prog 55 (irDigit) := ⟨_, Tryd.func55, tcf55⟩
theorem tcf48 : compF Tryd.prog [] Tryd.f48 = some (irScMore) := by kernel_rfl
theorem h48 : Has Tryd.prog 48 (irScMore) := ⟨_, Tryd.func48, tcf48⟩
theorem tcf49 : compF Tryd.prog [] Tryd.f49 = some (irTkBlank) := by kernel_rfl
theorem h49 : Has Tryd.prog 49 (irTkBlank) := ⟨_, Tryd.func49, tcf49⟩
theorem tcf50 : compF Tryd.prog [] Tryd.f50 = some (irScHash) := by kernel_rfl
theorem h50 : Has Tryd.prog 50 (irScHash) := ⟨_, Tryd.func50, tcf50⟩
theorem tcf51 : compF Tryd.prog [] Tryd.f51 = some (irScNoNl) := by kernel_rfl
theorem h51 : Has Tryd.prog 51 (irScNoNl) := ⟨_, Tryd.func51, tcf51⟩
theorem tcf53 : compF Tryd.prog [] Tryd.f53 = some (irScWord 48 61) := by kernel_rfl
theorem h53 : Has Tryd.prog 53 (irScWord 48 61) := ⟨_, Tryd.func53, tcf53⟩
theorem tcf61 : compF Tryd.prog [] Tryd.f61 = some (irScWordB 52 55) := by kernel_rfl
theorem h61 : Has Tryd.prog 61 (irScWordB 52 55) := ⟨_, Tryd.func61, tcf61⟩
theorem tcf57 : compF Tryd.prog [] Tryd.f57 = some (irScStr 65) := by kernel_rfl
theorem h57 : Has Tryd.prog 57 (irScStr 65) := ⟨_, Tryd.func57, tcf57⟩
theorem tcf58 : compF Tryd.prog [] Tryd.f58 = some (irScSign 66 67) := by kernel_rfl
theorem h58 : Has Tryd.prog 58 (irScSign 66 67) := ⟨_, Tryd.func58, tcf58⟩
theorem tcf65 : compF Tryd.prog [4] Tryd.f65 = some (irRnUnquote 71 72 37 77 5) := by kernel_rfl
theorem h65 : HasT Tryd.prog [4] 65 (irRnUnquote 71 72 37 77 5) := ⟨_, Tryd.func65, tcf65⟩
theorem tcf66 : compF Tryd.prog [] Tryd.f66 = some (irTkSigns) := by kernel_rfl
theorem h66 : Has Tryd.prog 66 (irTkSigns) := ⟨_, Tryd.func66, tcf66⟩
theorem tcf23 : compF Tryd.prog [] Tryd.f23 = some (irIsKey) := by kernel_rfl
theorem tcf8 : compF Tryd.prog [] Tryd.f8 = some (irIsName 23 24 25) := by kernel_rfl
theorem h8 : Has Tryd.prog 8 (irIsName 23 24 25) := ⟨_, Tryd.func8, tcf8⟩
theorem tcf24 : compF Tryd.prog [] Tryd.f24 = some (irDigit) := by kernel_rfl
theorem h24 : Has Tryd.prog 24 (irDigit) := ⟨_, Tryd.func24, tcf24⟩
theorem tcf25 : compF Tryd.prog [] Tryd.f25 = some (irLetter) := by kernel_rfl
theorem h25 : Has Tryd.prog 25 (irLetter) := ⟨_, Tryd.func25, tcf25⟩
end Go.Proofs.Zd

namespace Go.Proofs.Zd
open Go Go.Zam Go.Proofs Go.Shelf
set_option maxRecDepth 100000
def bldRen : Ren := ⟨fun n => match n with | 240 => 45 | 276 => 59 | 169 => 37 | n => n, fun t => match t with | 0 => 0 | 3 => 3 | 4 => 4 | 5 => 5 | 9 => 9 | 20 => 20 | 37 => 75 | 70 => 74 | 72 => 77 | 127 => 95 | 164 => 101 | n => n, fun g => g⟩

theorem lay240 : Lays.n240 Tryd.prog bldRen where
  mixed := by kernel_rfl
  f240 := Tryd.func45.trans (congrArg some (by kernel_rfl))
  f276 := Tryd.func59.trans (congrArg some (by kernel_rfl))
  t0 := by kernel_rfl
  a0 := Tryd.isAgg0
  z0 := fun _ => by kernel_rfl
  v0 := Tryd.zeroValue0
  t4 := by kernel_rfl
  a4 := Tryd.isAgg4
  z4 := fun _ => by kernel_rfl
  v4 := Tryd.zeroValue4
  t9 := by kernel_rfl
  a9 := Tryd.isAgg9
  z9 := fun _ => by kernel_rfl
  v9 := Tryd.zeroValue9
  t20 := by kernel_rfl
  a20 := Tryd.isAgg20
  z20 := fun _ => by kernel_rfl
  v20 := Tryd.zeroValue20
  t70 := by kernel_rfl
  a70 := Tryd.isAgg74
  z70 := fun _ => by kernel_rfl
  v70 := Tryd.zeroValue74
  t72 := by kernel_rfl
  a72 := Tryd.isAgg77
  z72 := fun _ => by kernel_rfl
  v72 := Tryd.zeroValue77
  t164 := by kernel_rfl
  a164 := Tryd.isAgg101
  z164 := fun _ => by kernel_rfl
  v164 := Tryd.zeroValue101
theorem lay169 : Lays.n169 Tryd.prog bldRen where
  mixed := by kernel_rfl
  f169 := Tryd.func37.trans (congrArg some (by kernel_rfl))
  t0 := by kernel_rfl
  a0 := Tryd.isAgg0
  z0 := fun _ => by kernel_rfl
  v0 := Tryd.zeroValue0
  t3 := by kernel_rfl
  a3 := Tryd.isAgg3
  z3 := fun _ => by kernel_rfl
  v3 := Tryd.zeroValue3
  t9 := by kernel_rfl
  a9 := Tryd.isAgg9
  z9 := fun _ => by kernel_rfl
  v9 := Tryd.zeroValue9
  t37 := by kernel_rfl
  a37 := Tryd.isAgg75
  z37 := fun _ => by kernel_rfl
  v37 := Tryd.zeroValue75
  t70 := by kernel_rfl
  a70 := Tryd.isAgg74
  z70 := fun _ => by kernel_rfl
  v70 := Tryd.zeroValue74
  t72 := by kernel_rfl
  a72 := Tryd.isAgg77
  z72 := fun _ => by kernel_rfl
  v72 := Tryd.zeroValue77
  t127 := by kernel_rfl
  a127 := Tryd.isAgg95
  z127 := fun _ => by kernel_rfl
  v127 := Tryd.zeroValue95
theorem bldExtra : Builder.Extra Tryd.prog bldRen where
  sizeBuilder := by kernel_rfl
  liesBuilder := by kernel_rfl
  t5 := by kernel_rfl
  a5 := Tryd.isAgg5
  z5 := fun _ => by kernel_rfl
  v5 := Tryd.zeroValue5
  infoByte := by kernel_rfl
  cellsByte := by kernel_rfl
  sizeByte := by kernel_rfl
  neB5 := by decide

theorem copyCheckOk {H : Hp} {i : Nat} {x a : A} (hi : H[i]? = some (.box 77 [a, x])) (ha : a = .d .nilp ∨ a = .ptr i 0) :
    ACall Tryd.prog 45 [.ptr i 0] H (fun r H' => r = .tup [] ∧ H' = H.set i (.box 77 [.ptr i 0, x])) := copyCheck_acall lay240 bldExtra.toX72 hi ha

theorem stringOk {H : Hp} {i t : Nat} {a : A} {s : List UInt8} (hi : H[i]? = some (.box 77 [a, .osl true 1 (byteRows s) t])) (ht : H[t]? = some (.tok s.length 1 5)) (hlen : s.length ≤ 4611686018427387904) :
    ACall Tryd.prog 37 [.ptr i 0] H (fun r H' => r = .d (.str s) ∧ H' = H) := string_acall lay169 bldExtra hi ht hlen
end Go.Proofs.Zd

namespace Go.Proofs.Zd
open Go Go.Zam Go.Proofs
open Go.RowKit (Below)
set_option maxRecDepth 100000
set_option linter.all false
set_option maxHeartbeats 1000000

theorem indexOk : IndexOk Tryd.prog 71 := fun s c H => by
  refine leaf (args := [.str s, .int .u8 c.toNat]) (x := .int .i64 (Lib.indexByte s c)) (fun w σ vs _ hl hv => ?_) H
  match vs, hl with
  | [v0, v1], _ =>
  have e0 := (hv 0 v0 _ rfl rfl).str_inv
  have e1 := (hv 1 v1 _ rfl rfl).int_inv
  subst e0; subst e1
  refine (Tryd.strings_IndexByte ⟨s.toArray⟩ c.toNat w).mono ?_
  rintro e w' ⟨rfl, rfl⟩
  refine ⟨_, rfl, Below.refl _ _, fun σ => ?_⟩
  have : (Int.toNat (c.toNat : Int)).toUInt8 = c := by simp
  rw [this]
  exact .int _ _

theorem prefixOk : PrefixOk Tryd.prog 67 := fun s p H => by
  refine leaf (args := [.str s, .str p]) (x := .bool (p.isPrefixOf s)) (fun w σ vs _ hl hv => ?_) H
  match vs, hl with
  | [v0, v1], _ =>
  have e0 := (hv 0 v0 _ rfl rfl).str_inv
  have e1 := (hv 1 v1 _ rfl rfl).str_inv
  subst e0; subst e1
  refine (Tryd.strings_HasPrefix ⟨s.toArray⟩ ⟨p.toArray⟩ w).mono ?_
  rintro e w' ⟨rfl, rfl⟩
  exact ⟨_, rfl, Below.refl _ _, fun σ => .bool _⟩

theorem decodeOk {H0 : Hp} (hG : TabsG 0 1 2 3 H0) : DecodeOk Tryd.prog H0 47 := fun s H hp => by
  refine leafG (args := [.str s]) hG (fun w σ vs hT hl hv => ?_) H hp
  match vs, hl with
  | [v0], _ =>
  have e0 := (hv 0 v0 _ rfl rfl).str_inv
  subst e0
  refine (Tryd.utf8_DecodeRuneInString ⟨s.toArray⟩ w hT.1).mono ?_
  rintro e w' ⟨rfl, hb⟩
  refine ⟨_, rfl, hb, fun κ => ?_⟩
  rw [decodeGo_eq]
  refine VR.tup [_, _] [_, _] rfl fun i v a hi ha => ?_
  match i with
  | 0 => cases hi; cases ha; exact .d (.int _ _)
  | 1 => cases hi; cases ha; exact .d (.int _ _)
  | i + 2 => cases hi

theorem numberCalls (s : ByteArray) (hlim : s.size ≤ 1048576) (w : World) (h0 : ∃ te pe, w.cell? ⟨2, 0, none⟩ = some (.iface te pe)) (h1 : ∃ te pe, w.cell? ⟨3, 0, none⟩ = some (.iface te pe)) :
    Calls Tryd.prog 56 #[.string s] w fun e w' => e = .returned (.int .i64 (if numOk s.data.toList then 0 else 23)) ∧ Below w.heap.size w w' := by
  obtain ⟨t0, p0, h0⟩ := h0
  obtain ⟨t1, p1, h1⟩ := h1
  rcases h : Lib.parseUintB 63 s.data.toList with u | _ | _
  · have hr : numOk s.data.toList = true := by simp only [numOk, h]
    rw [hr]
    go_enter Tryd.func56, Tryd.ntmps56
    go_wp2_with (go_at_call 64; refine (Any.strconv_ParseUint_10_at63_ok Tryd.laysPu14 s (by omega) u h _).mono ?_; rintro e w' ⟨rfl, hw⟩)
    go_wp2
    go_ret
    refine ⟨by first | rfl | (congr 2; omega), ?_⟩
    rcases hw with rfl | rfl
    · exact Below.refl _ _
    · exact Lib.bytesWorld_below _ _ _
  · have hr : numOk s.data.toList = false := by simp only [numOk, h]
    rw [hr]
    go_enter Tryd.func56, Tryd.ntmps56
    go_wp2_with (go_at_call 64; refine (Any.strconv_ParseUint_10_at63_syntax Tryd.laysPu14 s (by omega) h (.iface t0 p0) _ ?_ (.inr ⟨_, _, rfl⟩)).mono ?_)
    · exact h0
    rintro e W1 ⟨N, rfl, -, -, hb⟩
    go_wp2
    go_ret
    exact ⟨rfl, hb⟩
  · have hr : numOk s.data.toList = false := by simp only [numOk, h]
    rw [hr]
    go_enter Tryd.func56, Tryd.ntmps56
    go_wp2_with (go_at_call 64; refine (Any.strconv_ParseUint_10_at63_range Tryd.laysPu14 s (by omega) h (.iface t1 p1) _ ?_ (.inr ⟨_, _, rfl⟩)).mono ?_)
    · exact h1
    rintro e W1 ⟨N, rfl, -, -, hb⟩
    go_wp2
    go_ret
    exact ⟨rfl, hb⟩

theorem numberOk {H0 : Hp} (hG : TabsG 0 1 2 3 H0) : NumOk Tryd.prog H0 56 := fun s H hp hl => by
  refine leafG (args := [.str s]) (x := .d _) hG (fun w σ vs hT hl' hv => ?_) H hp
  match vs, hl' with
  | [v0], _ =>
  have e0 := (hv 0 v0 _ rfl rfl).str_inv
  subst e0
  refine (numberCalls ⟨s.toArray⟩ (by simpa [ByteArray.size] using hl) w hT.2.1 hT.2.2).mono ?_
  rintro e w' ⟨rfl, hb⟩
  exact ⟨_, rfl, hb, fun κ => .d (.int _ _)⟩

theorem cfWB : compF Tryd.prog [] Tryd.f72 = some (irWriteByte 45 5) := by kernel_rfl
theorem copyOk : CopyOk Tryd.prog 45 77 := fun H i x a hi ha => copyCheckOk hi ha
theorem writeBOk : WriteBOk Tryd.prog 72 77 := fun H i t a bs c => writeByte_acall Tryd.func72 cfWB copyOk H i t a bs c
theorem stringOk' : StringOk Tryd.prog 37 77 := fun H i t a s hi ht hl => stringOk hi ht (by omega)
theorem unquoteOk (s : Bs) (H : Hp) (hs : s.length ≤ 1048576) : ACall Tryd.prog 65 [.d (.str s)] H (fun r H' => r = unqR (unqV s) ∧ H' = H) := h65.unquote indexOk writeBOk stringOk' s hs H

theorem letterOk : ByteOk Tryd.prog 52 letterB := h52.letter
theorem digitOk : ByteOk Tryd.prog 55 digitB := h55.digit
theorem isKeyOk (s : Bs) (H : Hp) : ACall Tryd.prog 54 [.d (.str s)] H (fun r H' => r = .d (.bool (decide (s ∈ keysL))) ∧ H' = H) := h54.isKey h63 h62 h68 s H
theorem wordOk {H : Hp} {i : Nat} {ts : TypeId} {text : Bs} {n : Nat} (hi : H[i]? = some (scan ts text n)) (hn : n ≤ text.length) (hl : text.length ≤ 1048576) :
    ACall Tryd.prog 53 [.ptr i 0] H (fun r H' => r = .d (.str ((text.drop n).take (Zam.runN Zam.wordB (text.drop n)))) ∧ H' = H.set i (scan ts text (n + Zam.runN Zam.wordB (text.drop n)))) :=
  h53.word h48 (by kernel_rfl) (h61.wordB letterOk digitOk) hi hn (by omega)
theorem leadOk {H : Hp} {i : Nat} {text : Bs} {n : Nat} (hi : H[i]? = some (scan 89 text n)) (hn : n ≤ text.length) (hl : text.length ≤ 1048576) :
    ACall Tryd.prog 41 [.ptr i 0] H (fun r H' => r = .d (.str ((text.drop n).take (leadS false (text.drop n)))) ∧ H' = H.set i (scan 89 text (n + leadS false (text.drop n)))) :=
  h41.lead h48 (by kernel_rfl) h49.blank (by kernel_rfl) h50.hash (by kernel_rfl) h51.noNl hi hn (by omega)
theorem nextOk {H0 : Hp} (hG : TabsG 0 1 2 3 H0) {H : Hp} {i : Nat} {text : Bs} {n : Nat} (hH : Pre0 H0 H) (h0i : H0.length ≤ i) (hi : H[i]? = some (scan 89 text n)) (hn : n ≤ text.length) (hl : text.length ≤ 1048576) :
    ACall Tryd.prog 42 [.ptr i 0] H (NextQ H i 89 text n (text.drop n) (tokN (text.drop n))) :=
  h42.next h48 (by kernel_rfl) letterOk (by kernel_rfl) digitOk wordOk isKeyOk (numberOk hG) (fun hi hn hl => h57.str unquoteOk hi hn hl) (fun hi hn hl => h58.sign h66 prefixOk hi hn (by omega)) hH h0i hi hn hl
theorem badOk {H0 : Hp} (hG : TabsG 0 1 2 3 H0) (s : Bs) (H : Hp) (hs : s.length ≤ 1048576) (hH : Pre0 H0 H) : ACall Tryd.prog 40 [.d (.str s)] H (fun r H' => r = .d (.int .i64 (badS s)) ∧ H' = H) := h40.bad (decodeOk hG) s hs H hH
theorem lexOk {H0 : Hp} (hG : TabsG 0 1 2 3 H0) (s : Bs) (hs : s.length ≤ 1048576) (H : Hp) (hH : Pre0 H0 H) :
    ACall Tryd.prog 26 [.d (.str s)] H (fun r H' => r = .tup [.d (.sl true 4 ((lexS s).1.map encTk)), .d (.int .i64 (lexS s).2.1), .d (.int .i64 (lexS s).2.2)] ∧ H' = H) :=
  h26.lex (badOk hG) leadOk (nextOk hG) s hs H hH
theorem rdigitOk : ByteOk Tryd.prog 24 digitB := h24.digit
theorem rletterOk : ByteOk Tryd.prog 25 letterB := h25.letter
theorem risKeyOk (s : Bs) (H : Hp) : ACall Tryd.prog 23 [.d (.str s)] H (fun r H' => r = .d (.bool (decide (s ∈ keysL))) ∧ H' = H) := isKey_acall Tryd.func23 tcf23 s H
end Go.Proofs.Zd

namespace Go.Proofs.Zd
open Go Go.Zam Go.Proofs
set_option maxRecDepth 100000
/- whetstone/whetstonelaw05.DeltaNames -/
/- whetstone/whetstonelaw05.DeltaLeast -/
def ir4 : IFn :=
 { nt := 161, res := [.t 4], body := (
  .seq (.ops [
    ⟨(some 4), none, .mv (.c (.bool false))⟩] false)
  (.seq (.ops [
    ⟨(some 20), none, .mv (.t 0)⟩,
    ⟨(some 21), none, .mv (.t 1)⟩,
    ⟨(some 22), none, .call 12 [(.t 20), (.t 21)]⟩,
    ⟨(some 19), none, .mv (.t 22)⟩,
    ⟨(some 23), none, .ext (.t 19) 0⟩,
    ⟨(some 24), none, .ext (.t 19) 1⟩,
    ⟨(some 25), none, .ext (.t 19) 2⟩,
    ⟨(some 5), none, .mv (.t 23)⟩,
    ⟨(some 6), none, .mv (.t 24)⟩,
    ⟨(some 7), none, .mv (.t 25)⟩] false)
  (.seq (.seq (.ops [
     ⟨(some 26), none, .mv (.t 7)⟩,
     ⟨(some 27), none, .un .not (.t 26)⟩,
     ⟨(some 28), none, .mv (.t 27)⟩,
     ⟨(some 29), (some (28, false)), .mv (.t 5)⟩,
     ⟨(some 30), (some (28, false)), .lenL (.t 29)⟩,
     ⟨(some 31), (some (28, false)), .mv (.t 6)⟩,
     ⟨(some 32), (some (28, false)), .lenL (.t 31)⟩,
     ⟨(some 33), (some (28, false)), .bin .add (.t 30) (.t 32)⟩,
     ⟨(some 34), (some (28, false)), .bin .gtr (.t 33) (.c (.int .i64 200))⟩,
     ⟨(some 35), none, .pick (.t 28) (.c (.bool true)) (.t 34)⟩] false)
   (.cond (.t 35) (.seq (.ops [
      ⟨(some 36), none, .call 9 []⟩,
      ⟨(some 4), none, .mv (.t 36)⟩] false)
    (.ret))
   (.skip)))
  (.seq (.ops [
    ⟨(some 37), none, .mv (.t 5)⟩,
    ⟨(some 38), none, .call 13 [(.t 37)]⟩,
    ⟨(some 39), none, .mv (.t 6)⟩,
    ⟨(some 40), none, .call 13 [(.t 39)]⟩,
    ⟨(some 8), none, .mv (.t 38)⟩,
    ⟨(some 9), none, .mv (.t 40)⟩] false)
  (.seq (.ops [
    ⟨(some 41), none, .mv (.t 8)⟩,
    ⟨(some 42), none, .mv (.t 9)⟩,
    ⟨(some 43), none, .call 14 [(.t 41), (.t 42)]⟩,
    ⟨(some 10), none, .mv (.t 43)⟩] false)
  (.seq (.ops [
    ⟨(some 44), none, .mv (.t 8)⟩,
    ⟨(some 45), none, .lenL (.t 44)⟩,
    ⟨(some 11), none, .mv (.t 45)⟩,
    ⟨(some 12), none, .mv (.c (.int .i64 0))⟩] false)
  (.seq (.seq (.ops [
     ⟨(some 46), none, .mv (.t 5)⟩,
     ⟨(some 47), none, .mv (.t 6)⟩,
     ⟨(some 48), none, .call 11 [(.t 46), (.t 47)]⟩,
     ⟨(some 49), none, .lenL (.t 48)⟩,
     ⟨(some 50), none, .mv (.c (.int .i64 0))⟩] false)
   (.blk 0 (.loop (.seq (.ops [
       ⟨(some 51), none, .bin .lss (.t 50) (.t 49)⟩] false)
     (.seq (.cond (.t 51) (.skip)
      (.exit 0))
     (.seq (.blk 1 (.seq (.ops [
         ⟨(some 52), none, .iaddr 3 (.t 48) (.t 50)⟩,
         ⟨(some 53), none, .load 3 true (.t 52)⟩,
         ⟨(some 14), none, .alloc 31 [(.int .i64 0), (.int .i64 0), (.str [])]⟩,
         ⟨none, none, .store 3 (.t 14) (.t 53)⟩] false)
       (.seq (.ops [
         ⟨(some 55), none, .mv (.t 8)⟩,
         ⟨(some 56), none, .faddr 0 (.t 14)⟩,
         ⟨(some 57), none, .load 1 false (.t 56)⟩,
         ⟨(some 58), none, .faddr 1 (.t 14)⟩,
         ⟨(some 59), none, .load 1 false (.t 58)⟩,
         ⟨(some 60), none, .call 15 [(.t 55), (.t 57), (.t 59)]⟩,
         ⟨(some 54), none, .mv (.t 60)⟩,
         ⟨(some 61), none, .ext (.t 54) 0⟩,
         ⟨(some 62), none, .ext (.t 54) 1⟩,
         ⟨(some 15), none, .mv (.t 61)⟩,
         ⟨(some 16), none, .mv (.t 62)⟩] false)
       (.seq (.ops [
         ⟨(some 64), none, .mv (.t 9)⟩,
         ⟨(some 65), none, .faddr 0 (.t 14)⟩,
         ⟨(some 66), none, .load 1 false (.t 65)⟩,
         ⟨(some 67), none, .mv (.t 12)⟩,
         ⟨(some 68), none, .bin .add (.t 66) (.t 67)⟩,
         ⟨(some 69), none, .faddr 0 (.t 14)⟩,
         ⟨(some 70), none, .load 1 false (.t 69)⟩,
         ⟨(some 71), none, .mv (.t 12)⟩,
         ⟨(some 72), none, .bin .add (.t 70) (.t 71)⟩,
         ⟨(some 73), none, .faddr 2 (.t 14)⟩,
         ⟨(some 74), none, .load 1 false (.t 73)⟩,
         ⟨(some 75), none, .lenS (.t 74)⟩,
         ⟨(some 76), none, .bin .add (.t 72) (.t 75)⟩,
         ⟨(some 77), none, .call 15 [(.t 64), (.t 68), (.t 76)]⟩,
         ⟨(some 63), none, .mv (.t 77)⟩,
         ⟨(some 78), none, .ext (.t 63) 0⟩,
         ⟨(some 79), none, .ext (.t 63) 1⟩,
         ⟨(some 17), none, .mv (.t 78)⟩,
         ⟨(some 18), none, .mv (.t 79)⟩] false)
       (.seq (.seq (.ops [
          ⟨(some 80), none, .mv (.t 16)⟩,
          ⟨(some 81), none, .un .not (.t 80)⟩,
          ⟨(some 82), none, .mv (.t 81)⟩,
          ⟨(some 83), (some (82, false)), .mv (.t 18)⟩,
          ⟨(some 84), (some (82, false)), .un .not (.t 83)⟩,
          ⟨(some 85), none, .pick (.t 82) (.c (.bool true)) (.t 84)⟩,
          ⟨(some 86), none, .mv (.t 85)⟩,
          ⟨(some 87), (some (86, false)), .mv (.t 8)⟩,
          ⟨(some 88), (some (86, false)), .faddr 0 (.t 14)⟩,
          ⟨(some 89), (some (86, false)), .load 1 false (.t 88)⟩,
          ⟨(some 90), (some (86, false)), .call 16 [(.t 87), (.t 89)]⟩,
          ⟨(some 91), (some (86, false)), .un .not (.t 90)⟩,
          ⟨(some 92), none, .pick (.t 86) (.c (.bool true)) (.t 91)⟩,
          ⟨(some 93), none, .mv (.t 92)⟩,
          ⟨(some 94), (some (93, false)), .mv (.t 8)⟩,
          ⟨(some 95), (some (93, false)), .faddr 1 (.t 14)⟩,
          ⟨(some 96), (some (93, false)), .load 1 false (.t 95)⟩,
          ⟨(some 97), (some (93, false)), .call 16 [(.t 94), (.t 96)]⟩,
          ⟨(some 98), (some (93, false)), .un .not (.t 97)⟩,
          ⟨(some 99), none, .pick (.t 93) (.c (.bool true)) (.t 98)⟩] false)
        (.cond (.t 99) (.seq (.ops [
           ⟨(some 4), none, .mv (.c (.bool false))⟩] false)
         (.ret))
        (.skip)))
       (.seq (.seq (.ops [
          ⟨(some 100), none, .mv (.t 15)⟩,
          ⟨(some 101), none, .lenL (.t 100)⟩,
          ⟨(some 102), none, .bin .gtr (.t 101) (.c (.int .i64 0))⟩,
          ⟨(some 103), none, .mv (.t 102)⟩,
          ⟨(some 104), (some (103, true)), .mv (.t 17)⟩,
          ⟨(some 105), (some (103, true)), .lenL (.t 104)⟩,
          ⟨(some 106), (some (103, true)), .bin .gtr (.t 105) (.c (.int .i64 0))⟩,
          ⟨(some 107), none, .pick (.t 103) (.t 106) (.c (.bool false))⟩,
          ⟨(some 108), none, .mv (.t 107)⟩,
          ⟨(some 109), (some (108, true)), .mv (.t 15)⟩,
          ⟨(some 110), (some (108, true)), .iaddr 1 (.t 109) (.c (.int .i64 0))⟩,
          ⟨(some 111), (some (108, true)), .load 1 false (.t 110)⟩,
          ⟨(some 112), (some (108, true)), .mv (.t 17)⟩,
          ⟨(some 113), (some (108, true)), .iaddr 1 (.t 112) (.c (.int .i64 0))⟩,
          ⟨(some 114), (some (108, true)), .load 1 false (.t 113)⟩,
          ⟨(some 115), (some (108, true)), .bin .eql (.t 111) (.t 114)⟩,
          ⟨(some 116), (some (108, true)), .mv (.t 115)⟩,
          ⟨(some 117), (some (116, false)), .mv (.t 15)⟩,
          ⟨(some 118), (some (116, false)), .mv (.t 15)⟩,
          ⟨(some 119), (some (116, false)), .lenL (.t 118)⟩,
          ⟨(some 120), (some (116, false)), .bin .sub (.t 119) (.c (.int .i64 1))⟩,
          ⟨(some 121), (some (116, false)), .iaddr 1 (.t 117) (.t 120)⟩,
          ⟨(some 122), (some (116, false)), .load 1 false (.t 121)⟩,
          ⟨(some 123), (some (116, false)), .mv (.t 17)⟩,
          ⟨(some 124), (some (116, false)), .mv (.t 17)⟩,
          ⟨(some 125), (some (116, false)), .lenL (.t 124)⟩,
          ⟨(some 126), (some (116, false)), .bin .sub (.t 125) (.c (.int .i64 1))⟩,
          ⟨(some 127), (some (116, false)), .iaddr 1 (.t 123) (.t 126)⟩,
          ⟨(some 128), (some (116, false)), .load 1 false (.t 127)⟩,
          ⟨(some 129), (some (116, false)), .bin .eql (.t 122) (.t 128)⟩,
          ⟨(some 130), (some (108, true)), .pick (.t 116) (.c (.bool true)) (.t 129)⟩,
          ⟨(some 131), none, .pick (.t 108) (.t 130) (.c (.bool false))⟩] true)
        (.cond (.t 131) (.seq (.ops [
           ⟨(some 4), none, .mv (.c (.bool false))⟩] false)
         (.ret))
        (.skip)))
       (.seq (.ops [
         ⟨(some 132), none, .mv (.t 11)⟩,
         ⟨(some 133), none, .mv (.t 15)⟩,
         ⟨(some 134), none, .lenL (.t 133)⟩,
         ⟨(some 135), none, .bin .sub (.t 132) (.t 134)⟩,
         ⟨(some 11), none, .mv (.t 135)⟩] false)
       (.ops [
        ⟨(some 136), none, .mv (.t 12)⟩,
        ⟨(some 137), none, .faddr 2 (.t 14)⟩,
        ⟨(some 138), none, .load 1 false (.t 137)⟩,
        ⟨(some 139), none, .lenS (.t 138)⟩,
        ⟨(some 140), none, .faddr 1 (.t 14)⟩,
        ⟨(some 141), none, .load 1 false (.t 140)⟩,
        ⟨(some 142), none, .faddr 0 (.t 14)⟩,
        ⟨(some 143), none, .load 1 false (.t 142)⟩,
        ⟨(some 144), none, .bin .sub (.t 141) (.t 143)⟩,
        ⟨(some 145), none, .bin .sub (.t 139) (.t 144)⟩,
        ⟨(some 146), none, .bin .add (.t 136) (.t 145)⟩,
        ⟨(some 12), none, .mv (.t 146)⟩] false))))))))
     (.ops [
      ⟨(some 147), none, .bin .add (.t 50) (.c (.int .i64 1))⟩,
      ⟨(some 50), none, .mv (.t 147)⟩] false)))))))
  (.seq (.ops [
    ⟨(some 148), none, .call 9 []⟩,
    ⟨(some 149), none, .mv (.t 148)⟩,
    ⟨(some 150), (some (149, true)), .mv (.t 11)⟩,
    ⟨(some 151), (some (149, true)), .mv (.t 10)⟩,
    ⟨(some 152), (some (149, true)), .bin .eql (.t 150) (.t 151)⟩,
    ⟨(some 153), none, .pick (.t 149) (.t 152) (.c (.bool false))⟩,
    ⟨(some 154), none, .mv (.t 153)⟩,
    ⟨(some 155), (some (154, true)), .mv (.t 5)⟩,
    ⟨(some 156), (some (154, true)), .mv (.t 6)⟩,
    ⟨(some 157), (some (154, true)), .call 17 [(.t 155), (.t 156)]⟩,
    ⟨(some 158), (some (154, true)), .mv (.t 10)⟩,
    ⟨(some 159), (some (154, true)), .bin .eql (.t 157) (.t 158)⟩,
    ⟨(some 160), none, .pick (.t 154) (.t 159) (.c (.bool false))⟩,
    ⟨(some 4), none, .mv (.t 160)⟩] false)
  (.ret))))))))) }
theorem cf4 : compF Tryd.prog [] Tryd.f4 = some ir4 := by kernel_rfl
/- whetstone/whetstonelaw05.DeltaTurns -/
/- whetstone/whetstonelaw05.DeltaMakes -/
/- whetstone/whetstonelaw05.awake -/
def ir9 : IFn :=
 { nt := 31, res := [.t 0], body := (
  .seq (.ops [
    ⟨(some 0), none, .mv (.c (.bool false))⟩] false)
  (.seq (.ops [
    ⟨(some 9), none, .call 26 [(.c (.str [97, 32, 98]))]⟩,
    ⟨(some 8), none, .mv (.t 9)⟩,
    ⟨(some 10), none, .ext (.t 8) 0⟩,
    ⟨(some 11), none, .ext (.t 8) 1⟩,
    ⟨(some 12), none, .ext (.t 8) 2⟩,
    ⟨(some 1), none, .mv (.t 10)⟩,
    ⟨(some 2), none, .mv (.t 11)⟩,
    ⟨(some 3), none, .mv (.t 12)⟩] false)
  (.seq (.ops [
    ⟨(some 14), none, .call 26 [(.c (.str [97, 32, 99]))]⟩,
    ⟨(some 13), none, .mv (.t 14)⟩,
    ⟨(some 15), none, .ext (.t 13) 0⟩,
    ⟨(some 16), none, .ext (.t 13) 1⟩,
    ⟨(some 17), none, .ext (.t 13) 2⟩,
    ⟨(some 4), none, .mv (.t 15)⟩,
    ⟨(some 5), none, .mv (.t 16)⟩,
    ⟨(some 6), none, .mv (.t 17)⟩] false)
  (.seq (.ops [
    ⟨(some 18), none, .mv (.t 1)⟩,
    ⟨(some 19), none, .mv (.t 4)⟩,
    ⟨(some 20), none, .call 11 [(.t 18), (.t 19)]⟩,
    ⟨(some 7), none, .mv (.t 20)⟩] false)
  (.seq (.ops [
    ⟨(some 21), none, .mv (.t 7)⟩,
    ⟨(some 22), none, .lenL (.t 21)⟩,
    ⟨(some 23), none, .bin .eql (.t 22) (.c (.int .i64 1))⟩,
    ⟨(some 24), none, .mv (.t 23)⟩,
    ⟨(some 25), (some (24, true)), .mv (.t 7)⟩,
    ⟨(some 26), (some (24, true)), .iaddr 3 (.t 25) (.c (.int .i64 0))⟩,
    ⟨(some 27), (some (24, true)), .load 3 true (.t 26)⟩,
    ⟨(some 28), (some (24, true)), .build [(.int .i64 0), (.int .i64 0), (.str [])] [(0, 1, (.c (.int .i64 2))), (1, 1, (.c (.int .i64 3))), (2, 1, (.c (.str [99])))]⟩,
    ⟨(some 29), (some (24, true)), .eqA false [(.int .i64 0), (.int .i64 0), (.str [])] (.t 27) (.t 28)⟩,
    ⟨(some 30), none, .pick (.t 24) (.t 29) (.c (.bool false))⟩,
    ⟨(some 0), none, .mv (.t 30)⟩] false)
  (.ret)))))) }
theorem cf9 : compF Tryd.prog [] Tryd.f9 = some ir9 := by kernel_rfl
/- whetstone/whetstoneref02.Same -/
/- whetstone/delta.Between -/
/- whetstone/whetstonelaw05.both -/
def ir12 : IFn :=
 { nt := 41, res := [.t 4, .t 5, .t 6], body := (
  .seq (.ops [
    ⟨(some 4), none, .mv (.c (.sl true 4 []))⟩,
    ⟨(some 5), none, .mv (.c (.sl true 4 []))⟩,
    ⟨(some 6), none, .mv (.c (.bool false))⟩] false)
  (.seq (.ops [
    ⟨(some 14), none, .mv (.t 0)⟩,
    ⟨(some 15), none, .call 7 [(.t 14)]⟩,
    ⟨(some 13), none, .mv (.t 15)⟩,
    ⟨(some 16), none, .ext (.t 13) 0⟩,
    ⟨(some 17), none, .ext (.t 13) 1⟩,
    ⟨(some 18), none, .ext (.t 13) 2⟩,
    ⟨(some 7), none, .mv (.t 16)⟩,
    ⟨(some 8), none, .mv (.t 17)⟩,
    ⟨(some 9), none, .mv (.t 18)⟩] false)
  (.seq (.ops [
    ⟨(some 20), none, .mv (.t 1)⟩,
    ⟨(some 21), none, .call 7 [(.t 20)]⟩,
    ⟨(some 19), none, .mv (.t 21)⟩,
    ⟨(some 22), none, .ext (.t 19) 0⟩,
    ⟨(some 23), none, .ext (.t 19) 1⟩,
    ⟨(some 24), none, .ext (.t 19) 2⟩,
    ⟨(some 10), none, .mv (.t 22)⟩,
    ⟨(some 11), none, .mv (.t 23)⟩,
    ⟨(some 12), none, .mv (.t 24)⟩] false)
  (.seq (.ops [
    ⟨(some 25), none, .mv (.t 7)⟩,
    ⟨(some 26), none, .mv (.t 10)⟩,
    ⟨(some 27), none, .mv (.t 8)⟩,
    ⟨(some 28), none, .bin .eql (.t 27) (.c (.int .i64 0))⟩,
    ⟨(some 29), none, .mv (.t 28)⟩,
    ⟨(some 30), (some (29, true)), .mv (.t 11)⟩,
    ⟨(some 31), (some (29, true)), .bin .eql (.t 30) (.c (.int .i64 0))⟩,
    ⟨(some 32), none, .pick (.t 29) (.t 31) (.c (.bool false))⟩,
    ⟨(some 33), none, .mv (.t 32)⟩,
    ⟨(some 34), (some (33, true)), .mv (.t 0)⟩,
    ⟨(some 35), (some (33, true)), .lenS (.t 34)⟩,
    ⟨(some 36), (some (33, true)), .mv (.t 1)⟩,
    ⟨(some 37), (some (33, true)), .lenS (.t 36)⟩,
    ⟨(some 38), (some (33, true)), .bin .add (.t 35) (.t 37)⟩,
    ⟨(some 39), (some (33, true)), .bin .leq (.t 38) (.c (.int .i64 4000))⟩,
    ⟨(some 40), none, .pick (.t 33) (.t 39) (.c (.bool false))⟩,
    ⟨(some 4), none, .mv (.t 25)⟩,
    ⟨(some 5), none, .mv (.t 26)⟩,
    ⟨(some 6), none, .mv (.t 40)⟩] false)
  (.ret))))) }
theorem cf12 : compF Tryd.prog [] Tryd.f12 = some ir12 := by kernel_rfl
/- whetstone/whetstoneref05.Units -/
/- whetstone/whetstoneref05.Most -/
/- whetstone/whetstoneref05.Cut -/
/- whetstone/whetstoneref05.Ends -/
/- whetstone/delta.Kept -/
/- whetstone/whetstoneref02.Apply -/
/- whetstone/whetstoneref02.Sound -/
/- whetstone/edit.Apply -/
/- whetstone/edit.Sound -/
/- whetstone/delta.units -/
/- whetstone/delta.alike -/
/- whetstone/delta.tail -/
/- whetstone/delta.end -/
/- whetstone/delta.edits -/
/- whetstone/delta.runs -/
/- whetstone/delta.table -/
/- whetstone/delta.edits$1 -/
/- whetstone/delta.text -/
end Go.Proofs.Zd

namespace Go.Proofs.Zd
open Go Go.Zam Go.Proofs
set_option maxRecDepth 100000
set_option linter.all false
set_option maxHeartbeats 1000000

theorem dcf7 : compF Tryd.prog [6] Tryd.f7 = some (irR4Lex 20 21 22 28) := by kernel_rfl
theorem dcf20 : compF Tryd.prog [] Tryd.f20 = some (irR3Bad 38) := by kernel_rfl
theorem dcf21 : compF Tryd.prog [] Tryd.f21 = some (irR4Lead) := by kernel_rfl
theorem dcf22 : compF Tryd.prog [] Tryd.f22 = some (irR4One 25 24 23 39) := by kernel_rfl
theorem dcf38 : compF Tryd.prog [] Tryd.f38 = some (irR3Next 46) := by kernel_rfl
theorem dcf39 : compF Tryd.prog [] Tryd.f39 = some (irR3Unquote) := by kernel_rfl
theorem dcf46 : compF Tryd.prog [] Tryd.f46 = some (irR3More) := by kernel_rfl
theorem dcf11 : compF Tryd.prog [] Tryd.f11 = some (irDBetween 27 28 29 30 32 31) := by kernel_rfl
theorem dcf17 : compF Tryd.prog [] Tryd.f17 = some (irDKept 27 28 29 33) := by kernel_rfl
theorem dcf27 : compF Tryd.prog [3] Tryd.f27 = some (irDUnits 62 28) := by kernel_rfl
theorem dcf28 : compF Tryd.prog [] Tryd.f28 = some (irDAlike) := by kernel_rfl
theorem dcf29 : compF Tryd.prog [] Tryd.f29 = some (irDTail) := by kernel_rfl
theorem dcf30 : compF Tryd.prog [] Tryd.f30 = some (irDEnd 62) := by kernel_rfl
theorem dcf31 : compF Tryd.prog [9] Tryd.f31 = some (irDEdits 43 44 57 3 31 67) := by kernel_rfl
theorem dcf32 : compF Tryd.prog [6] Tryd.f32 = some (irDRuns 33 67) := by kernel_rfl
theorem dcf33 : compF Tryd.prog [] Tryd.f33 = some (irDTable) := by kernel_rfl
theorem dcf43 : compF Tryd.prog [] Tryd.f43 = some (irDPlace) := by kernel_rfl
theorem dcf44 : compF Tryd.prog [3] Tryd.f44 = some (irDText 36 37 77 5 62) := by kernel_rfl
theorem dcf36 : compF Tryd.prog [] Tryd.f36 = some (irWrite 45) := by kernel_rfl
theorem lex4Ok (s : Bs) (hs : s.length ≤ 1048576) (H : Hp) :
    ACall Tryd.prog 7 [.d (.str s)] H (fun r H' => r = .tup [.d (.sl true 4 ((lexS s).1.map encTk)), .d (.int .i64 (lexS s).2.1), .d (.int .i64 (lexS s).2.2)] ∧ H' = H) :=
  HasT.lex4 ⟨_, Tryd.func7, dcf7⟩
    (fun s H hs => Has.bad3 ⟨_, Tryd.func20, dcf20⟩ (fun s n hn hl H => Has.next3 ⟨_, Tryd.func38, dcf38⟩ (Has.more3 ⟨_, Tryd.func46, dcf46⟩) s n hn hl H) s hs H)
    (fun s n hn hl H => Has.lead4 ⟨_, Tryd.func21, dcf21⟩ s n hn hl H)
    (fun s n hn hl H => Has.one4 ⟨_, Tryd.func22, dcf22⟩ rletterOk rdigitOk risKeyOk (fun s H hs => Has.unquote3 ⟨_, Tryd.func39, dcf39⟩ s hs H) s n hn hl H) s hs H

theorem writeSOk : WriteSOk Tryd.prog 36 77 := fun H i t a bs s => write_acall Tryd.func36 dcf36 copyOk H i t a bs s
theorem tableH : Has Tryd.prog 33 irDTable := ⟨_, Tryd.func33, dcf33⟩
theorem dHas : DHas Tryd.prog 27 28 29 30 32 31 33 where
  units := fun z l h1 h2 H => HasT.units ⟨_, Tryd.func27, dcf27⟩ z l h1 h2 H
  alike := ⟨_, Tryd.func28, dcf28⟩
  tail := ⟨_, Tryd.func29, dcf29⟩
  end_ := fun z p A h1 h2 H => Has.endU ⟨_, Tryd.func30, dcf30⟩ z p A h1 h2 H
  runs := fun z y p q A B h1 h2 H => HasT.runs ⟨_, Tryd.func32, dcf32⟩ tableH z y p q A B h1 h2 H
  edits := fun z za zb p q A B rs h1 h2 h3 h4 h5 H => HasT.edits ⟨_, Tryd.func31, dcf31⟩ ⟨_, Tryd.func43, dcf43⟩ (by kernel_rfl) (fun z p A h1 h2 H => HasT.textU ⟨_, Tryd.func44, dcf44⟩ writeSOk stringOk' z p A h1 h2 H) z za zb p q A B rs h1 h2 h3 h4 h5 H
  table := tableH

theorem betweenOk (z y : Bool) (a b : List Tk) (ha : a.length ≤ 262144) (hb : b.length ≤ 262144) (hja : (joinS a).length ≤ 1048576) (hjb : (joinS b).length ≤ 1048576) (H : Hp) :
    ACall Tryd.prog 11 [.d (.sl z 4 (a.map encTk)), .d (.sl y 4 (b.map encTk))] H (fun r H' => r = .d (.sl true 3 ((betweenL (txU a) (txU b)).map encE)) ∧ H' = H) :=
  dHas.between ⟨_, Tryd.func11, dcf11⟩ z y a b ha hb hja hjb H
theorem keptOk (z y : Bool) (a b : List Tk) (ha : a.length ≤ 262144) (hb : b.length ≤ 262144) (hja : (joinS a).length ≤ 1048576) (hjb : (joinS b).length ≤ 1048576) (H : Hp) :
    ACall Tryd.prog 17 [.d (.sl z 4 (a.map encTk)), .d (.sl y 4 (b.map encTk))] H (fun r H' => r = .d (.int .i64 (keptN (txU a) (txU b) : Int)) ∧ H' = H) :=
  dHas.kept ⟨_, Tryd.func17, dcf17⟩ z y a b ha hb hja hjb H
end Go.Proofs.Zd

namespace Go.Proofs.Zd
open Go Go.Zam Go.Proofs
set_option maxRecDepth 100000
set_option linter.all false
set_option maxHeartbeats 1000000

end Go.Proofs.Zd

namespace Go.Proofs.Zd
open Go Go.Zam Go.Proofs
set_option maxRecDepth 100000
set_option linter.all false
set_option maxHeartbeats 4000000

end Go.Proofs.Zd

namespace Go.Proofs.Zd
open Go Go.Zam Go.Proofs Classical
set_option maxRecDepth 100000
set_option linter.all false
set_option maxHeartbeats 1000000

theorem lex_ab : lexS [97, 32, 98] = ([⟨1, 0, [], [97]⟩, ⟨1, 2, [32], [98]⟩, ⟨0, 3, [], []⟩], 0, 0) := by kernel_rfl
theorem lex_ac : lexS [97, 32, 99] = ([⟨1, 0, [], [97]⟩, ⟨1, 2, [32], [99]⟩, ⟨0, 3, [], []⟩], 0, 0) := by kernel_rfl
theorem runs_bc : runsL [[98]] [[99]] = [⟨0, 1, 0, 1⟩] := by
  have h1 : skipN [] [[99]] = (0, 1) := by rw [skipN_nil_cons, skipN_nil_nil]
  have h2 : skipN [[98]] [[99]] = (1, 1) := by
    rw [skipN_cons, if_neg (by decide), lcs_nil, if_pos (Nat.zero_le _), h1]
  unfold runsL
  rw [show ([[98]] : List Bs).length + ([[99]] : List Bs).length + 1 = 2 + 1 from rfl, runsF_run (by simp) (by decide), h2]
  simp [runsF]
theorem eds_bc : betweenL [[97], [32], [98]] [[97], [32], [99]] = [⟨2, 3, [99]⟩] := by
  have e1 : alikeN [[97], [32], [98]] [[97], [32], [99]] = 2 := by decide
  have e2 : midA [[97], [32], [98]] [[97], [32], [99]] = [[98]] := by decide
  have e3 : midB [[97], [32], [98]] [[97], [32], [99]] = [[99]] := by decide
  unfold betweenL
  rw [e1, e2, e3, edsOf, runs_bc, if_neg (by simp), if_pos (by simp)]
  rfl

theorem awakeOk {H0 : Hp} (hG : TabsG 0 1 2 3 H0) (H : Hp) (hH : Pre0 H0 H) : ACall Tryd.prog 9 [] H (fun r H' => r = .d (.bool true) ∧ H' = H) := by
  refine acall_fin rfl cf9 (by simp [ir9]) fun hcl _ => ?_
  have g1 := lexOk hG [97, 32, 98] (by decide) H hH
  have g2 := lexOk hG [97, 32, 99] (by decide) H hH
  rw [lex_ab] at g1; rw [lex_ac] at g2
  have g3 := betweenOk true true [⟨1, 0, [], [97]⟩, ⟨1, 2, [32], [98]⟩, ⟨0, 3, [], []⟩] [⟨1, 0, [], [97]⟩, ⟨1, 2, [32], [99]⟩, ⟨0, 3, [], []⟩] (by decide) (by decide) (by decide) (by decide) H
  have e1 : txU [⟨1, 0, [], [97]⟩, ⟨1, 2, [32], [98]⟩, ⟨0, 3, [], []⟩] = [[97], [32], [98]] := by decide
  have e2 : txU [⟨1, 0, [], [97]⟩, ⟨1, 2, [32], [99]⟩, ⟨0, 3, [], []⟩] = [[97], [32], [99]] := by decide
  rw [e1, e2, eds_bc] at g3
  simp only [encTk, List.map_cons, List.map_nil, encE, Int.cast_ofNat_Int] at g1 g2 g3
  simp [ir9]
  refine CallK_of' g1 ?_
  simp
  refine CallK_of' g2 ?_
  simp
  refine CallK_of' g3 ?_
  simp [Zam.rowAt, eqDs, eqD]
  simp [RetK, cut_self hcl]

/-- the tokens of two texts, if both have them and they are not long -/
def bothOk (s t : Bs) : Bool := decide ((lexS s).2.1 = 0) && decide ((lexS t).2.1 = 0) && decide (s.length + t.length ≤ 4000)
theorem bothA (s t : Bs) (hs : s.length ≤ 1048576) (ht : t.length ≤ 1048576) (H : Hp) : ACall Tryd.prog 12 [.d (.str s), .d (.str t)] H (fun r H' => r = .tup [.d (.sl true 4 ((lexS s).1.map encTk)), .d (.sl true 4 ((lexS t).1.map encTk)), .d (.bool (bothOk s t))] ∧ H' = H) := by
  refine acall_fin rfl cf12 (by simp [ir12]) fun hcl _ => ?_
  have g1 := lex4Ok s hs H
  have g2 := lex4Ok t ht H
  have hw : IntKind.i64.wrap ((s.length : Int) + t.length) = ((s.length + t.length : Nat) : Int) := by rw [wrap_i64 (by omega) (by omega)]; omega
  unfold bothOk
  generalize lexS s = S at g1 ⊢
  generalize lexS t = T at g2 ⊢
  obtain ⟨sl, se, sp⟩ := S
  obtain ⟨tl, te, tp⟩ := T
  simp only at g1 g2 ⊢
  simp [ir12]
  refine CallK_of' g1 ?_
  simp
  refine CallK_of' g2 ?_
  by_cases h1 : se = 0
  · by_cases h2 : te = 0
    · simp only [Int.natCast_add] at hw
      simp [h1, h2, hw]
      simp [RetK, cut_self hcl, h1, h2]
      omega
    · simp [h1, h2]
      simp [RetK, cut_self hcl, h1, h2]
  · simp [h1]
    simp [RetK, cut_self hcl, h1]

theorem lex_facts {s : Bs} (h : (lexS s).2.1 = 0) : joinS (lexS s).1 = s ∧ (lexS s).1.length ≤ 4000 := by
  obtain ⟨h1, h2⟩ := (lexS_ok s).2 h
  exact ⟨h1.join.1, h2⟩

theorem total_between (A B : List Bs) : total (betweenL A B) ≤ 1024 * B.flatten.length + B.flatten.length := by
  have hed : ∀ (p : Nat) (A B : List Bs) (r : Rn), (edR p A B r).s.length ≤ B.flatten.length := fun p A B r => by
    have h1 := flat_take (B.drop r.c) (r.d - r.c)
    have h2 : (B.drop r.c).flatten.length ≤ B.flatten.length := by
      have : B.flatten = (B.take r.c).flatten ++ (B.drop r.c).flatten := by rw [← List.flatten_append, List.take_append_drop]
      rw [this]; simp
    show ((B.drop r.c).take (r.d - r.c)).flatten.length ≤ _
    omega
  have key : ∀ (p : Nat) (A B : List Bs) (rs : List Rn), total (rs.map (edR p A B)) ≤ rs.length * B.flatten.length := fun p A B rs => by
    induction rs with
    | nil => simp [total]
    | cons r rs ih =>
      have := hed p A B r
      simp only [List.map_cons, total, List.length_cons, Nat.add_mul, Nat.one_mul]
      omega
  have hmB : (midB A B).flatten.length ≤ B.flatten.length := by
    obtain ⟨C, S, hC, hS, eA, eB, hm⟩ := mid_split A B
    conv => rhs; rw [eB]
    simp only [List.flatten_append, List.length_append]; omega
  unfold betweenL edsOf
  split
  · simp [total]
  split
  · rename_i h1 h2
    have h3 := key (posU A (alikeN A B)) (midA A B) (midB A B) (runsL (midA A B) (midB A B))
    have h4 : (runsL (midA A B) (midB A B)).length * (midB A B).flatten.length ≤ 1024 * B.flatten.length := Nat.mul_le_mul (by omega) hmB
    omega
  · have h3 := key (posU A (alikeN A B)) (midA A B) (midB A B) [⟨0, (midA A B).length, 0, (midB A B).length⟩]
    simp only [List.map_cons, List.map_nil, List.length_cons, List.length_nil] at h3
    omega

end Go.Proofs.Zd

namespace Go.Proofs.Zd
open Go Go.Zam Go.Proofs Classical
set_option maxRecDepth 100000
set_option linter.all false
set_option maxHeartbeats 1000000

theorem dcf13 : compF Tryd.prog [3] Tryd.f13 = some (irR5Units 9) := by kernel_rfl
theorem dcf14 : compF Tryd.prog [] Tryd.f14 = some (irR5Most) := by kernel_rfl
theorem dcf15 : compF Tryd.prog [8] Tryd.f15 = some (irR5Cut 9) := by kernel_rfl
theorem dcf16 : compF Tryd.prog [] Tryd.f16 = some (irR5Ends) := by kernel_rfl

theorem sound_mem {n : Int} : ∀ {l : List Ed} {last : Int}, soundFrom n last l = 0 → ∀ e ∈ l, 0 ≤ e.f ∧ e.f ≤ e.t ∧ e.t ≤ n
  | [], last, _, e, h => by cases h
  | x :: r, last, h, e, he => by
    obtain ⟨h1, h2, h3, h4, h5⟩ := soundFrom_cons h
    rcases List.mem_cons.1 he with rfl | he
    · exact ⟨h1, h2, h3⟩
    · exact sound_mem h5 e he
theorem total_mem : ∀ {l : List Ed}, ∀ e ∈ l, e.s.length ≤ total l
  | [], e, h => by cases h
  | x :: r, e, he => by
    simp only [total]
    rcases List.mem_cons.1 he with rfl | he
    · omega
    · have := total_mem e he; omega

theorem chkL_cons {u v : List Bs} {K M R : Int} {x : Ed} {r : List Ed} (h : chkL u v K M (x :: r) = some R) : ∃ o i, cutS x.f x.t 0 u = some o ∧ cutS (x.f + M) (x.f + M + x.s.length) 0 v = some i ∧ endsS x.f 0 u = true ∧ endsS x.t 0 u = true ∧ sameEnds o i = false ∧ chkL u v (K - o.length) (M + (x.s.length - (x.t - x.f))) r = some R := by
  rw [chkL] at h
  split at h
  · rename_i o i h1 h2
    split at h
    · rename_i h3
      exact ⟨o, i, h1, h2, h3.1, h3.2.1, h3.2.2, h⟩
    · cases h
  · cases h

theorem last_row (a : Bs) (O : List Bs) : Zam.rowAt ((a :: O).map encStr) (O.length : Int) = some (encStr ((a :: O).getLast (by simp))) := by
  refine rowAt_get (f := encStr) ?_
  rw [List.getLast_eq_getElem, List.getElem?_eq_getElem (by simp)]
  simp

theorem lLeastOk {H0 : Hp} (hG : TabsG 0 1 2 3 H0) (s t : Bs) (hs : s.length ≤ 1048576) (ht : t.length ≤ 1048576) (H : Hp) (hH : Pre0 H0 H) : ACall Tryd.prog 4 [.d (.str s), .d (.str t)] H (fun r H' => r = .d (.bool true) ∧ H' = H) := by
  refine acall_fin rfl cf4 (by simp [ir4]) fun hcl _ => ?_
  have ga := awakeOk hG H hH
  have gb := bothA s t hs ht H
  simp [ir4]
  refine CallK_of' gb ?_
  cases hbo : bothOk s t with
  | false =>
    simp
    refine CallK_of' ga ?_
    simp
    simp [RetK, cut_self hcl]
  | true =>
    simp only [bothOk, Bool.and_eq_true, decide_eq_true_eq] at hbo
    obtain ⟨⟨h1, h2⟩, h3⟩ := hbo
    obtain ⟨ja, la⟩ := lex_facts h1
    obtain ⟨jb, lb⟩ := lex_facts h2
    generalize (lexS s).1 = a at ja la
    generalize (lexS t).1 = b at jb lb
    have hw : IntKind.i64.wrap ((a.length : Int) + b.length) = ((a.length + b.length : Nat) : Int) := by rw [wrap_i64 (by omega) (by omega)]; omega
    by_cases h200 : 200 < a.length + b.length
    · have h200' : (200 : Int) < (a.length : Int) + b.length := by omega
      simp only [Int.natCast_add] at hw
      simp [hw, h200', h200]
      refine CallK_of' ga ?_
      simp
      simp [RetK, cut_self hcl]
    have h200' : ¬ (200 : Int) < (a.length : Int) + b.length := by omega
    have g1 := HasT.units5 ⟨_, Tryd.func13, dcf13⟩ true a (by omega) H
    have g2 := HasT.units5 ⟨_, Tryd.func13, dcf13⟩ true b (by omega) H
    have g4 := betweenOk true true a b (by omega) (by omega) (by rw [ja]; omega) (by rw [jb]; omega) H
    have g5 := keptOk true true a b (by omega) (by omega) (by rw [ja]; omega) (by rw [jb]; omega) H
    have hb := (between_ok (A := txU a) (B := txU b) txU_ne txU_ne).1
    have htot := total_between (txU a) (txU b)
    have hlA := txU_len a
    have hlB := txU_len b
    obtain ⟨hlaw, hkept⟩ := least_law (A := txU a) (B := txU b) txU_ne txU_ne (by omega)
    have fA := txU_flat a
    have fB := txU_flat b
    rw [ja] at fA
    rw [jb] at fB
    rw [hkept] at g5
    have hsm := fun e (he : e ∈ betweenL (txU a) (txU b)) => sound_mem (sound_zero hb).2 e he
    have htm := fun e (he : e ∈ betweenL (txU a) (txU b)) => total_mem e he
    have hL512 := (sound_zero hb).1
    generalize betweenL (txU a) (txU b) = L at g4 htot hlaw hsm htm hL512
    generalize txU a = A at g1 hlA hlaw fA hsm htot g5
    generalize txU b = B at g2 hlB hlaw fB htot g5
    rw [fA] at hsm
    rw [fB] at htot
    have g3 := Has.most ⟨_, Tryd.func14, dcf14⟩ true true A B (by omega) (by omega) H
    have g6 := fun x y H => HasT.cut5 ⟨_, Tryd.func15, dcf15⟩ true A (by omega) (by rw [fA]; omega) x y H
    have g7 := fun x y H => HasT.cut5 ⟨_, Tryd.func15, dcf15⟩ true B (by omega) (by rw [fB]; omega) x y H
    have g8 := fun x H => Has.ends5 ⟨_, Tryd.func16, dcf16⟩ true A (by omega) (by rw [fA]; omega) x H
    have hlc := (lcs_le A B).1
    generalize lcs A B = R at g3 g5 hlaw hlc
    simp only [Int.natCast_add] at hw
    simp [hw, h200', h200]
    refine CallK_of' g1 ?_
    simp
    refine CallK_of' g2 ?_
    simp
    refine CallK_of' g3 ?_
    simp
    refine CallK_of' g4 ?_
    simp
    refine LoopK_out 0 (fun fr H' => fr 5 = .d (.sl true 4 (a.map encTk)) ∧ fr 6 = .d (.sl true 4 (b.map encTk)) ∧ fr 10 = .d (.int .i64 (R : Int)) ∧ fr 11 = .d (.int .i64 (R : Int)) ∧ H' = H) ?_ ?_
    · refine RangeK_of H.length L.length (fun i fr H' => ∃ K M : Int, fr 5 = .d (.sl true 4 (a.map encTk)) ∧ fr 6 = .d (.sl true 4 (b.map encTk)) ∧ fr 8 = .d (.sl true 1 (A.map encStr)) ∧ fr 9 = .d (.sl true 1 (B.map encStr)) ∧ fr 10 = .d (.int .i64 (R : Int)) ∧ fr 11 = .d (.int .i64 K) ∧ fr 12 = .d (.int .i64 M) ∧ fr 48 = .d (.sl true 3 (L.map encE)) ∧ chkL A B K M (L.drop i) = some (R : Int) ∧ (-(16777216 * (i : Int)) ≤ M ∧ M ≤ 16777216 * (i : Int)) ∧ (-(16777216 * (i : Int)) ≤ K ∧ K ≤ 16777216) ∧ H' = H) (by omega) (by decide) (by simp) (by simp) ?_ ?_ ?_
      · refine ⟨(A.length : Int), 0, ?_⟩
        simp [cut_self hcl, hlaw]
        omega
      · rintro i fr H' hi f50 f49 ⟨K, M, f5, f6, f8, f9, f10, f11, f12, f48, hchk, ⟨bM1, bM2⟩, ⟨bK1, bK2⟩, rfl⟩
        have hr := rowAt_map encE hi
        have hmem : L[i] ∈ L := List.getElem_mem hi
        have hd : L.drop i = L[i] :: L.drop (i + 1) := List.drop_eq_getElem_cons hi
        rw [hd] at hchk
        obtain ⟨q1, q2, q3⟩ := hsm _ hmem
        have q4 := htm _ hmem
        generalize L[i] = x at hr hmem hchk q1 q2 q3 q4
        obtain ⟨xf, xt, xs⟩ := x
        simp only [encE] at hr
        simp only at q1 q2 q3 q4
        obtain ⟨o, n, c1, c2, c3, c4, c5, c6⟩ := chkL_cons hchk
        simp only at c1 c2 c3 c4 c6
        have hol := cutS_len _ _ _ _ _ c1
        have hnl := cutS_len _ _ _ _ _ c2
        have w1 : IntKind.i64.wrap (xf + M) = xf + M := wrap_i64 (by omega) (by omega)
        have w2 : IntKind.i64.wrap (xf + M + xs.length) = xf + M + xs.length := wrap_i64 (by omega) (by omega)
        have w3 : IntKind.i64.wrap (K - o.length) = K - o.length := wrap_i64 (by omega) (by omega)
        have w4 : IntKind.i64.wrap (xt - xf) = xt - xf := wrap_i64 (by omega) (by omega)
        have w5 : IntKind.i64.wrap ((xs.length : Int) - (xt - xf)) = (xs.length : Int) - (xt - xf) := wrap_i64 (by omega) (by omega)
        have w6 : IntKind.i64.wrap (M + ((xs.length : Int) - (xt - xf))) = M + ((xs.length : Int) - (xt - xf)) := wrap_i64 (by omega) (by omega)
        have k1 := fun H => g6 xf xt H
        have k2 := fun H => g7 (xf + M) (xf + M + xs.length) H
        rw [c1] at k1
        rw [c2] at k2
        simp only [cutR] at k1 k2
        have k3 := fun H => g8 xf H
        have k4 := fun H => g8 xt H
        rw [c3] at k3
        rw [c4] at k4
        simp [f50, f48, hr]
        simp [f8]
        refine CallK_of' (k1 _) ?_
        simp [f9, f12, w1, w2]
        refine CallK_of' (k2 _) ?_
        simp [f8]
        refine CallK_of' (k3 _) ?_
        simp [f8]
        refine CallK_of' (k4 _) ?_
        cases ho : o with
        | nil =>
          subst ho
          simp only [List.length_nil, Int.natCast_zero, Int.sub_zero] at w3 c6
          simp [f11, f12, w3, w4, w5, w6]
          refine NextK_of H'.length (by omega) (by simp [f50, f49]) ⟨K, M + ((xs.length : Int) - (xt - xf)), ?_⟩
          exact ⟨by simp [f5], by simp [f6], by simp [f8], by simp [f9], by simp [f10], by simp [f11], by simp, by simp [f48], c6, ⟨by omega, by omega⟩, ⟨by omega, by omega⟩, cut_app hcl _⟩
        | cons u O =>
          subst ho
          have lo : (0 : Int) < (O.length : Int) + 1 := by omega
          cases hn : n with
          | nil =>
            subst hn
            simp only [List.length_cons, Int.natCast_add, Int.natCast_one] at w3 c6 hol
            simp [lo, f11, f12, w3, w4, w5, w6]
            refine NextK_of H'.length (by omega) (by simp [f50, f49]) ⟨K - ((O.length : Int) + 1), M + ((xs.length : Int) - (xt - xf)), ?_⟩
            exact ⟨by simp [f5], by simp [f6], by simp [f8], by simp [f9], by simp [f10], by simp, by simp, by simp [f48], c6, ⟨by omega, by omega⟩, ⟨by omega, by omega⟩, cut_app hcl _⟩
          | cons v N =>
            subst hn
            have ln : (0 : Int) < (N.length : Int) + 1 := by omega
            simp only [sameEnds, Bool.or_eq_false_iff, decide_eq_false_iff_not] at c5
            obtain ⟨c7, c8⟩ := c5
            have r1 := last_row u O
            have r2 := last_row v N
            have r3 : Zam.rowAt ((u :: O).map encStr) 0 = some (encStr u) := rfl
            have r4 : Zam.rowAt ((v :: N).map encStr) 0 = some (encStr v) := rfl
            generalize (u :: O).getLast (by simp) = uo at r1 c8
            generalize (v :: N).getLast (by simp) = vn at r2 c8
            simp only [encStr, List.map_cons] at r1 r2 r3 r4
            simp only [List.length_cons, Int.natCast_add, Int.natCast_one] at w3 c6 hol hnl
            have wo : IntKind.i64.wrap ((O.length : Int) + 1 - 1) = (O.length : Int) := by rw [wrap_i64 (by omega) (by omega)]; omega
            have wn : IntKind.i64.wrap ((N.length : Int) + 1 - 1) = (N.length : Int) := by rw [wrap_i64 (by omega) (by omega)]; omega
            have wo2 : IntKind.i64.wrap (O.length : Int) = (O.length : Int) := wrap_i64 (by omega) (by omega)
            have wn2 : IntKind.i64.wrap (N.length : Int) = (N.length : Int) := wrap_i64 (by omega) (by omega)
            simp [lo, ln, encStr, r1, r2, r3, r4, c7, c8, wo, wn, wo2, wn2, f11, f12, w3, w4, w5, w6]
            refine NextK_of H'.length (by omega) (by simp [f50, f49]) ⟨K - ((O.length : Int) + 1), M + ((xs.length : Int) - (xt - xf)), ?_⟩
            exact ⟨by simp [f5], by simp [f6], by simp [f8], by simp [f9], by simp [f10], by simp, by simp, by simp [f48], c6, ⟨by omega, by omega⟩, ⟨by omega, by omega⟩, cut_app hcl _⟩
      · rintro fr H' f50 f49 ⟨K, M, f5, f6, f8, f9, f10, f11, f12, f48, hchk, -, -, rfl⟩
        rw [List.drop_length, chkL] at hchk
        have hKR : K = (R : Int) := Option.some.inj hchk
        simp [f5, f6, f10, f11, hKR]
    rintro fr H' ⟨f5, f6, f10, f11, rfl⟩
    simp
    refine CallK_of' ga ?_
    simp [f5, f6, f10, f11]
    refine CallK_of' g5 ?_
    simp [f10]
    simp [RetK, cut_self hcl]

end Go.Proofs.Zd
