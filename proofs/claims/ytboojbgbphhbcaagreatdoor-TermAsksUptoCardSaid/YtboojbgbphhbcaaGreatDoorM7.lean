/-
  Texts of one proof, one behind the other: An abstract machine over the model, hundred and tenth part: slices.AppendSeq at nil and an iterator that leaves alone what lay before, where what is done with each element does so, too. No program in sight. The lengths are bounded. Contracts of the library's functions at this program, out of the kit's shelf. No condition. slices.AppendSeq over slices.Values at texts, slices.Sort and Compact of texts, at this program. The lengths are bounded. The layer of types, and that of relations, at this program. (Printed by mkty.py.) The lengths are bounded. The tenth chapter's laws at this program. The lengths are bounded. What the arguments of these laws are: types as the program holds them, texts, lists of both. DERIVED: THE SHELF's CONTRACTS AT THIS DUMP, IN PLAIN WORDS (tools/lay-plain.mjs out of 'TryzJoin.lean', which tools/lay-shelf.mjs wrote): THE SAME DECLARATIONS UNDER THE SAME NAMES: 'import', 'namespace', 'open', 'def', 'theorem' AND NOTHING ELSE: no command of the shelf's: FOR A HAND-IN. Each laying: the table of numbers ('.._ren') and one theorem, a field a fact of the dump's own or the kernel's comparison; each contract: ONE APPLICATION. The ninth chapter's law on a record's parts, at this program. The lengths are bounded. The ninth chapter's law on what is asked of a type, at this program. The lengths are bounded.
-/
import Derived.Test.YtboojbgbphhbcaaGreatDoorM6
import Derived.Shelf.SlIter.Collect
import Derived.Shelf.Strings.Builder1
import Derived.Shelf.Small.Strs
import Derived.Shelf.Strconv.Itoa0
import Derived.Shelf.Strconv.Itoa1
import Derived.Shelf.LaysM
import Derived.Shelf.Strconv.Itoa2
import Derived.Shelf.Strconv.Itoa3
import Derived.Ground.MpProg
import Derived.Shelf.Pu.ParseUintPublic10
import Derived.Shelf.Pu.ErrVarParseUint
import Derived.Shelf.Strings.Search1
import Derived.Shelf.Strings.Prefix
import Derived.Shelf.Unicode.Decode
import Derived.Shelf.Unicode.DecodeSlow
import Derived.Shelf.Unicode.DecodeAny
import Derived.Ground.SlgnProg
import Derived.Shelf.SlicesG.CompactS
import Derived.Ground.SlgmProg
import Derived.Shelf.SortM.Plain
import Derived.Shelf.SortM.SortNone
import Derived.Test.YtboojbgbphhbcaaGreatDoorProg
import Derived.RangeFuncBox
import Derived.RangeFuncLeaves
import Derived.Shelf.Abstract
import Derived.WalkKit
import Derived.OwnWalkIn
import Derived.TacticsInMore
import Derived.LoopNIn
import Derived.LoopIn
import Derived.Test.YtboojbgbphhbcaaGreatDoorM5
import Derived.Test.YtboojbgbphhbcaaGreatDoorM3
import Derived.Shelf.Lays
import Derived.Shelf.Strings.OnBuilder
namespace Go.Proofs
open Go.RowKit Go.Maps Go.Sort Go.Shelf
set_option linter.all false
variable {P : Program} {ρ : Ren}

/-- an iterator's word, where whoever takes its elements leaves alone what lay before -/
def SeqGivesB (F : Fence) (n : Nat) (P : Program) (g : Nat) (lb : Array Value) (S : List (List UInt8) → Prop) (N : Nat) (w : World) : Prop :=
  ∀ (l : Nat) (J : List (List UInt8) → World → Prop) (W : World), Below w.heap.size w W → AbidesFrom W.heap.size J → (∀ s W, J s W → Below w.heap.size w W) →
    (∀ pre x W1, J pre W1 → pre.length < N → YieldAt F (n - 1) P l #[Go.Proofs.encStr x] W1 fun e W' => e = .returned (.bool true) ∧ J (pre ++ [x]) W' ∧ KeepsWalks W1 W') →
    J [] W →
    CallsIn F n P g (#[.func (.yield l) #[] #[]] ++ lb) W fun e W' => (∃ v, e = .returned v) ∧ ∃ xs, S xs ∧ J xs W'

set_option maxRecDepth 100000 in
set_option maxHeartbeats 2000000 in
theorem appendSeqB_in (L : SlLaysZ.n11 P ρ) (F : Fence) (n : Nat) (h11 : F.fn (ρ.f 11)) (hro : F.round = none) (hn : 2 ≤ n) (g : Nat) (lb : Array Value) (hFg : F.fn g) (eg : ∀ args w, (callFunc g args).run P w = .ok (.enter g args) w)
    (S : List (List UInt8) → Prop) (N : Nat) (hN : N ≤ maxLen) (hNb : N * 16 ≤ 140737488355328) (w : World) (hseq : SeqGivesB F (n - 1) P g lb S N w) :
    CallsIn F n P (ρ.f 11) #[.slice none 0 0, .func (.func g) #[] lb] w fun e w' => ∃ (v : Value) (ss : List (List UInt8)), e = .returned v ∧ S ss ∧ w'.ownsRow w.heap.size (ρ.t 26) 1 v ss.length (ss.map Go.Proofs.encStr) ∧ (v = .slice none 0 0 ↔ ss = []) ∧ Below w.heap.size w w' := by
  have h1 : 1 ≤ n := by omega
  have mixed := L.mixed; have t0 := L.t0; have a0 := L.a0; have z0 := L.z0; have v0 := L.v0; have t24 := L.t24; have a24 := L.a24; have z24 := L.z24; have v24 := L.v24; have t26 := L.t26; have a26 := L.a26; have z26 := L.z26; have v26 := L.v26; have t28 := L.t28; have a28 := L.a28; have z28 := L.z28; have v28 := L.v28
  have hne : ρ.t 24 ≠ ρ.t 26 := fun e => by have h := L.t24; rw [e, L.t26] at h; cases h
  have u0 := run_underlying L.t0; have u24 := run_underlying L.t24; have u26 := run_underlying L.t26; have u28 := run_underlying L.t28
  obtain ⟨_, _, FG⟩ := L.f11
  refine callsIn_of_wp_marks FG rfl h11 ?_ hro
  simp only [SlBodyZ.n11_ntmps ρ, List.size_toArray, List.length_cons, List.length_nil, Nat.reduceAdd, Nat.reduceSub, Array.replicate_succ, Array.replicate_zero, List.push_toArray, List.append_toArray, List.nil_append, List.cons_append]
  gi_wp2
  refine wpIn_rangeFunc ?_
  intro fn hfn
  rw [hro]
  obtain ⟨W0, hW0⟩ : ∃ W0, w.alloc (.cells #[.slice none 0 0] (ρ.t 24)) = W0 := ⟨_, rfl⟩
  have hs0 : W0.heap.size = w.heap.size + 1 := by rw [← hW0]; simp
  have hv0 : W0.heap[w.heap.size]? = some (.cells #[.slice none 0 0] (ρ.t 24) (0, 0)) := by rw [← hW0]; exact World.alloc_heap_new w _
  have hb0 : Below w.heap.size w W0 := by rw [← hW0]; exact (Below.refl _ w).alloc (Nat.le_refl _) _
  rw [hW0]
  obtain ⟨W1, hW1⟩ : ∃ W1, (W0.alloc (.deferred (some []))).alloc (.loop (AnyZ.apRec ρ fn (.func (.func g) #[] lb) w.heap.size W0.heap.size .ready none)) = W1 := ⟨_, rfl⟩
  have hold : ∀ k, k < W0.heap.size → W1.heap[k]? = W0.heap[k]? := fun k hk => by
    rw [← hW1]; exact (Below.heap_alloc _ _ k (by simp; omega)).trans (Below.heap_alloc _ _ k hk)
  have hb1 : Below w.heap.size w W1 := by rw [← hW1]; exact (hb0.alloc hb0.size _).alloc (by have := hb0.size; simp; omega) _
  have hs1 : W1.heap.size = W0.heap.size + 2 := by rw [← hW1]; simp
  have hM : AnyZ.ApAt ρ w fn (.func (.func g) #[] lb) w.heap.size (W0.heap.size + 1) W0.heap.size [] W1 :=
    ⟨⟨_, (hold w.heap.size (by omega)).trans hv0, ⟨rfl, .inl ⟨rfl, rfl⟩⟩, by simp⟩,
     by rw [← hW1]; have := World.alloc_heap_new (W0.alloc (.deferred (some []))) (.loop (AnyZ.apRec ρ fn (.func (.func g) #[] lb) w.heap.size W0.heap.size .ready none)); rwa [World.size_alloc] at this,
     by rw [← hW1]; exact (Below.heap_alloc _ _ _ (by simp)).trans (World.alloc_heap_new W0 _), hb1⟩
  refine ⟨W0.heap.size + 1, [{ target := .collected W0.heap.size, args := #[] }], W1, { target := .fn (.func g) lb, args := #[.func (.yield (W0.heap.size + 1)) #[] #[]] }, W1, g,
    #[.func (.yield (W0.heap.size + 1)) #[] #[]] ++ lb, W1, ?_, ?_, ?_, ?_, fun _ => h1, ?_⟩
  · rw [← hW1]; exact run_enterLoop_outer _ _ _ _ _
  · simp [resolve, go_sem]
  · intro f' hf'; simp [Target.leads] at hf'; subst hf'; exact hFg
  · simp [invoke, go_sem, eg]
  · refine (hseq (W0.heap.size + 1) (AnyZ.ApAt ρ w fn (.func (.func g) #[] lb) w.heap.size (W0.heap.size + 1) W0.heap.size) W1 hb1 (AnyZ.ap_abides ρ _ _ _ _ _ _ _ hb1.size) (fun s W h => h.below)
      (fun pre x W hJ hl => AnyZ.apYield { L with } F (n - 1 - 1) w fn hfn _ w.heap.size (W0.heap.size + 1) W0.heap.size (by omega) (by omega) (by omega) (Nat.le_refl _) (by omega) N hN hNb pre x W hJ hl) hM).mono ?_
    rintro e W2 ⟨⟨v0, rfl⟩, ss, hS, h2⟩
    obtain ⟨v, hv, hrow, hnil⟩ := h2.box
    have hend := run_endLoop (P := P) h2.L (by simp [AnyZ.apRec])
    obtain ⟨W3, hW3⟩ : ∃ W3, W2.putObj (W0.heap.size + 1) (.loop { AnyZ.apRec ρ fn (.func (.func g) #[] lb) w.heap.size W0.heap.size .ready none with state := .exhausted }) = W3 := ⟨_, rfl⟩
    rw [hW3] at hend
    have hg3 : W2.grownBy W3 (some (W0.heap.size + 1)) := by rw [← hW3]; exact grownBy_putObj_a _ _ _
    have hv3 : W3.heap[w.heap.size]? = some (.cells #[v] (ρ.t 24) (0, 0)) := by rw [← hW3]; exact (World.putObj_heap_other (by omega)).trans hv
    have hK3 : W3.heap[W0.heap.size]? = some (.deferred (some [])) := by rw [← hW3]; exact (World.putObj_heap_other (by omega)).trans h2.K
    have hrow3 := hrow.kept hg3 (ownsRow_ne_a hrow h2.L (fun cur e => by first | cases e | exact hne (Obj.cells.inj e).2.1))
    have hb3 : Below w.heap.size w W3 := h2.below.grown hg3 h2.below.size (fun k e => by cases e; omega)
    obtain ⟨hc3, hf3⟩ := cell_of_box_a hv3
    clear hW3
    refine ⟨none, W3, hend, ?_⟩
    gi_wp2
    rw [← hs0]
    refine ⟨by simp, .inl ⟨_, _, rfl, run_takeDeferred hK3, ?_⟩⟩
    exact ⟨_, results_tmp rfl _ _ _, v, ss, rfl, hS, hrow3.kept (grownBy_putObj_a _ _ _) (ownsRow_ne_a hrow3 hK3 (fun cur e => by first | cases e | exact hne (Obj.cells.inj e).2.1)), hnil, hb3.grown (grownBy_putObj_a _ _ _) hb3.size (fun k e => by cases e; omega)⟩

end Go.Proofs

namespace Go.Proofs
open Go.Shelf
set_option maxRecDepth 100000
def Tryz.laysSlN44_f42_ren : Go.Shelf.Ren := ⟨fun | 44 => 42 | n => n, fun | 25 => 22 | 26 => 9 | 3 => 3 | 4 => 4 | 0 => 0 | n => n, fun | n => n⟩
theorem Tryz.laysSlN44_f42 : Go.Proofs.SlLaysN.n44 Tryz.prog Tryz.laysSlN44_f42_ren := {
  mixed := by kernel_rfl
  f44 := ⟨Tryz.f42.name, by decide, Tryz.func42.trans (congrArg some (by kernel_rfl))⟩
  t0 := Tryz.underlying0
  a0 := Tryz.isAgg0
  z0 := Tryz.sizeOf0
  v0 := Tryz.zeroValue0
  t3 := Tryz.underlying3
  a3 := Tryz.isAgg3
  z3 := Tryz.sizeOf3
  v3 := Tryz.zeroValue3
  t4 := Tryz.underlying4
  a4 := Tryz.isAgg4
  z4 := Tryz.sizeOf4
  v4 := Tryz.zeroValue4
  t25 := Tryz.underlying22
  a25 := Tryz.isAgg22
  z25 := Tryz.sizeOf22
  v25 := Tryz.zeroValue22
  t26 := Tryz.underlying9
  a26 := Tryz.isAgg9
  z26 := Tryz.sizeOf9
  v26 := Tryz.zeroValue9
  i26 := by kernel_rfl }
open Go.RowKit Go.Lib Go.Sort in
theorem Tryz.slices_Compact_string (blk off cap : Nat) (zs : List (List UInt8)) (w : World) (hH : Holds encStr w blk off zs.toArray) (hsz : zs.length ≤ 9223372036854775807) (hcap : zs.length ≤ cap) :
    Calls Tryz.prog 42 #[.slice (some ⟨blk, off, none⟩) zs.length cap] w fun e w' => e = .returned (.slice (some ⟨blk, off, none⟩) (Lib.compact zs).length cap) ∧ ∃ q, w' = putRow encStr (Sort.ahead w q) blk off (Lib.compact zs ++ List.replicate (zs.length - (Lib.compact zs).length) []).toArray := AnyG.slices_Compact_string Tryz.laysSlN44_f42 blk off cap zs w hH hsz hcap
open Go.RowKit Go.Lib Go.Sort in
theorem Tryz.slices_Compact_string_empty (a : Option Addr) (cap : Nat) (w : World) :
    Calls Tryz.prog 42 #[.slice a 0 cap] w fun e w' => e = .returned (.slice a 0 cap) ∧ w' = w := AnyG.slices_Compact_string_empty Tryz.laysSlN44_f42 a cap w
def Tryz.laysSlM6_f59_ren : Go.Shelf.Ren := ⟨fun | 6 => 59 | 8 => 81 | 9 => 80 | 19 => 107 | 20 => 108 | 21 => 99 | 22 => 100 | 23 => 101 | 24 => 102 | 25 => 103 | 26 => 104 | 27 => 64 | 28 => 105 | 29 => 106 | 36 => 121 | 31 => 122 | 32 => 123 | 37 => 124 | 38 => 125 | 39 => 82 | 41 => 132 | n => n, fun | 27 => 22 | 29 => 9 | 3 => 3 | 32 => 75 | 26 => 22 | 0 => 0 | 44 => 127 | 46 => 129 | 4 => 4 | 36 => 121 | 35 => 120 | 41 => 61 | 5 => 5 | 9 => 9 | 53 => 139 | 57 => 143 | 63 => 148 | 64 => 149 | n => n, fun | n => n⟩
theorem Tryz.laysSlM6_f59 : Go.Proofs.SlLaysM.n6 Tryz.prog Tryz.laysSlM6_f59_ren := {
  mixed := by kernel_rfl
  f6 := ⟨Tryz.f59.name, by decide, Tryz.func59.trans (congrArg some (by kernel_rfl))⟩
  f8 := Tryz.func81.trans (congrArg some (by kernel_rfl))
  f9 := ⟨Tryz.f80.name, by decide, Tryz.func80.trans (congrArg some (by kernel_rfl))⟩
  f19 := Tryz.func107.trans (congrArg some (by kernel_rfl))
  f20 := Tryz.func108.trans (congrArg some (by kernel_rfl))
  f21 := ⟨Tryz.f99.name, by decide, Tryz.func99.trans (congrArg some (by kernel_rfl))⟩
  f22 := ⟨Tryz.f100.name, by decide, Tryz.func100.trans (congrArg some (by kernel_rfl))⟩
  f23 := ⟨Tryz.f101.name, by decide, Tryz.func101.trans (congrArg some (by kernel_rfl))⟩
  f24 := ⟨Tryz.f102.name, by decide, Tryz.func102.trans (congrArg some (by kernel_rfl))⟩
  f25 := ⟨Tryz.f103.name, by decide, Tryz.func103.trans (congrArg some (by kernel_rfl))⟩
  f26 := ⟨Tryz.f104.name, by decide, Tryz.func104.trans (congrArg some (by kernel_rfl))⟩
  f27 := ⟨Tryz.f64.name, by decide, Tryz.func64.trans (congrArg some (by kernel_rfl))⟩
  f28 := ⟨Tryz.f105.name, by decide, Tryz.func105.trans (congrArg some (by kernel_rfl))⟩
  f29 := ⟨Tryz.f106.name, by decide, Tryz.func106.trans (congrArg some (by kernel_rfl))⟩
  f31 := Tryz.func122.trans (congrArg some (by kernel_rfl))
  f32 := Tryz.func123.trans (congrArg some (by kernel_rfl))
  f36 := ⟨Tryz.f121.name, by decide, Tryz.func121.trans (congrArg some (by kernel_rfl))⟩
  f37 := ⟨Tryz.f124.name, by decide, Tryz.func124.trans (congrArg some (by kernel_rfl))⟩
  f38 := ⟨Tryz.f125.name, by decide, Tryz.func125.trans (congrArg some (by kernel_rfl))⟩
  f39 := ⟨Tryz.f82.name, by decide, Tryz.func82.trans (congrArg some (by kernel_rfl))⟩
  f41 := ⟨Tryz.f132.name, by decide, Tryz.func132.trans (congrArg some (by kernel_rfl))⟩
  t0 := Tryz.underlying0
  a0 := Tryz.isAgg0
  z0 := Tryz.sizeOf0
  v0 := Tryz.zeroValue0
  t3 := Tryz.underlying3
  a3 := Tryz.isAgg3
  z3 := Tryz.sizeOf3
  v3 := Tryz.zeroValue3
  t4 := Tryz.underlying4
  a4 := Tryz.isAgg4
  z4 := Tryz.sizeOf4
  v4 := Tryz.zeroValue4
  t5 := Tryz.underlying5
  a5 := Tryz.isAgg5
  z5 := Tryz.sizeOf5
  v5 := Tryz.zeroValue5
  t9 := Tryz.underlying9
  a9 := Tryz.isAgg9
  z9 := Tryz.sizeOf9
  v9 := Tryz.zeroValue9
  t26 := Tryz.underlying22
  a26 := Tryz.isAgg22
  z26 := Tryz.sizeOf22
  v26 := Tryz.zeroValue22
  t27 := Tryz.underlying22
  a27 := Tryz.isAgg22
  z27 := Tryz.sizeOf22
  v27 := Tryz.zeroValue22
  t29 := Tryz.underlying9
  a29 := Tryz.isAgg9
  z29 := Tryz.sizeOf9
  v29 := Tryz.zeroValue9
  t32 := Tryz.underlying75
  a32 := Tryz.isAgg75
  z32 := Tryz.sizeOf75
  v32 := Tryz.zeroValue75
  t35 := Tryz.underlying120
  a35 := Tryz.isAgg120
  z35 := Tryz.sizeOf120
  v35 := Tryz.zeroValue120
  t36 := Tryz.underlying121
  a36 := Tryz.isAgg121
  z36 := Tryz.sizeOf121
  v36 := Tryz.zeroValue121
  t41 := Tryz.underlying61
  a41 := Tryz.isAgg61
  z41 := Tryz.sizeOf61
  v41 := Tryz.zeroValue61
  t44 := Tryz.underlying127
  a44 := Tryz.isAgg127
  z44 := Tryz.sizeOf127
  v44 := Tryz.zeroValue127
  t46 := Tryz.underlying129
  a46 := Tryz.isAgg129
  z46 := Tryz.sizeOf129
  v46 := Tryz.zeroValue129
  t53 := Tryz.underlying139
  a53 := Tryz.isAgg139
  z53 := Tryz.sizeOf139
  v53 := Tryz.zeroValue139
  t57 := Tryz.underlying143
  a57 := Tryz.isAgg143
  z57 := Tryz.sizeOf143
  v57 := Tryz.zeroValue143
  t63 := Tryz.underlying148
  a63 := Tryz.isAgg148
  z63 := Tryz.sizeOf148
  v63 := Tryz.zeroValue148
  t64 := Tryz.underlying149
  a64 := Tryz.isAgg149
  z64 := Tryz.sizeOf149
  v64 := Tryz.zeroValue149 }
open Go.Sort Go.RowKit in
theorem Tryz.slices_Sort_string (blk off cap : Nat) (ss : List (List UInt8)) (w : World) (hH : Holds encStr w blk off ss.toArray) (hblk : blk < w.heap.size) (hsz : ss.length < 4611686018427387904) :
    Calls Tryz.prog 59 #[.slice (some ⟨blk, off, none⟩) ss.length cap] w fun e w' =>
      e = .returned (.tuple #[]) ∧ ∃ n os, w' = grow (putRow encStr (Sort.ahead w n) blk off (ss.mergeSort fun x y => decide (x ≤ y)).toArray) os := AnyM.slices_Sort_string Tryz.laysSlM6_f59 blk off cap ss w hH hblk hsz
open Go.RowKit Go.Sort in
theorem Tryz.slices_Sort_string_none (p : Option Addr) (cap : Nat) (w : World) :
    Calls Tryz.prog 59 #[.slice p 0 cap] w fun e w' => e = .returned (.tuple #[]) ∧ w' = w := AnyM.slices_Sort_string_none Tryz.laysSlM6_f59 p cap w
end Go.Proofs

namespace Go.Proofs
open Go.Shelf
set_option maxRecDepth 100000
def Tryz.laysZ11_ren : Go.Shelf.Ren := ⟨fun | 11 => 79 | n => n, fun | 24 => 22 | 26 => 9 | 28 => 53 | 0 => 0 | 33 => 60 | 4 => 4 | n => n, fun | n => n⟩
theorem Tryz.laysZ11 : Go.Proofs.SlLaysZ.n11 Tryz.prog Tryz.laysZ11_ren := {
  mixed := by kernel_rfl
  f11 := ⟨Tryz.f79.name, by decide, Tryz.func79.trans (congrArg some (by kernel_rfl))⟩
  t0 := Tryz.underlying0
  a0 := Tryz.isAgg0
  z0 := Tryz.sizeOf0
  v0 := Tryz.zeroValue0
  t24 := Tryz.underlying22
  a24 := Tryz.isAgg22
  z24 := Tryz.sizeOf22
  v24 := Tryz.zeroValue22
  t26 := Tryz.underlying9
  a26 := Tryz.isAgg9
  z26 := Tryz.sizeOf9
  v26 := Tryz.zeroValue9
  t28 := Tryz.underlying53
  a28 := Tryz.isAgg53
  z28 := Tryz.sizeOf53
  v28 := Tryz.zeroValue53
  i26 := by kernel_rfl }

namespace Zy
open Go Go.Zam Go.Proofs Go.RowKit Go.Shelf
set_option linter.all false
attribute [local go_sem] Oper.semAt_some

set_option maxRecDepth 100000 in
set_option maxHeartbeats 2000000 in
/-- the iterator of slices.Values: all texts come, in order -/
theorem values1_in (w : World) (F : Fence) (n : Nat) (hf : F.fn 60) (hro : F.round = none) (hn : 1 ≤ n) (l Bs b off len cap : Nat) (zs : List (List UInt8)) (hlen : len = zs.length) (hreach : len ≤ 1048576) (hb : b < w.heap.size) (hBs : Bs < w.heap.size) (J : List (List UInt8) → World → Prop)
    (hJB : ∀ s W, J s W → Below w.heap.size w W)
    (hY : ∀ pre x W, J pre W → pre.length < len → YieldAt F (n - 1) Tryz.prog l #[encStr x] W fun e W' => e = .returned (.bool true) ∧ J (pre ++ [x]) W' ∧ KeepsWalks W W')
    (W : World) (hB : w.cell? ⟨Bs, 0, none⟩ = some (.slice (some ⟨b, off, none⟩) len cap)) (hc : ∀ j, j < len → w.cell? ⟨b, off + j, none⟩ = some (encStr (zs[j]?.getD []))) (h0 : J [] W) :
    CallsIn F n Tryz.prog 60 #[.func (.yield l) #[] #[], .pointer (some ⟨Bs, 0, none⟩)] W fun e W' => (∃ v, e = .returned v) ∧ J zs W' := by
  have hBs' := ((hJB _ _ h0).cell (p := ⟨Bs, 0, none⟩) hBs).trans hB
  refine callsIn_of_wp Tryz.func60 rfl hf ?_ hro
  simp only [Tryz.ntmps60, List.size_toArray, List.length_cons, List.length_nil, Nat.reduceAdd, Nat.reduceSub, Array.replicate_succ, Array.replicate_zero, List.push_toArray, List.append_toArray, List.nil_append, List.cons_append]
  gi_wp2
  gi_loopw [7] (fun i wr => ∃ k : Nat, k ≤ len ∧ i = .int .i64 k ∧ J (zs.take k) wr)
    (fun i _ => len - (intOf i).toNat)
  case atStart => exact ⟨0, Nat.zero_le _, rfl, h0⟩
  case round =>
    obtain ⟨k, hk, rfl, hJs⟩ := hrel
    have hcx : k < len → wr.cell? ⟨b, off + k, none⟩ = some (encStr (zs[k]?.getD [])) := fun h => ((hJB _ _ hJs).cell (p := ⟨b, off + k, none⟩) hb).trans (hc k h)
    by_cases hlt : k < len
    · obtain ⟨fn, tmps, assign, body, hy, hR⟩ := hY _ (zs[k]?.getD []) wr hJs (by simp; omega)
      have hcx' := hcx hlt
      have hst : zs.take (k + 1) = zs.take k ++ [zs[k]?.getD []] := by
        have h1 : k < zs.length := by omega
        rw [List.take_succ_eq_append_getElem h1]; simp [h1]
      clear hcx
      generalize zs[k]?.getD [] = x at hcx' hy hR hst
      gi_wp2
      refine hR.mono ?_
      rintro e W3 ⟨rfl, hJ3, hk3⟩
      gi_wp2
      go_roundw
      case rel => exact ⟨k + 1, by omega, by simp, by rw [hst]; exact hJ3⟩
      case measure => simp [intOf]; omega
    · obtain rfl : k = len := by omega
      gi_wp2
      go_end0
      rw [List.take_of_length_le (by omega)] at hJs
      exact ⟨⟨_, rfl⟩, hJs⟩

set_option maxRecDepth 100000 in
set_option maxHeartbeats 1000000 in
/-- .. at no element: no round. -/
theorem values0_in (F : Fence) (n : Nat) (hf : F.fn 60) (hro : F.round = none) (l Bs : Nat) (p : Option Addr) (cap : Nat) (J : List (List UInt8) → World → Prop) (W : World) (hBs : W.cell? ⟨Bs, 0, none⟩ = some (.slice p 0 cap)) (h0 : J [] W) :
    CallsIn F n Tryz.prog 60 #[.func (.yield l) #[] #[], .pointer (some ⟨Bs, 0, none⟩)] W fun e W' => (∃ v, e = .returned v) ∧ J [] W' := by
  refine callsIn_of_wp Tryz.func60 rfl hf ?_ hro
  simp only [Tryz.ntmps60, List.size_toArray, List.length_cons, List.length_nil, Nat.reduceAdd, Nat.reduceSub, Array.replicate_succ, Array.replicate_zero, List.push_toArray, List.append_toArray, List.nil_append, List.cons_append]
  gi_wp2
  gi_loopw [7] (fun i wr => i = .int .i64 0 ∧ J [] wr) (fun _ _ => 0)
  case atStart => exact ⟨rfl, h0⟩
  case round =>
    obtain ⟨rfl, hJs⟩ := hrel
    gi_wp2
    go_end0
    exact ⟨⟨_, rfl⟩, hJs⟩

theorem collectOk : CollectStr Tryz.prog 79 60 := fun w Bs sv L hB hl hsv => by
  have hBs : Bs < w.heap.size := World.block_lt_of_cell? w ⟨Bs, 0, none⟩ hB
  have hseq : SeqGivesB Fence.wide 1 Tryz.prog 60 #[.pointer (some ⟨Bs, 0, none⟩)] (fun ss => ss = L) L.length w := fun l J W hW _ hJB hY h0 => by
    by_cases hL : L = []
    · subst hL
      obtain ⟨p, cap, rfl⟩ : ∃ p cap, sv = .slice p 0 cap := by
        rcases hsv with ⟨rfl, -⟩ | ⟨ad, cap, rfl, -⟩
        · exact ⟨_, _, rfl⟩
        · exact ⟨_, _, rfl⟩
      refine (values0_in Fence.wide 1 trivial rfl l Bs p cap J W ((hW.cell (p := ⟨Bs, 0, none⟩) hBs).trans hB) h0).mono ?_
      rintro e W' ⟨h1, h2⟩
      exact ⟨h1, [], rfl, h2⟩
    · rcases hsv with ⟨-, h⟩ | ⟨⟨b, off, sp⟩, cap, rfl, hc⟩
      · exact absurd h hL
      obtain ⟨rfl, hc⟩ := hc hL
      have hpos := List.length_pos_iff.2 hL
      have hb : b < w.heap.size := World.block_lt_of_cell? w ⟨b, off + 0, none⟩ (hc 0 _ (List.getElem?_eq_getElem hpos))
      refine (values1_in w Fence.wide 1 trivial rfl (Nat.le_refl _) l Bs b off L.length cap L rfl hl hb hBs J hJB (fun pre x W h1 h2 => hY pre x W h1 h2) W hB (fun j hj => ?_) h0).mono ?_
      · rw [hc j _ (List.getElem?_eq_getElem hj)]
        simp [hj]
      rintro e W' ⟨h1, h2⟩
      exact ⟨h1, L, rfl, h2⟩
  refine (callsIn_wide.1 (appendSeqB_in Tryz.laysZ11 Fence.wide 2 trivial rfl (Nat.le_refl _) 60 _ trivial (enters_of Tryz.func60 (by kernel_rfl) rfl) (fun ss => ss = L) L.length (by simp [maxLen]; omega) (by omega) w hseq)).mono ?_
  rintro e w' ⟨v, ss, rfl, rfl, h1, h2, h3⟩
  exact ⟨v, _, rfl, h1, h2, h3⟩

theorem sortOk : SortStr Tryz.prog 59 := fun blk off cap ss w hH hblk hsz => Tryz.slices_Sort_string blk off cap ss w hH hblk hsz
theorem sort0Ok (p : Option Addr) (cap : Nat) (w : World) : Calls Tryz.prog 59 #[.slice p 0 cap] w fun e w' => e = .returned (.tuple #[]) ∧ w' = w := Tryz.slices_Sort_string_none p cap w
theorem compactOk : CompactStr Tryz.prog 42 := ⟨fun blk off cap ss w hH h1 h2 => Tryz.slices_Compact_string blk off cap ss w hH h1 h2, fun a cap w => Tryz.slices_Compact_string_empty a cap w⟩

end Zy
end Go.Proofs

namespace Go.Proofs.Zy
open Go Go.Zam Go.Proofs Classical
set_option maxRecDepth 100000
set_option linter.all false
theorem ycf15 : compF Tryz.prog [] Tryz.f15 = some (irRStatic 15 25) := by kernel_rfl
theorem yh15 : Has Tryz.prog 15 (irRStatic 15 25) := ⟨_, Tryz.func15, ycf15⟩
theorem ycf16 : compF Tryz.prog [] Tryz.f16 = some (irRSame 16 25) := by kernel_rfl
theorem yh16 : Has Tryz.prog 16 (irRSame 16 25) := ⟨_, Tryz.func16, ycf16⟩
theorem ycf19 : compF Tryz.prog [28] Tryz.f19 = some (irTyRecord 41 40 43 42 44 25) := by kernel_rfl
theorem yh19 : HasT Tryz.prog [28] 19 (irTyRecord 41 40 43 42 44 25) := ⟨_, Tryz.func19, ycf19⟩
theorem ycf25 : compF Tryz.prog [] Tryz.f25 = some (irTRight 25 25 48) := by kernel_rfl
theorem yh25 : Has Tryz.prog 25 (irTRight 25 25 48) := ⟨_, Tryz.func25, ycf25⟩
theorem ycf26 : compF Tryz.prog [] Tryz.f26 = some (irTyDepth 26 25) := by kernel_rfl
theorem yh26 : Has Tryz.prog 26 (irTyDepth 26 25) := ⟨_, Tryz.func26, ycf26⟩
theorem ycf27 : compF Tryz.prog [] Tryz.f27 = some (irTyField 49 25) := by kernel_rfl
theorem yh27 : Has Tryz.prog 27 (irTyField 49 25) := ⟨_, Tryz.func27, ycf27⟩
theorem ycf31 : compF Tryz.prog [] Tryz.f31 = some (irTyRight 50 31 25) := by kernel_rfl
theorem yh31 : Has Tryz.prog 31 (irTyRight 50 31 25) := ⟨_, Tryz.func31, ycf31⟩
theorem ycf32 : compF Tryz.prog [3, 6] Tryz.f32 = some (irTyText 32 51 25 9) := by kernel_rfl
theorem yh32 : HasT Tryz.prog [3, 6] 32 (irTyText 32 51 25 9) := ⟨_, Tryz.func32, ycf32⟩
theorem ycf33 : compF Tryz.prog [] Tryz.f33 = some (irTyParse 52 53 25 66) := by kernel_rfl
theorem yh33 : Has Tryz.prog 33 (irTyParse 52 53 25 66) := ⟨_, Tryz.func33, ycf33⟩
theorem ycf34 : compF Tryz.prog [] Tryz.f34 = some (irTySame 54 47 34 25) := by kernel_rfl
theorem yh34 : Has Tryz.prog 34 (irTySame 54 47 34 25) := ⟨_, Tryz.func34, ycf34⟩
theorem ycf35 : compF Tryz.prog [] Tryz.f35 = some (irRDepth 35 25) := by kernel_rfl
theorem yh35 : Has Tryz.prog 35 (irRDepth 35 25) := ⟨_, Tryz.func35, ycf35⟩
theorem ycf36 : compF Tryz.prog [] Tryz.f36 = some (irTyStatic 55 56 25) := by kernel_rfl
theorem yh36 : Has Tryz.prog 36 (irTyStatic 55 56 25) := ⟨_, Tryz.func36, ycf36⟩
theorem ycf37 : compF Tryz.prog [] Tryz.f37 = some (irRField 25) := by kernel_rfl
theorem yh37 : Has Tryz.prog 37 (irRField 25) := ⟨_, Tryz.func37, ycf37⟩
theorem ycf38 : compF Tryz.prog [] Tryz.f38 = some (irRText 38 25) := by kernel_rfl
theorem yh38 : Has Tryz.prog 38 (irRText 38 25) := ⟨_, Tryz.func38, ycf38⟩
theorem ycf39 : compF Tryz.prog [] Tryz.f39 = some (irTSmall 25 57) := by kernel_rfl
theorem ycf57 : compF Tryz.prog [] Tryz.f57 = some (irTSize 25 57) := by kernel_rfl
theorem ycf17 : compF Tryz.prog [] Tryz.f17 = some (irTLight 25 39) := by kernel_rfl
theorem ycf40 : compF Tryz.prog [] Tryz.f40 = some (irSlSorted 58 59) := by kernel_rfl
theorem yh40 : Has Tryz.prog 40 (irSlSorted 58 59) := ⟨_, Tryz.func40, ycf40⟩
theorem ycf41 : compF Tryz.prog [] Tryz.f41 = some (irSlValues 60 22) := by kernel_rfl
theorem yh41 : Has Tryz.prog 41 (irSlValues 60 22) := ⟨_, Tryz.func41, ycf41⟩
theorem ycf47 : compF Tryz.prog [] Tryz.f47 = some (irTyEqF 25) := by kernel_rfl
theorem yh47 : Has Tryz.prog 47 (irTyEqF 25) := ⟨_, Tryz.func47, ycf47⟩
theorem ycf49 : compF Tryz.prog [] Tryz.f49 = some (irSlBins 64 65) := by kernel_rfl
theorem yh49 : Has Tryz.prog 49 (irSlBins 64 65) := ⟨_, Tryz.func49, ycf49⟩
theorem ycf53 : compF Tryz.prog [] Tryz.f53 = some (irTyOf 77 26 66 25) := by kernel_rfl
theorem yh53 : Has Tryz.prog 53 (irTyOf 77 26 66 25) := ⟨_, Tryz.func53, ycf53⟩
theorem ycf54 : compF Tryz.prog [] Tryz.f54 = some (irSlEqS) := by kernel_rfl
theorem yh54 : Has Tryz.prog 54 (irSlEqS) := ⟨_, Tryz.func54, ycf54⟩
theorem ycf55 : compF Tryz.prog [] Tryz.f55 = some (irTyHasF 78) := by kernel_rfl
theorem yh55 : Has Tryz.prog 55 (irTyHasF 78) := ⟨_, Tryz.func55, ycf55⟩
theorem ycf56 : compF Tryz.prog [] Tryz.f56 = some (irTyStaticN 36 25) := by kernel_rfl
theorem yh56 : Has Tryz.prog 56 (irTyStaticN 36 25) := ⟨_, Tryz.func56, ycf56⟩
theorem ycf64 : compF Tryz.prog [] Tryz.f64 = some (irCmpLess 82) := by kernel_rfl
theorem yh64 : Has Tryz.prog 64 (irCmpLess 82) := ⟨_, Tryz.func64, ycf64⟩
theorem ycf65 : compF Tryz.prog [] Tryz.f65 = some (irSlIsNaN) := by kernel_rfl
theorem yh65 : Has Tryz.prog 65 (irSlIsNaN) := ⟨_, Tryz.func65, ycf65⟩
theorem ycf82 : compF Tryz.prog [] Tryz.f82 = some (irSlIsNaN) := by kernel_rfl
theorem yh82 : Has Tryz.prog 82 (irSlIsNaN) := ⟨_, Tryz.func82, ycf82⟩
theorem ycf77 : compF Tryz.prog [29] Tryz.f77 = some (irTyOfN 98 77 66 25 9) := by kernel_rfl
theorem yh77 : HasT Tryz.prog [29] 77 (irTyOfN 98 77 66 25 9) := ⟨_, Tryz.func77, ycf77⟩
theorem ycf78 : compF Tryz.prog [] Tryz.f78 = some (irTyIdxF) := by kernel_rfl
theorem yh78 : Has Tryz.prog 78 (irTyIdxF) := ⟨_, Tryz.func78, ycf78⟩
theorem ycf98 : compF Tryz.prog [4, 5] Tryz.f98 = some (irTyRecN 77 19 66 25 9) := by kernel_rfl
theorem yh98 : HasT Tryz.prog [4, 5] 98 (irTyRecN 77 19 66 25 9) := ⟨_, Tryz.func98, ycf98⟩
theorem ycf58 : compF Tryz.prog [] Tryz.f58 = some (irSlCollect 79) := by kernel_rfl
theorem yh58 : Has Tryz.prog 58 (irSlCollect 79) := ⟨_, Tryz.func58, ycf58⟩
theorem ycf44 : compF Tryz.prog [] Tryz.f44 = some (irSlIdx) := by kernel_rfl
theorem yh44 : Has Tryz.prog 44 (irSlIdx) := ⟨_, Tryz.func44, ycf44⟩
theorem ycf74 : compF Tryz.prog [] Tryz.f74 = some (irPNow 95) := by kernel_rfl
theorem yh74 : Has Tryz.prog 74 (irPNow 95) := ⟨_, Tryz.func74, ycf74⟩
theorem ycf75 : compF Tryz.prog [] Tryz.f75 = some (irPFail) := by kernel_rfl
theorem yh75 : Has Tryz.prog 75 (irPFail) := ⟨_, Tryz.func75, ycf75⟩
theorem ycf120 : compF Tryz.prog [] Tryz.f120 = some (irPIs 74 95) := by kernel_rfl
theorem yh120 : Has Tryz.prog 120 (irPIs 74 95) := ⟨_, Tryz.func120, ycf120⟩
theorem ycf91 : compF Tryz.prog [] Tryz.f91 = some (irPTook 120) := by kernel_rfl
theorem yh91 : Has Tryz.prog 91 (irPTook 120) := ⟨_, Tryz.func91, ycf91⟩
theorem ycf95 : compF Tryz.prog [] Tryz.f95 = some (irPWant 91 75) := by kernel_rfl
theorem yh95 : Has Tryz.prog 95 (irPWant 91 75) := ⟨_, Tryz.func95, ycf95⟩
theorem ycf94 : compF Tryz.prog [] Tryz.f94 = some (irPWord 74 75 95) := by kernel_rfl
theorem yh94 : Has Tryz.prog 94 (irPWord 74 75 95) := ⟨_, Tryz.func94, ycf94⟩
theorem ycf90 : compF Tryz.prog [10] Tryz.f90 = some (irPNode 66) := by kernel_rfl
theorem yh90 : HasT Tryz.prog [10] 90 (irPNode 66) := ⟨_, Tryz.func90, ycf90⟩
theorem ycf97 : compF Tryz.prog [] Tryz.f97 = some (irPDone 66) := by kernel_rfl
theorem yh97 : Has Tryz.prog 97 (irPDone 66) := ⟨_, Tryz.func97, ycf97⟩
theorem ycf96 : compF Tryz.prog [] Tryz.f96 = some (irPPut 66) := by kernel_rfl
theorem yh96 : Has Tryz.prog 96 (irPPut 66) := ⟨_, Tryz.func96, ycf96⟩
theorem ycf92 : compF Tryz.prog [] Tryz.f92 = some (irPList 91 96 95) := by kernel_rfl
theorem yh92 : Has Tryz.prog 92 (irPList 91 96 95) := ⟨_, Tryz.func92, ycf92⟩
theorem ycf73 : compF Tryz.prog [] Tryz.f73 = some (irPKind 90 91 93 92 95 73 96 75 97 90 66) := by kernel_rfl
theorem yh73 : Has Tryz.prog 73 (irPKind 90 91 93 92 95 73 96 75 97 90 66) := ⟨_, Tryz.func73, ycf73⟩
theorem ycf93 : compF Tryz.prog [] Tryz.f93 = some (irPTField 90 94 95 73 96 97 66) := by kernel_rfl
theorem yh93 : Has Tryz.prog 93 (irPTField 90 94 95 73 96 97 66) := ⟨_, Tryz.func93, ycf93⟩
theorem ycf52 : compF Tryz.prog [] Tryz.f52 = some (irPType 72 73 74 75 76 66 92) := by kernel_rfl
theorem yh52 : Has Tryz.prog 52 (irPType 72 73 74 75 76 66 92) := ⟨_, Tryz.func52, ycf52⟩
theorem ycf76 : compF Tryz.prog [] Tryz.f76 = some (irTDepth 76 66) := by kernel_rfl
theorem yh76 : Has Tryz.prog 76 (irTDepth 76 66) := ⟨_, Tryz.func76, ycf76⟩
theorem ycf43 : compF Tryz.prog [1000005] Tryz.f43 = some (irCloneM 1 16 9) := by kernel_rfl
theorem yh43 : HasT Tryz.prog [1000005] 43 (irCloneM 1 16 9) := ⟨_, Tryz.func43, ycf43⟩
theorem kSame : callOk Tryz.prog 34 = true := by kernel_rfl
theorem sameOk (v : T) (hv : v.Fit 1048576) : SameT Tryz.prog 34 v := Has.tySame yh34 yh54 yh47 kSame v hv
theorem rSameOk (v : T) (hv : v.Fit 1048576) : SameT Tryz.prog 16 v := Has.rSame yh16 v hv
theorem lessOk (a b : Str') (H : Hp) : ACall Tryz.prog 64 [.d (.str a), .d (.str b)] H (fun r H' => r = .d (.bool (Op.bytesLess a b)) ∧ H' = H) := Has.cmpLess yh64 yh82 a b H
theorem fieldOk : FieldT Tryz.prog 27 := Has.tyField yh27 (fun z ns x hi hl H => Has.slBins yh49 lessOk yh65 z ns x hi hl H)
theorem rRightOk (v : T) (hv : v.Fit 1048576) : RightT Tryz.prog 25 v := Has.rRight yh25 risNameOk v hv
theorem sizeOk (v : T) (hv : v.Fit 1048576) (m d : Int) (H : Hp) : ACall Tryz.prog 57 [v.a, .d (.int .i64 m), .d (.int .i64 d)] H (fun r H' => (∃ c : Int, r = .d (.int .i64 c)) ∧ H' = H) := tsize_acall Tryz.func57 ycf57 v hv m d H
theorem smallOk (v : T) (hv : v.Fit 1048576) (m d : Int) (H : Hp) : ACall Tryz.prog 39 [v.a, .d (.int .i64 m), .d (.int .i64 d)] H (fun r H' => (∃ c : Bool, r = .d (.bool c)) ∧ H' = H) := tsmall_acall Tryz.func39 ycf39 sizeOk v hv m d H
theorem lightOk (v : T) (hv : v.Fit 1048576) (H : Hp) : ACall Tryz.prog 17 [v.a] H (fun r H' => (∃ c : Bool, r = .d (.bool c)) ∧ H' = H) := tlight_acall Tryz.func17 ycf17 smallOk v hv H
theorem sortedOk {L : List Str'} (hl : L.length ≤ 1048576) {H : Hp} {i bt : Nat} {z : Bool} (hi : H[i]? = some (.box bt [.d (.sl z 1 (L.map Go.Zam.encStr))])) : ACall Tryz.prog 40 [.fn (.func 60) [] [.ptr i 0]] H (fun r H' => r = .d (.sl L.isEmpty 1 ((msort L).map Go.Zam.encStr)) ∧ H' = H) := Has.slSorted yh40 yh58 collectOk sortOk sort0Ok hl hi
theorem recordOk : RecT Tryz.prog 19 := Has.tyRecord (fa := 0) (fso := 0) yh19 yh41 sortedOk yh43 compactOk yh44
theorem tDepthOk (v : T) (hv : v.Fit 1048576) (hd : v.dep ≤ 1125899906842624) (H : Hp) : ACall Tryz.prog 26 [v.a] H (fun r H' => r = .d (.int .i64 (v.dep : Int)) ∧ H' = H) := Has.tyDepth yh26 v hv hd H
theorem ofNOk (n : N) (hn : n.size ≤ 1048576) : OfT Tryz.prog 77 n := (Has.tyOfN yh77 yh98 recordOk n hn).1
def F : PF := { now := 74, fail := 75, is := 120, took := 91, want := 95, word := 94, node := 90, done := 97, put := 96, list := 92, file := 0, use_ := 0, def_ := 0, params := 0, param := 0, typed := 0, kind := 73, tfield := 93, block := 0, stmt := 0, sets := 0, expr := 0, with_ := 0, sum := 0, term := 0, post := 0, atom := 0, entry := 0, tn := 66, tt := 95, tp := 92, tb := 90 }
theorem hasK : KHas Tryz.prog F where
  now := yh74
  fail := yh75
  is := yh120
  took := yh91
  want := yh95
  word := yh94
  node := yh90
  done := yh97
  put := yh96
  list := yh92
  kind := yh73
  tfield := yh93
  kTField := by kernel_rfl
  kKind := by kernel_rfl
theorem typeOk {H0 : Hp} (hG : TabsG 1 2 3 4 H0) (s : Bs) (hs : s.length ≤ 1048576) (H : Hp) (hH : Pre0 H0 H) : ACall Tryz.prog 52 [.d (.str s)] H (fun r H' => r = .tup [(typeO s).1.v, .d (.int .i64 (typeO s).2)] ∧ H' = H) := Has.type_ (F := F) yh52 hasK yh76 (fun s hs H hH => lexOk hG s hs H hH) s hs H hH
theorem tyOfOk (n : N) (hn : n.size ≤ 1048576) (hw : n.Wd 1048576) (H : Hp) : ACall Tryz.prog 53 [n.v] H (fun r H' => r = .tup [n.typ.1.a, .d (.int .i64 n.typ.2)] ∧ H' = H) := Has.tyOf yh53 n (ofNOk n hn) (fun H => tDepthOk _ (N.ty_ok n hn hw).1.1 (by have := (N.ty_ok n hn hw).1.2; omega) H) H
theorem tyParseOk {H0 : Hp} (hG : TabsG 1 2 3 4 H0) (s : Bs) (hs : s.length ≤ 1048576) (H : Hp) (hH : Pre0 H0 H) : ACall Tryz.prog 33 [.d (.str s)] H (fun r H' => r = .tup [(typO s).1.a, .d (.int .i64 (typO s).2)] ∧ H' = H) := Has.tyParse yh33 s H hH (fun H hH => typeOk hG s hs H hH) (fun H => tyOfOk _ (typeO_ok s hs).1 (typeO_ok s hs).2 H)
end Go.Proofs.Zy

namespace Go.Proofs.Zy
open Go Go.Zam Go.Proofs Classical
set_option maxRecDepth 100000
set_option linter.all false
theorem rStaticOk (v : T) (hv : v.Fit 1048576) : StaticT Tryz.prog 15 v := Has.rStatic yh15 v hv
end Go.Proofs.Zy

namespace Go.Proofs.Zy
open Go Go.Zam Go.Proofs
set_option maxRecDepth 100000
set_option linter.all false
theorem tfit_of {b : Nat} (v : T) : D.bulkC v.enc ≤ b → v.Fit b := by
  induction v using T.ind with
  | h k z ns y ps ih =>
  intro hb
  simp only [T.enc_mk, D.bulkC, D.bulk] at hb
  have l1 := bulkR_len (enc := Go.Zam.encStr) (fun m => by simp only [Go.Zam.encStr, D.bulkC, D.bulk]; omega) ns
  have l2 := bulkR_len (enc := T.enc) (fun m => by cases m; simp only [T.enc_mk, D.bulkC, D.bulk]; omega) ps
  refine .mk _ _ _ _ _ (by omega) (by omega) (fun x hx => ?_) (fun p hp => ih p hp ?_)
  · have := bulkR_mem (List.mem_map_of_mem (f := Go.Zam.encStr) hx)
    simp only [Go.Zam.encStr, D.bulkC, D.bulk] at this
    omega
  · have := bulkR_mem (List.mem_map_of_mem (f := T.enc) hp)
    omega

theorem ty25 : ∀ n ds, Typed Tryz.prog n 25 ds → ∃ v : T, ds = v.enc ∧ True := by
  intro n
  induction n using Nat.strongRecOn with
  | ind n ih =>
  intro ds h
  obtain ⟨m, rfl, h⟩ := typed_structR Tryz.underlying25 h
  obtain ⟨a, r, rfl, ha, d, r, rfl, hd, e, r, rfl, he, rfl⟩ := h
  obtain ⟨k, rfl, -⟩ := typed_i64 Tryz.underlying3 ha
  obtain ⟨z, ns, rfl⟩ := typed_sl (sz := 1) (enc := Go.Zam.encStr) Tryz.underlying22 (by kernel_rfl) (fun n ds h => by
    obtain ⟨x, rfl⟩ := typed_str Tryz.underlying9 h
    exact ⟨x, rfl⟩) hd
  obtain ⟨y, ps, rfl, hp⟩ := typed_slR (sz := 3) (enc := T.enc) (R := fun _ => True) Tryz.underlying23 (by kernel_rfl) (fun q hq ds h => ih q (by omega) ds h) he
  exact ⟨.mk k z ns y ps, by rw [T.enc_mk]; rfl, trivial⟩

theorem arg_typ {n : Nat} {ds : List D} {a : A} (h : Typed Tryz.prog n 25 ds) (ha : ArgOf Tryz.prog 25 ds a) : ∃ v : T, a = v.a ∧ D.bulkC v.enc = D.bulkC ds := by
  obtain ⟨v, rfl, -⟩ := ty25 n ds h
  refine ⟨v, ?_, rfl⟩
  unfold ArgOf at ha
  rw [Tryz.underlying25] at ha
  exact ha

end Go.Proofs.Zy

namespace Go.Proofs
open Go.Shelf
def Tryz.lays156_ren : Go.Shelf.Ren := ⟨fun | 156 => 51 | 165 => 69 | 166 => 70 | 169 => 71 | 240 => 85 | 241 => 86 | 276 => 109 | 277 => 110 | n => n, fun | 31 => 22 | 9 => 9 | 3 => 3 | 4 => 4 | 0 => 0 | 20 => 20 | 72 => 80 | 76 => 84 | 70 => 77 | 37 => 78 | 75 => 83 | 127 => 105 | 164 => 130 | 5 => 5 | 80 => 86 | n => n, fun | n => n⟩
theorem Tryz.lays156 : Go.Proofs.Lays.n156 Tryz.prog Tryz.lays156_ren := {
  mixed := by kernel_rfl
  f156 := Tryz.func51.trans (congrArg some (by kernel_rfl))
  f165 := Tryz.func69.trans (congrArg some (by kernel_rfl))
  f166 := Tryz.func70.trans (congrArg some (by kernel_rfl))
  f169 := Tryz.func71.trans (congrArg some (by kernel_rfl))
  f240 := Tryz.func85.trans (congrArg some (by kernel_rfl))
  f241 := Tryz.func86.trans (congrArg some (by kernel_rfl))
  f276 := Tryz.func109.trans (congrArg some (by kernel_rfl))
  f277 := Tryz.func110.trans (congrArg some (by kernel_rfl))
  t0 := Tryz.underlying0
  a0 := Tryz.isAgg0
  z0 := Tryz.sizeOf0
  v0 := Tryz.zeroValue0
  t3 := Tryz.underlying3
  a3 := Tryz.isAgg3
  z3 := Tryz.sizeOf3
  v3 := Tryz.zeroValue3
  t4 := Tryz.underlying4
  a4 := Tryz.isAgg4
  z4 := Tryz.sizeOf4
  v4 := Tryz.zeroValue4
  t9 := Tryz.underlying9
  a9 := Tryz.isAgg9
  z9 := Tryz.sizeOf9
  v9 := Tryz.zeroValue9
  t20 := Tryz.underlying20
  a20 := Tryz.isAgg20
  z20 := Tryz.sizeOf20
  v20 := Tryz.zeroValue20
  t31 := Tryz.underlying22
  a31 := Tryz.isAgg22
  z31 := Tryz.sizeOf22
  v31 := Tryz.zeroValue22
  t37 := Tryz.underlying78
  a37 := Tryz.isAgg78
  z37 := Tryz.sizeOf78
  v37 := Tryz.zeroValue78
  t70 := Tryz.underlying77
  a70 := Tryz.isAgg77
  z70 := Tryz.sizeOf77
  v70 := Tryz.zeroValue77
  t72 := Tryz.underlying80
  a72 := Tryz.isAgg80
  z72 := Tryz.sizeOf80
  v72 := Tryz.zeroValue80
  t75 := Tryz.underlying83
  a75 := Tryz.isAgg83
  z75 := Tryz.sizeOf83
  v75 := Tryz.zeroValue83
  t76 := Tryz.underlying84
  a76 := Tryz.isAgg84
  z76 := Tryz.sizeOf84
  v76 := Tryz.zeroValue84
  t127 := Tryz.underlying105
  a127 := Tryz.isAgg105
  z127 := Tryz.sizeOf105
  v127 := Tryz.zeroValue105
  t164 := Tryz.underlying130
  a164 := Tryz.isAgg130
  z164 := Tryz.sizeOf130
  v164 := Tryz.zeroValue130 }
end Go.Proofs

namespace Go.Proofs.Zy
open Go Go.Zam Go.Proofs Classical
set_option maxRecDepth 100000
set_option linter.all false
theorem joinExtra : Builder.Extra Tryz.prog Tryz.lays156_ren := {
  sizeBuilder := by kernel_rfl
  liesBuilder := by kernel_rfl
  t5 := Tryz.underlying5
  a5 := Tryz.isAgg5
  z5 := Tryz.sizeOf5
  v5 := Tryz.zeroValue5
  infoByte := by kernel_rfl
  cellsByte := by kernel_rfl
  sizeByte := by kernel_rfl
  neB5 := by decide }
theorem joinSOk : JoinS Tryz.prog 51 := fun z xs sep hN hl H => join_leaf Tryz.lays156 joinExtra z xs sep hN hl H
theorem textOk (v : T) (hv : v.Fit 1048576) (hw : v.wt ≤ 1099511627776) : TextT Tryz.prog 32 v := HasT.tyText yh32 joinSOk v hv hw
theorem ycf18 : compF Tryz.prog [] Tryz.f18 = some (irTAwake9 33 32 25) := by kernel_rfl
theorem yh18 : Has Tryz.prog 18 (irTAwake9 33 32 25) := ⟨_, Tryz.func18, ycf18⟩
theorem awake9Ok {H0 : Hp} (hG : TabsG 1 2 3 4 H0) : AwakeT Tryz.prog H0 18 := Has.tAwake9 yh18 (fun s hs H hH => tyParseOk hG s hs H hH) textOk
theorem arg_str {n : Nat} {ds : List D} {a : A} (h : Typed Tryz.prog n 9 ds) (ha : ArgOf Tryz.prog 9 ds a) : ∃ s : Str', a = .d (.str s) ∧ s.length ≤ D.bulkC ds := by
  obtain ⟨x, rfl⟩ := typed_str Tryz.underlying9 h
  exact ⟨x, argOf_one (by rw [Tryz.underlying9]; simp) ha, by simp only [D.bulkC, D.bulk]; omega⟩
end Go.Proofs.Zy

namespace Go.Proofs.Zy
open Go Go.Zam Go.Proofs Classical
set_option maxRecDepth 100000
set_option linter.all false
theorem ycf11 : compF Tryz.prog [] Tryz.f11 = some (irLAsks 18 17 31 25 26 35 36 15 34 16 27 37 32 38 25) := by kernel_rfl
theorem yh11 : Has Tryz.prog 11 (irLAsks 18 17 31 25 26 35 36 15 34 16 27 37 32 38 25) := ⟨_, Tryz.func11, ycf11⟩
theorem kStatic : callOk Tryz.prog 56 = true := by kernel_rfl
theorem tRightOk (v : T) (hv : v.Fit 1048576) : RightT Tryz.prog 31 v := Has.tyRight yh31 isNameOk v hv
theorem rDepthOk (v : T) (hv : v.Fit 1048576) (hd : v.dep ≤ 1125899906842624) (H : Hp) : ACall Tryz.prog 35 [v.a] H (fun r H' => r = .d (.int .i64 (v.dep : Int)) ∧ H' = H) := Has.rDepth yh35 v hv hd H
theorem tStaticOk (v : T) (hv : v.Fit 1048576) : StaticT Tryz.prog 36 v := Has.tyStatic yh36 yh55 yh78 yh56 kStatic v hv
theorem rFieldOk : FieldT Tryz.prog 37 := Has.rField yh37
theorem rTextOk (v : T) (hv : v.Fit 1048576) (hw : v.wt ≤ 1099511627776) (hr : v.st.Rt) : TextT Tryz.prog 38 v := Has.rText yh38 v hv hw hr
theorem lAsksOk {H0 : Hp} (hG : TabsG 1 2 3 4 H0) (v w : T) (x : Str') (hv : v.Fit 1048576) (hw : w.Fit 1048576) (hx : x.length ≤ 1048576) (hvd : v.dep ≤ 1048576) (hvw : v.wt ≤ 1099511627776) (H : Hp) (hH : Pre0 H0 H) :
    ACall Tryz.prog 11 [v.a, w.a, .d (.str x)] H (fun r H' => r = .d (.bool true) ∧ H' = H) :=
  Has.lAsks yh11 (awake9Ok hG) (fun v hv H => lightOk v hv H) tRightOk rRightOk (fun v hv hd H => tDepthOk v hv hd H) (fun v hv hd H => rDepthOk v hv hd H) tStaticOk rStaticOk sameOk rSameOk fieldOk rFieldOk textOk rTextOk v w x hv hw hx hvd hvw H hH
end Go.Proofs.Zy
