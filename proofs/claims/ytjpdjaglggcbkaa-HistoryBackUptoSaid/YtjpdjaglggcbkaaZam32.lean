/-
  An abstract machine over the model, thirty-second part: IndexFunc; an array handed back in a pair; maps from names. No condition.
-/
import Derived.Test.YtjpdjaglggcbkaaZam31
namespace Go.Zam
set_option linter.all false
set_option maxRecDepth 100000
set_option maxHeartbeats 1000000

/-- a call that yields an array that it made, in a pair -/
theorem ACall.freeze2 {P : Program} {f : FuncId} {args : List A} {H X : Hp} {k sz : Nat} {rows : List (List D)} {y : D} (hX : X[k]? = some (.arr sz (rows.map (List.map .d)))) (h : ACall P f args H (fun r H' => r = .tup [.msl (H.length + k) 0 rows.length, .d y] ∧ H' = H ++ X)) :
    ACall P f args H (fun r H' => r = .tup [.d (.sl false sz rows), .d y] ∧ H' = H) := by
  intro κ w vs hr hl hv
  refine (h κ w vs hr hl hv).mono ?_
  rintro e w' ⟨v, κ', x, H', h1, h2, h3, h4, rfl, rfl⟩
  cases h4 with
  | tup us _ hul hu =>
  match us, hul with
  | [u0, u1], _ =>
  have v0 := hu 0 u0 _ rfl rfl
  have v1 := hu 1 u1 _ rfl rfl
  obtain ⟨κ2, k1, k2, k3⟩ := h3.freezeArr (i := H.length + k) (sz := sz) (rows := rows) (by rw [getElem?_appk]; exact hX) v0
  rw [set_appk] at k2
  refine ⟨_, κ2.cut H.length, .tup [.d (.sl false sz rows), .d y], Hp.cut H.length (H ++ X.set k .dead), h1, K.le_cut (h2.trans k1) hr.dom, k2.cut _ (by simp), ?_, rfl, cut_app hr.closed _⟩
  refine .tup [u0, u1] _ rfl fun i v a hv ha => ?_
  match i with
  | 0 => simp at hv ha; subst hv; subst ha; exact VR.clr H.length k3
  | 1 => simp at hv ha; subst hv; subst ha; exact VR.clr H.length (v1.mono k1)
  | i + 2 => simp at hv

def indexP {α : Type} (p : α → Bool) : List α → Option Nat
  | [] => none
  | x :: r => if p x then some 0 else (indexP p r).map (· + 1)

def indexI {α : Type} (p : α → Bool) (l : List α) : Int := match indexP p l with | some k => k | none => -1

theorem indexP_append {α : Type} (p : α → Bool) : ∀ (a b : List α), (∀ x ∈ a, p x = false) → indexP p (a ++ b) = (indexP p b).map (· + a.length)
  | [], b, _ => by simp
  | x :: a, b, h => by
    simp only [List.cons_append, indexP, h x (by simp), Bool.false_eq_true, if_false, indexP_append p a b fun y hy => h y (by simp [hy]), Option.map_map, List.length_cons]
    congr 1

def irIndexFunc (sz : Nat) : IFn :=
 { nt := 19, res := [.t 4], body := (
  .seq (.ops [
    ⟨(some 4), none, .mv (.c (.int .i64 0))⟩] false)
  (.seq (.seq (.ops [
     ⟨(some 6), none, .mv (.t 0)⟩,
     ⟨(some 7), none, .lenL (.t 6)⟩,
     ⟨(some 8), none, .mv (.c (.int .i64 0))⟩] false)
   (.blk 0 (.loop (.seq (.ops [
       ⟨(some 9), none, .bin .lss (.t 8) (.t 7)⟩] false)
     (.seq (.cond (.t 9) (.skip)
      (.exit 0))
     (.seq (.blk 1 (.seq (.ops [
         ⟨(some 10), none, .mv (.t 8)⟩,
         ⟨(some 5), none, .mv (.t 10)⟩] false)
       (.seq (.ops [
         ⟨(some 11), none, .mv (.t 1)⟩,
         ⟨(some 12), none, .mv (.t 0)⟩,
         ⟨(some 13), none, .mv (.t 5)⟩,
         ⟨(some 14), none, .iaddr sz (.t 12) (.t 13)⟩,
         ⟨(some 15), none, .load sz true (.t 14)⟩,
         ⟨(some 16), none, .callv (.t 11) [(.t 15)]⟩] false)
       (.cond (.t 16) (.seq (.ops [
          ⟨(some 17), none, .mv (.t 5)⟩,
          ⟨(some 4), none, .mv (.t 17)⟩] false)
        (.ret))
       (.skip)))))
     (.ops [
      ⟨(some 18), none, .bin .add (.t 8) (.c (.int .i64 1))⟩,
      ⟨(some 8), none, .mv (.t 18)⟩] false)))))))
  (.seq (.ops [
    ⟨(some 4), none, .mv (.c (.int .i64 (-1)))⟩] false)
  (.ret)))) }

section
variable {P : Program} {α : Type} {enc : α → List D} {sz : Nat}

/-- IndexFunc over whatever holds a list -/
theorem indexFunc_acall {f : FuncId} {fn : Func} (hf : P.funcs[f]? = some fn) (hcf : compF P [] fn = some (irIndexFunc sz)) {H : Hp} {l : List α} {p : α → Bool} {g x : A} (hlen : lenA x = some l.length)
    (hx : ∀ m, H.length ≤ m → x.clr m = x) (hg : ∀ m, H.length ≤ m → g.clr m = g)
    (hld : ∀ (k : Nat) (e : α), l[k]? = some e → ∃ q, iaddrA H sz x (.d (.int .i64 (k : Int))) = some q ∧ ldA H sz q = some (rowE enc e))
    (hp : ∀ (e : α) (Q : A → Hp → Prop) (t : Tag Q), Q (.d (.bool (p e))) H → ValK Q t P [.agg (rowE enc e)] H g) (hb : l.length ≤ 1099511627776) :
    ACall P f [x, g] H (fun r H' => r = .d (.int .i64 (indexI p l)) ∧ H' = H) := by
  refine acall_fin hf hcf (by simp [irIndexFunc]) fun hcl _ => ?_
  simp [irIndexFunc, hlen, -lenA]
  refine LoopK_of H.length (fun fr H' => ∃ pre rest, l = pre ++ rest ∧ (∀ e ∈ pre, p e = false) ∧ fr 0 = x ∧ fr 1 = g ∧ fr 7 = .d (.int .i64 l.length) ∧ fr 8 = .d (.int .i64 (pre.length : Int)) ∧ H' = H)
    (fun fr H' => match fr 8 with | .d (.int _ k) => (l.length - k).toNat | _ => 0) (by simp) ?_ ?_
  · refine ⟨[], l, ?_⟩
    simp [cut_self hcl, hx, hg, clr_d, -A.clr]
  rintro fr H' ⟨pre, rest, hl, hpre, f0, f1, f7, f8, hH⟩
  rw [hH]
  simp [f7, f8]
  refine BrK_split (fun h => ?_) (fun h => ?_)
  · obtain ⟨e, r, rfl⟩ : ∃ e r, rest = e :: r := by
      cases rest with
      | nil => rw [hl] at h; simp at h
      | cons e r => exact ⟨e, r, rfl⟩
    obtain ⟨q, q1, q2⟩ := hld pre.length e (by rw [hl]; simp)
    have hpl : pre.length < l.length := by rw [hl]; simp
    have hw : IntKind.i64.wrap ((pre.length : Int) + 1) = pre.length + 1 := wrap_i64 (by omega) (by omega)
    simp [f0, f1, f7, f8, q1, q2, -iaddrA, -ldA]
    refine hp e _ _ ?_
    simp [f0, f1, f7, f8]
    refine BrK_split (fun h2 => ?_) (fun h2 => ?_)
    · have : indexI p l = pre.length := by rw [hl, indexI, indexP_append p _ _ hpre]; simp [indexP, h2]
      simp [RetK, cut_self hcl, this]
    · simp [f8, hw]
      refine AgainK_of (m := H.length) (by simp) ⟨pre ++ [e], r, ?_⟩ ?_
      · simp [f0, f1, f7, f8, cut_self hcl, hx, hg, clr_d, -A.clr]
        refine ⟨hl, fun a ha => ?_⟩
        rcases ha with h3 | h3
        · exact hpre a h3
        · subst h3; exact h2
      · simp; omega
  · obtain rfl : rest = [] := by
      cases rest with
      | nil => rfl
      | cons e r => exfalso; rw [hl] at h; simp at h
    rw [List.append_nil] at hl
    subst hl
    have : indexI p l = -1 := by
      have := indexP_append p l [] hpre
      simp [indexP] at this
      simp [indexI, this]
    simp [RetK, cut_self hcl, this]

end

/-- the names met, as a map -/
def setMp (l : List (List UInt8)) : List (D × A) := l.map fun s => (.str s, .d (.bool true))

theorem setMp_ok (l : List (List UInt8)) (s : List UInt8) : mpOk (.str []) (.str s) (setMp l) = true := by simp [setMp]
theorem setMp_get (s : List UInt8) : ∀ l : List (List UInt8), mpGet (.str s) (setMp l) = if s ∈ l then some (.d (.bool true)) else none
  | [] => rfl
  | x :: l => by
    have := setMp_get s l
    simp only [setMp, List.map_cons, mpGet, sameK, List.mem_cons] at this ⊢
    by_cases h : s = x
    · simp [h]
    · simp only [h, decide_false, Bool.false_eq_true, if_false, false_or]; exact this
theorem setMp_put (s : List UInt8) : ∀ l : List (List UInt8), s ∉ l → mpPut (.str s) (.d (.bool true)) (setMp l) = setMp (l ++ [s])
  | [], _ => rfl
  | x :: l, h => by
    simp only [List.mem_cons, not_or] at h
    have := setMp_put s l h.2
    simp only [setMp, List.map_cons, mpPut, sameK, List.cons_append] at this ⊢
    simp only [h.1, decide_false, Bool.false_eq_true, if_false]
    rw [this]

end Go.Zam
