/-
  An abstract machine over the model, twentieth part: an open slice handed on as a plain one. No condition.
-/
import Derived.Test.YtjpdjaglggcbkaaZam19
namespace Go.Zam

/-- an open slice, as what it holds -/
def A.shut : A → A
  | .osl z s r _ => .d (.sl z s r)
  | x => x

theorem VR.shut {κ : K} {v : Value} {a : A} (h : VR κ v a) : VR κ v a.shut := by
  cases h with
  | osl h ht => exact .d h
  | d h => exact .d h
  | _ => constructor <;> assumption

theorem ACall.shut {P : Program} {f : FuncId} {args : List A} {H : Hp} {Q : A → Hp → Prop} (h : ACall P f (args.map A.shut) H Q) : ACall P f args H Q := by
  intro κ w vs hr hl hv
  refine h κ w vs hr (by simpa using hl) fun i v a hi ha => ?_
  simp only [List.getElem?_map, Option.map_eq_some_iff] at ha
  obtain ⟨a', ha', rfl⟩ := ha
  exact (hv i v a' hi ha').shut

theorem CallK_shut {P : Program} {H : Hp} {Q : A → Hp → Prop} {t : Tag Q} {f : FuncId} {l : List A} {v : A} {H1 : Hp} (h : ACall P f (l.map A.shut) H (fun x H' => x = v ∧ H' = H1)) (hq : Q v H1) : CallK Q t P f l H :=
  CallK_of' h.shut hq

end Go.Zam
