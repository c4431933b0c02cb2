/-
  numeral's Text of any number: its contract.
-/
import Derived.Test.YtlfdelobjbdimaaDoorNrlP
set_option maxRecDepth 20000
namespace Go.Proofs.YtlfdelobjbdimaaDoor
set_option linter.unusedSimpArgs false
set_option linter.unusedVariables false
open Go.RowKit

def txC (s : Bool) (x y : Int) : ByteArray := strB (txN s (magI x y))
def textC (M : Ops) (tx : Bool → Int → Int → ByteArray) : Orc := fun _ ds K => match one? ds with
  | some (s, x, y) => bif M.good s x y then K (vS (tx s x y)) else K (vS ⟨#[]⟩)
  | none => False
def goodN (M : Ops) : Orc := fun _ ds K => match one? ds with
  | some (s, x, y) => M.good s x y = false ∧ K (.v (.bool false))
  | none => False
theorem goodN_to {M : Ops} {f : Nat} {ds : List D} {K : D → Prop} (h : goodN M f ds K) : goodC M f ds K ∧ ∀ K' : D → Prop, goodC M f ds K' → goodN M f ds K' := by
  unfold goodN at h
  unfold goodC
  cases e : one? ds with
  | none => rw [e] at h; exact h.elim
  | some a =>
    obtain ⟨s, x, y⟩ := a
    rw [e] at h
    obtain ⟨g, hK⟩ := h
    refine ⟨?_, fun K' h' => ?_⟩
    · show K (.v (.bool (M.good s x y))); rw [g]; exact hK
    · unfold goodN
      rw [e]
      have h2 : K' (.v (.bool (M.good s x y))) := h'
      rw [g] at h2
      exact ⟨g, h2⟩
set_option maxRecDepth 100000 in
theorem text_tree2 (M : Ops) (b : Bool) (x y : Int) (K : D → Prop) : callX Tryd.prog (ctxL [(19, goodN M)] [] 0) 2 15 [.agg [.v (.bool b), .v (.int .u64 x), .v (.int .u64 y)]] K = (M.good b x y = false ∧ K (vS ⟨#[]⟩)) := by kernel_rfl
theorem text_bad (s : Bool) (x y : Int) (g : opsR.good s x y = false) : PS Tryd.prog 15 [.agg [.v (.bool s), .v (.int .u64 x), .v (.int .u64 y)]] (vS ⟨#[]⟩) := by
  refine callX_eq (n := 2) (ctxL_ok (l := [(19, goodN opsR)]) (ll := []) (fuel := 0) (fun x hx => ?_) (by intro x hx; cases hx)) ?_
  · obtain rfl := List.mem_singleton.1 hx
    exact soundT goodC_ok fun _ _ h => goodN_to h
  · rw [text_tree2]; exact ⟨g, rfl⟩
theorem textC_ok : Sound 15 (textC opsR txC) := by
  refine sound1 (m := fun s x y K => bif opsR.good s x y then K (vS (txC s x y)) else K (vS ⟨#[]⟩)) (fun _ _ => rfl) fun s x y K hK => ?_
  cases g : opsR.good s x y with
  | true =>
    rw [g, cond_true] at hK
    refine ⟨_, hK, fun K' h => h, ?_⟩
    intro role w args hlow hmask hsz hargs
    obtain ⟨a, rfl, ha⟩ := args_one rfl hsz hargs
    obtain ⟨_, hx, hy⟩ := rd_dec ha
    obtain ⟨e1, e2, _⟩ := hi_magI hx hy
    obtain ⟨z, h1, h2, h3, h4⟩ := dec_good (s := s) (m := magI x y) g
    have hc : [D.agg [.v (.bool s), .v (.int .u64 x), .v (.int .u64 y)]] = [decM opsR z] := by
      have c1 : opsR.sg z = s := h1
      have c2 : opsR.hi z = x := by show ((hiN z.natAbs : Nat) : Int) = x; rw [h2]; exact e1
      have c3 : opsR.lo z = y := by show ((loN z.natAbs : Nat) : Int) = y; rw [h2]; exact e2
      unfold decM
      rw [c1, c2, c3]
    have ht : txC s x y = strB (txtZ z) := by unfold txC txtZ; rw [h1, h2]
    rw [ht]
    rw [hc] at hargs hsz
    exact text_ps z h3 role w _ hlow hmask hsz hargs
  | false =>
    rw [g, cond_false] at hK
    exact ⟨_, hK, fun K' h => h, text_bad s x y g⟩
end Go.Proofs.YtlfdelobjbdimaaDoor
