/- Nots, Ands and Ors of trees: what they find. Plain. -/
import Derived.Test.YtgjdjggakkmbgaaTreeMath
namespace Go.Proofs.Ytgjdjggakkmbgaa

def notN (th kh : Hn) (k : NodeM) : NodeM := .mk 4 0 th kh [k]
theorem evalQ_not (all : List Int) (f : Int) (th kh : Hn) (k : NodeM) (lv : List (List Fd)) : evalQ all (.mk 4 f th kh [k]) lv = (fun d => !(evalQ all k lv).1 d, (evalQ all k lv).2) := by
  rw [eval_in _ _ _ _ _ _ _ (by decide), evalQs, evalQs]
  refine Prod.ext ?_ rfl
  funext d
  cases h : (evalQ all k lv).1 d <;> simp [sel, one, h]
/-- Nots of nodes, each with a place of its own. -/
inductive NotsOf : List NodeM → List NodeM → Prop where
  | nil : NotsOf [] []
  | cons {k : NodeM} {ks ns : List NodeM} (f : Int) (th kh : Hn) (h : NotsOf ks ns) : NotsOf (k :: ks) (.mk 4 f th kh [k] :: ns)
theorem NotsOf.len {ks ns : List NodeM} (h : NotsOf ks ns) : ns.length = ks.length := by
  induction h with
  | nil => rfl
  | cons _ _ _ _ ih => simp [ih]
theorem NotsOf.snoc {ks ns : List NodeM} (h : NotsOf ks ns) (k : NodeM) (f : Int) (th kh : Hn) : NotsOf (ks ++ [k]) (ns ++ [.mk 4 f th kh [k]]) := by
  induction h with
  | nil => exact .cons f th kh .nil
  | cons f' th' kh' _ ih => exact .cons f' th' kh' ih
theorem NotsOf.eval {ks ns : List NodeM} (all : List Int) (h : NotsOf ks ns) : ∀ lv, evalQs all ns lv = (fun d => ks.length - (evalQs all ks lv).1 d, (evalQs all ks lv).2) := by
  induction h with
  | nil => intro lv; simp [evalQs]
  | @cons k ks ns f th kh h ih =>
    intro lv
    rw [evalQs, evalQ_not, ih, evalQs]
    refine Prod.ext ?_ rfl
    funext d
    have h1 := evalQs_le all ks (evalQ all k lv).2 d
    simp only [List.length_cons]
    cases hb : (evalQ all k lv).1 d <;> simp [one] <;> omega
theorem evalQ_either_a {ks ns : List NodeM} (all : List Int) (h : NotsOf ks ns) (lv : List (List Fd)) (f f' f'' : Int) (t1 k1 t2 k2 t3 k3 : Hn) :
    (evalQ all (.mk 4 f t1 k1 [.mk 2 f' t2 k2 ks]) lv).1 = (evalQ all (.mk 3 f'' t3 k3 ns) lv).1 := by
  rw [evalQ_not, eval_in _ _ _ _ _ _ _ (by decide), eval_in _ _ _ _ _ _ _ (by decide), h.eval]
  funext d
  have h1 := evalQs_le all ks lv d
  simp only [sel, h.len]
  by_cases e : (evalQs all ks lv).1 d = ks.length
  · simp [e]
  · have : 0 < ks.length - (evalQs all ks lv).1 d := by omega
    simp [e, this]
theorem evalQ_either_b {ks ns : List NodeM} (all : List Int) (h : NotsOf ks ns) (lv : List (List Fd)) (f f' f'' : Int) (t1 k1 t2 k2 t3 k3 : Hn) :
    (evalQ all (.mk 4 f t1 k1 [.mk 3 f' t2 k2 ks]) lv).1 = (evalQ all (.mk 2 f'' t3 k3 ns) lv).1 := by
  rw [evalQ_not, eval_in _ _ _ _ _ _ _ (by decide), eval_in _ _ _ _ _ _ _ (by decide), h.eval]
  funext d
  have h1 := evalQs_le all ks lv d
  simp only [sel, h.len]
  by_cases e : (evalQs all ks lv).1 d = 0
  · simp [e]
  · have h2 : 0 < (evalQs all ks lv).1 d := by omega
    have h3 : ¬ (ks.length - (evalQs all ks lv).1 d = ks.length) := by omega
    simp [h2, h3]
/-- Of which of the two lists a number is. -/
theorem filter_not_not (all : List Int) (q : Int → Bool) : all.filter (fun d => !!q d) = all.filter q := by simp
end Go.Proofs.Ytgjdjggakkmbgaa
