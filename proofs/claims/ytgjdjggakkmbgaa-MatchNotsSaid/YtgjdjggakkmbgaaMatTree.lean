/- match.eval and match.Eval at any tree. -/
import Derived.Test.YtgjdjggakkmbgaaMatNode
namespace Go.Proofs.Ytgjdjggakkmbgaa
open Go.RowKit

theorem eval_all (all : List Int) (hr : Rise all) (hal : all.length ≤ 100) : ∀ (m : Nat) (nd : NodeM), SizeOf.sizeOf nd < m → EvalOk all nd := by
  intro m
  induction m with
  | zero => intro nd h; omega
  | succ m ih =>
    intro nd h
    obtain ⟨kind, field, th, kh, kids⟩ := nd
    by_cases hk : kind = 1
    · subst hk
      exact eval_one all hr hal field th kh kids
    · refine eval_inner all hr hal kind field th kh kids hk fun k hm => ih k ?_
      have h1 := List.sizeOf_lt_of_mem hm
      simp at h
      omega
theorem eval_any (all : List Int) (hr : Rise all) (hal : all.length ≤ 100) (nd : NodeM) : EvalOk all nd := eval_all all hr hal _ nd (Nat.lt_succ_self _)

def evalL (all : List Int) (nd : NodeM) (lv : List (List Fd)) : List Int := all.filter (evalQ all nd lv).1
set_option maxRecDepth 100000 in
set_option maxHeartbeats 4000000 in
theorem top_any (all : List Int) (hr : Rise all) (hal : all.length ≤ 100) (nd : NodeM) (w : World) (B : Nat) (Aa : Option Addr) (na ca : Nat) (A : Option Addr) (n c : Nat) (lvs : List Lf) (ha : Reads w B Aa na ca (ints .i64 all)) (hn : ReadsNd w B nd) (hl : ReadsF w B A n c lvs) (hlc : ∀ x ∈ lvs, x.1.c ≤ maxLen) (hB : B ≤ w.heap.size) (hc : c ≤ maxLen) :
    Calls Try.prog 15 #[.agg (ndC nd).toArray, .slice Aa na ca, .slice A n c] w fun e w' => ∃ v, e = .returned v ∧ w'.ownsRow w.heap.size 3 1 v (evalL all nd (lfV lvs)).length (ints .i64 (evalL all nd (lfV lvs))) ∧ Below w.heap.size w w' := by
  have HE := eval_any all hr hal nd
  obtain ⟨kind, field, ⟨tA, tn, tc⟩, ⟨kA, kn, kcp⟩, kids⟩ := nd
  have hbx : Below w.heap.size w (w.alloc (.cells #[.int .i64 kind, .int .u8 field, .slice tA tn tc, .slice kA kn kcp] 31)) := (Below.refl _ _).alloc (Nat.le_refl _) _
  have HC := HE _ B Aa na ca A n c lvs (ha.keep (fun p hp => hbx.cell (by omega))) (hn.keep (fun p hp => hbx.cell (by omega))) (hl.keep (fun p hp => hbx.cell (by omega))) hlc (by have := hbx.size; omega) hc
  clear HE
  unfold evalL
  generalize (evalQ all (.mk kind field ⟨tA, tn, tc⟩ ⟨kA, kn, kcp⟩ kids) (lfV lvs)).1 = Q at *
  unfold ndC at *
  go_enter Try.func15, Try.ntmps15
  go_wp2_with fail
  refine HC.mono ?_
  clear HC
  rintro e w1 ⟨v, A', n', c', lvs', rfl, hown, _, _, _, _, hb⟩
  go_wp2
  go_ret
  exact ⟨v, rfl, ownsRow_base hown hbx.size, hbx.trans (hb.mono hbx.size)⟩
end Go.Proofs.Ytgjdjggakkmbgaa
