/- ploverlaw18.MatchEither: for every input the law returns true, and each argument reads behind the call as it read before. No condition. -/
import Derived.Test.YtgjdjggakkmbgaaMatLawsE
import Derived.Test.YtgjdjggakkmbgaaMatNodeOpen
import Derived.Test.YtgjdjggakkmbgaaFrame
import Derived.SizedLaws
import Derived.Deep.Slices
namespace Go.Proofs.Ytgjdjggakkmbgaa.lawMatchEither
open Go.ChangeShapes Go.WideShapes Go.ChangeAt Go.RowKit
open Go.ChangeMaps (open_string shut_string)

section
variable {H : Type} {enc : TypeId × Value → H} {P : Program} {w : World} {base : Nat} {spare : Nat → Bool} {held : Bool}
/-- A slice that came in has no more elements than the machine has room for. -/
theorem slice_reach {t e : TypeId} {A : Option Addr} {n c : Nat} {d : DataW H} {p : List MemPlace} (ht : P.underlying t = some (.slice e)) (h : DataW.Trod enc P w base spare held t (.slice A n c) d p) (hs : ∀ k ∈ d.weights P t, k ≤ reachBytes) : n * P.bytesOf e ≤ reachBytes := by
  obtain ⟨fuel, hf⟩ := h
  rcases Go.Deep.open_slice ht hf with ⟨hcs, _⟩ | ⟨a, len, cap, m, n', D, Pl, hcs, hb, hl, hm, hmm, hx1, hi⟩
  · simp [Value.cells] at hcs
    rw [hcs.2.1]
    simp
  · simp [Value.cells] at hcs
    obtain ⟨rfl, rfl, rfl⟩ := hcs
    have hd : d = _ := (Prod.mk.inj hx1).1
    have := hs (((List.range n).map D).length + ((List.range (m - n)).map fun j => D (n + j)).length |>.mul (P.bytesOf e)) (by rw [hd]; simp [DataW.weights, ht])
    simp only [List.length_map, List.length_range, Nat.mul_eq] at this
    exact Nat.le_trans (Nat.mul_le_mul_right _ (Nat.le_add_right _ _)) this
end
set_option maxRecDepth 100000 in
theorem lifted (os : Os) (started : os.Started) (H : Type) (enc : TypeId × Value → H) :
    ReturnsInHanded {} Try.checked os 5 .any (Rows.matchEitherSpec.pre6 enc Try.prog Try.f5 Rows.matchEitherRow.domain false) (Rows.matchEitherSpec.post enc Try.prog Try.f5 false true false false) := by
  refine returnsInHanded_of_change_sized (C := Try.checked) own started (by kernel_rfl) Try.func5
    (ChangeSpec.witness6 (enc := enc) (C := Try.checked) false ⟨#[], #[.slice none 0 0, .slice none 0 0, .slice none 0 0], []⟩ 8 (by kernel_rfl) (by kernel_rfl) (by kernel_rfl) (by kernel_rfl)) ?_
  intro W base args ds gs before hval0 hW hcnd hsz _
  have hval : ∀ (j : Nat) t v, Try.f5.params[j]? = some t → args[j]? = some v → Value.okWide Try.prog W .any base t v := hval0
  have hW' := hW
  obtain ⟨p, q, hA0, hV, rfl, hfz, hnd⟩ := hW
  have hA : DataW.TrodAll enc Try.prog W 0 (fun _ => true) true Try.f5.params.toList args.toList ds p := hA0
  rw [Try.params5] at hA hval
  obtain ⟨v0, vs0, d0, ds0, p0, q0, hargs, rfl, rfl, h0, r0⟩ := trodAll_cons hA
  obtain ⟨v1, vs1, d1, ds1, p1, q1, rfl, rfl, rfl, h1, r1⟩ := trodAll_cons r0
  obtain ⟨v2, vs2, d2, ds2, p2, q2, rfl, rfl, rfl, h2, r2⟩ := trodAll_cons r1
  obtain ⟨rfl, rfl, rfl⟩ := trodAll_nil r2
  obtain rfl : args = #[v0, v1, v2] := by cases args; simp_all
  obtain ⟨rfl, rfl⟩ := trodVars_none hV
  have k0 := h0
  have lt0 : ∀ x ∈ p0, x.block < W.heap.size := by obtain ⟨m, hm⟩ := k0; exact DataW.trod_lt m _ _ _ hm
  have k1 := h1
  have lt1 : ∀ x ∈ p1, x.block < W.heap.size := by obtain ⟨m, hm⟩ := k1; exact DataW.trod_lt m _ _ _ hm
  have k2 := h2
  have lt2 : ∀ x ∈ p2, x.block < W.heap.size := by obtain ⟨m, hm⟩ := k2; exact DataW.trod_lt m _ _ _ hm
  obtain ⟨A0, n0, c0, l0, rfl, w0, m0, z0⟩ := reads_nodes (hval 0 29 v0 rfl rfl) h0
  obtain ⟨A1, n1, c1, l1, rfl, w1, m1, z1⟩ := reads_ints Try.underlying32 Try.underlying3 (by kernel_rfl) (hval 1 32 v1 rfl rfl) h1
  obtain ⟨A2, n2, c2, l2, rfl, w2, m2, z2⟩ := reads_fnds (hval 2 33 v2 rfl rfl) h2
  have hrch := slice_reach Try.underlying29 h0 (fun n hn => by
    have h9 := List.all_eq_true.1 hsz n (DataW.weights_mem_each (j := 0) (t := 29) (d := d0) (by rw [Try.params5]; rfl) rfl n hn)
    simpa using h9)
  rw [show Try.prog.bytesOf 31 = 64 from by kernel_rfl] at hrch
  clear hA0 hval0
  refine (walkMatchEither (w := W) l0 A0 n0 c0 w0 m0 z0 hrch l1 A1 n1 c1 w1 z1 l2 A2 n2 c2 w2 m2 z2).mono fun e W' ⟨he, bel⟩ => ?_
  subst he
  exact ⟨_, rfl, _, _, _, [], _, [], hW', trodAll_mk1 (shut_bool Try.underlying4 _), (trodAll_cons_mk (Below.trod laidOut (by kernel_rfl) (of_decide_eq_true (by kernel_rfl)) k0 bel lt0) (trodAll_cons_mk (Below.trod laidOut (by kernel_rfl) (of_decide_eq_true (by kernel_rfl)) k1 bel lt1) (trodAll_cons_mk (Below.trod laidOut (by kernel_rfl) (of_decide_eq_true (by kernel_rfl)) k2 bel lt2) trodAll_mk0))), rfl, bel.frame _, fun h => by cases h⟩

theorem over : Rows.matchEitherRow.holds Try.pinned (OpenSpec.ofChange Rows.matchEitherSpec) :=
  OpenClaim.holds_of_wide 5 Try.f5 rfl rfl rfl rfl rfl rfl rfl ⟨rfl, rfl, rfl, rfl, rfl⟩ rfl rfl rfl rfl rfl (by kernel_rfl) Try.func5 (by kernel_rfl)
    (of_decide_eq_true (by kernel_rfl)) (by unfold Func.isWrapper; first | (rw [if_pos (by decide +kernel)]; kernel_rfl) | (rw [if_neg (by decide +kernel)]; exact ⟨rfl, rfl⟩))
    (fun os started H enc _ => lifted os started H enc)

theorem proved : Rows.MatchEitherSaid := over
#print axioms proved
end Go.Proofs.Ytgjdjggakkmbgaa.lawMatchEither
