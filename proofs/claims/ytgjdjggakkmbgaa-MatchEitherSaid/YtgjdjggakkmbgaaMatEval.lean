/- The walk of match.eval: printed by wip/bin/gen_mateval.py. -/
import Derived.Test.YtgjdjggakkmbgaaMatKeep
import Derived.Test.YtgjdjggakkmbgaaHand
import Derived.Test.YtgjdjggakkmbgaaStep
import Derived.Laws.MakeOwn
namespace Go.Proofs.Ytgjdjggakkmbgaa
open Go.RowKit

def EvalOk (all : List Int) (nd : NodeM) : Prop :=
  ∀ (w : World) (B : Nat) (Aa : Option Addr) (na ca : Nat) (A : Option Addr) (n c : Nat) (lvs : List Lf), Reads w B Aa na ca (ints .i64 all) → ReadsNd w B nd → ReadsF w B A n c lvs → (∀ x ∈ lvs, x.1.c ≤ maxLen) → B ≤ w.heap.size → c ≤ maxLen →
    Calls Try.prog 22 #[.agg (ndC nd).toArray, .slice Aa na ca, .slice A n c] w fun e w' => ∃ v A' n' c' lvs', e = .returned (.tuple #[v, .slice A' n' c']) ∧ w'.ownsRow w.heap.size 3 1 v (all.filter (evalQ all nd (lfV lvs)).1).length (ints .i64 (all.filter (evalQ all nd (lfV lvs)).1)) ∧ ReadsF w B A' n' c' lvs' ∧ lfV lvs' = (evalQ all nd (lfV lvs)).2 ∧ c' ≤ maxLen ∧ (∀ x ∈ lvs', x.1.c ≤ maxLen) ∧ Below w.heap.size w w'

set_option maxRecDepth 100000 in
set_option maxHeartbeats 20000000 in
theorem eval_one (all : List Int) (hr : Rise all) (hal : all.length ≤ 100) (field : Int) (th kh : Hn) (kids : List NodeM) : EvalOk all (.mk 1 field th kh kids) := by
  intro w B Aa na ca A n c lvs ha hn hl hlc hB hc
  have lx : all.length = na := by simpa using ha.len
  have Lx := Lib.hid lx
  have hna : na ≤ 100 := by omega
  have hnl := hl.vlen
  have hcap := hl.row.cap
  have hbx : Below w.heap.size w (w.alloc (.cells #[.int .i64 1, .int .u8 field, .slice th.A th.n th.c, .slice kh.A kh.n kh.c] 31)) := (Below.refl _ _).alloc (Nat.le_refl _) _
  cases lvs with
  | nil =>
    obtain rfl : n = 0 := by simpa [lfV] using hnl.symm
    have HE : Hid (evalQ all (.mk 1 field th kh kids) (lfV []) = (fun _ => false, [])) := Lib.hid (eval_leaf0 all field th kh kids)
    have HF : Hid (all.filter (fun _ => false) = []) := Lib.hid (by simp)
    unfold ndC
    go_enter Try.func22, Try.ntmps22
    go_wp2
    go_ret2
    rw [HE.out]
    refine ⟨.slice none 0 0, none, 0, 0, [], rfl, ?_, ReadsF.nil_ _ _ _ _, rfl, Nat.zero_le _, by simp, hbx⟩
    rw [HF.out]
    exact World.ownsRow_nil _ _ _ _
  | cons x lvs =>
    obtain ⟨m, hm⟩ : ∃ m, lvs.length = m := ⟨_, rfl⟩
    obtain rfl : n = m + 1 := by rw [← hnl, lfV, List.length_map, List.length_cons, hm]
    have HE : Hid (evalQ all (.mk 1 field th kh kids) (lfV (x :: lvs)) = (keepQ all x.2, lfV lvs)) := Lib.hid (eval_leaf all field th kh kids x.2 (lfV lvs))
    obtain ⟨ad, _, rfl, hbd, c0, _⟩ := hl.row.at' lfC_len (by omega) (i := 0) (by omega)
    have c0 : w.cell? ad = some (.slice x.1.A x.1.n x.1.c) := by simpa [Addr.add] using c0 _ rfl
    have hf := hl.fnd x (by simp)
    have hxc := hlc x (by simp)
    have hlc2 := fun y (hy : y ∈ lvs) => hlc y (by simp [hy])
    have hl1 := hl.tail (by omega)
    rw [Nat.add_sub_cancel, List.drop_succ_cons, List.drop_zero] at hl1
    have h0n : (0 : Int) < (m : Int) + 1 := by omega
    have h1n : (1 : Int) ≤ (m : Int) + 1 := by omega
    have hcapi : (m : Int) + 1 ≤ (c : Int) := by omega
    have h1c : (1 : Int) ≤ (c : Int) := by omega
    have hF : Hid (all.filter (keepQ all x.2) = keepF all x.2) := Lib.hid (keep_filter hr x.2).symm
    have Hlc2 := Lib.hid hlc2
    unfold ndC
    generalize hW : w.alloc (.cells #[.int .i64 1, .int .u8 field, .slice th.A th.n th.c, .slice kh.A kh.n kh.c] 31) = wx at *
    have hsx : w.heap.size ≤ wx.heap.size := by have := hbx.size; exact this
    have c0x : wx.drew.cell? ad = some (.slice x.1.A x.1.n x.1.c) := (hbx.cell (by omega)).trans c0
    have hadw : ad.block < wx.drew.heap.size := by show ad.block < wx.heap.size; omega
    have HK := Lib.hid (keep_any all x.2 Aa na ca x.1.A x.1.n x.1.c B wx.drew ((ha.keep (fun p hp => hbx.cell (by omega))).drew) ((hf.keep (fun p hp => hbx.cell (by omega))).drew) (by show B ≤ wx.heap.size; omega) (by omega) hxc)
    have HW := Lib.hid hW
    have hm0 : ((m : Int) + 1 == 0) = false := beq_false_of_ne (by omega)
    clear hW hlc hlc2 hl hn hnl lx hm c0 hf
    by_cases hc1 : c = 1
    · subst hc1
      obtain rfl : m = 0 := by omega
      rw [if_pos rfl] at hl1
      go_enter Try.func22, Try.ntmps22
      go_wp2_with fail
      rw [HW.out]
      refine wp_region_open (S := (fun w' : World => w'.cell? ad = some (.slice x.1.A x.1.n x.1.c))) #[false, false, false, false, false, false, false, false, false] 9 (by kernel_rfl) (by kernel_rfl) rfl (c0x) (fun hHeld => ?_)
      refine tk (i := 0) (v := ?_) rfl (by kernel_rfl) (by kernel_rfl) (by kernel_rfl) (Or.inl ⟨by rfl, ?_⟩) (by assumption) ?_; rotate_left 1
      · intro w hSw; (try dsimp only at hSw); go_simp; try with_reducible rfl
      try simp only [Act.put, List.getElem_toArray, List.getElem_cons_zero, List.setIfInBounds_toArray, List.set_cons_zero, List.set_cons_succ]
      refine tk (i := 1) (v := ?_) rfl (by kernel_rfl) (by kernel_rfl) (by kernel_rfl) (Or.inl ⟨by rfl, ?_⟩) (by assumption) ?_; rotate_left 1
      · intro w hSw; (try dsimp only at hSw); go_simp; try with_reducible rfl
      try simp only [Act.put, List.getElem_toArray, List.getElem_cons_zero, List.getElem_cons_succ, List.setIfInBounds_toArray, List.set_cons_zero, List.set_cons_succ]
      refine tk (i := 2) (v := ?_) rfl (by kernel_rfl) (by kernel_rfl) (by kernel_rfl) (Or.inl ⟨by rfl, ?_⟩) (by assumption) ?_; rotate_left 1
      · intro w hSw; (try dsimp only at hSw); go_simp; try with_reducible rfl
      try simp only [Act.put, List.getElem_toArray, List.getElem_cons_zero, List.getElem_cons_succ, List.setIfInBounds_toArray, List.set_cons_zero, List.set_cons_succ]
      refine tk (i := 3) (v := ?_) rfl (by kernel_rfl) (by kernel_rfl) (by kernel_rfl) (Or.inl ⟨by rfl, ?_⟩) (by assumption) ?_; rotate_left 1
      · intro w hSw; (try dsimp only at hSw); go_simp; try with_reducible rfl
      try simp only [Act.put, List.getElem_toArray, List.getElem_cons_zero, List.getElem_cons_succ, List.setIfInBounds_toArray, List.set_cons_zero, List.set_cons_succ]
      refine tk (i := 5) (v := ?_) rfl (by kernel_rfl) (by kernel_rfl) (by kernel_rfl) (Or.inl ⟨by rfl, ?_⟩) (by assumption) ?_; rotate_left 1
      · intro w hSw; (try dsimp only at hSw); go_simp; try with_reducible rfl
      try simp only [Act.put, List.getElem_toArray, List.getElem_cons_zero, List.getElem_cons_succ, List.setIfInBounds_toArray, List.set_cons_zero, List.set_cons_succ]
      refine tk (i := 6) (v := ?_) rfl (by kernel_rfl) (by kernel_rfl) (by kernel_rfl) (Or.inl ⟨by rfl, ?_⟩) (by assumption) ?_; rotate_left 1
      · intro w hSw; (try dsimp only at hSw); go_simp; try with_reducible rfl
      try simp only [Act.put, List.getElem_toArray, List.getElem_cons_zero, List.getElem_cons_succ, List.setIfInBounds_toArray, List.set_cons_zero, List.set_cons_succ]
      refine wpAnyH_ready (rs := [4]) (by kernel_rfl) (by simp) ?_
      refine AllReadyH.cons (o := _) rfl (fun K hK => ?_) AllReadyH.nil
      go_simp
      go_at_call 29
      refine HK.out.mono ?_
      rintro e w9 ⟨v9, rfl, hown9, hb9⟩
      refine hK.out _ _ ((hb9.cell hadw).trans hHeld) (fun hHeld => ?_)
      clear hK K
      try simp only [List.setIfInBounds_toArray, List.set_cons_zero, List.set_cons_succ]
      refine tk (i := 7) (v := ?_) rfl (by kernel_rfl) (by kernel_rfl) (by kernel_rfl) (Or.inl ⟨by rfl, ?_⟩) (by assumption) ?_; rotate_left 1
      · intro w hSw; (try dsimp only at hSw); go_simp; try with_reducible rfl
      try simp only [Act.put, List.getElem_toArray, List.getElem_cons_zero, List.getElem_cons_succ, List.setIfInBounds_toArray, List.set_cons_zero, List.set_cons_succ]
      refine tk (i := 8) (v := ?_) rfl (by kernel_rfl) (by kernel_rfl) (by kernel_rfl) (Or.inl ⟨by rfl, ?_⟩) (by assumption) ?_; rotate_left 1
      · intro w hSw; (try dsimp only at hSw); go_simp; try with_reducible rfl
      try simp only [Act.put, List.getElem_toArray, List.getElem_cons_zero, List.getElem_cons_succ, List.setIfInBounds_toArray, List.set_cons_zero, List.set_cons_succ]
      refine wpAnyH_done (by kernel_rfl) ?_ _
      refine NoPanic.normal ?_
      have hbw : Below w.heap.size w w9 := (hbx.drew).trans (hb9.mono hsx)
      clear hHeld
      go_wp2
      go_ret2
      rw [HE.out]
      refine ⟨v9, _, _, _, lvs, rfl, ?_, hl1, rfl, Nat.zero_le _, Hlc2.out, hbw⟩
      rw [hF.out]
      exact ownsRow_base hown9 hsx
    · rw [if_neg hc1] at hl1
      go_enter Try.func22, Try.ntmps22
      go_wp2_with fail
      rw [HW.out]
      refine wp_region_open (S := (fun w' : World => w'.cell? ad = some (.slice x.1.A x.1.n x.1.c))) #[false, false, false, false, false, false, false, false, false] 9 (by kernel_rfl) (by kernel_rfl) rfl (c0x) (fun hHeld => ?_)
      refine tk (i := 0) (v := ?_) rfl (by kernel_rfl) (by kernel_rfl) (by kernel_rfl) (Or.inl ⟨by rfl, ?_⟩) (by assumption) ?_; rotate_left 1
      · intro w hSw; (try dsimp only at hSw); go_simp; try with_reducible rfl
      try simp only [Act.put, List.getElem_toArray, List.getElem_cons_zero, List.setIfInBounds_toArray, List.set_cons_zero, List.set_cons_succ]
      refine tk (i := 1) (v := ?_) rfl (by kernel_rfl) (by kernel_rfl) (by kernel_rfl) (Or.inl ⟨by rfl, ?_⟩) (by assumption) ?_; rotate_left 1
      · intro w hSw; (try dsimp only at hSw); go_simp; try with_reducible rfl
      try simp only [Act.put, List.getElem_toArray, List.getElem_cons_zero, List.getElem_cons_succ, List.setIfInBounds_toArray, List.set_cons_zero, List.set_cons_succ]
      refine tk (i := 2) (v := ?_) rfl (by kernel_rfl) (by kernel_rfl) (by kernel_rfl) (Or.inl ⟨by rfl, ?_⟩) (by assumption) ?_; rotate_left 1
      · intro w hSw; (try dsimp only at hSw); go_simp; try with_reducible rfl
      try simp only [Act.put, List.getElem_toArray, List.getElem_cons_zero, List.getElem_cons_succ, List.setIfInBounds_toArray, List.set_cons_zero, List.set_cons_succ]
      refine tk (i := 3) (v := ?_) rfl (by kernel_rfl) (by kernel_rfl) (by kernel_rfl) (Or.inl ⟨by rfl, ?_⟩) (by assumption) ?_; rotate_left 1
      · intro w hSw; (try dsimp only at hSw); go_simp; try with_reducible rfl
      try simp only [Act.put, List.getElem_toArray, List.getElem_cons_zero, List.getElem_cons_succ, List.setIfInBounds_toArray, List.set_cons_zero, List.set_cons_succ]
      refine tk (i := 5) (v := ?_) rfl (by kernel_rfl) (by kernel_rfl) (by kernel_rfl) (Or.inl ⟨by rfl, ?_⟩) (by assumption) ?_; rotate_left 1
      · intro w hSw; (try dsimp only at hSw); go_simp; try with_reducible rfl
      try simp only [Act.put, List.getElem_toArray, List.getElem_cons_zero, List.getElem_cons_succ, List.setIfInBounds_toArray, List.set_cons_zero, List.set_cons_succ]
      refine tk (i := 6) (v := ?_) rfl (by kernel_rfl) (by kernel_rfl) (by kernel_rfl) (Or.inl ⟨by rfl, ?_⟩) (by assumption) ?_; rotate_left 1
      · intro w hSw; (try dsimp only at hSw); go_simp; try with_reducible rfl
      try simp only [Act.put, List.getElem_toArray, List.getElem_cons_zero, List.getElem_cons_succ, List.setIfInBounds_toArray, List.set_cons_zero, List.set_cons_succ]
      refine wpAnyH_ready (rs := [4]) (by kernel_rfl) (by simp) ?_
      refine AllReadyH.cons (o := _) rfl (fun K hK => ?_) AllReadyH.nil
      go_simp
      go_at_call 29
      refine HK.out.mono ?_
      rintro e w9 ⟨v9, rfl, hown9, hb9⟩
      refine hK.out _ _ ((hb9.cell hadw).trans hHeld) (fun hHeld => ?_)
      clear hK K
      try simp only [List.setIfInBounds_toArray, List.set_cons_zero, List.set_cons_succ]
      refine tk (i := 7) (v := ?_) rfl (by kernel_rfl) (by kernel_rfl) (by kernel_rfl) (Or.inl ⟨by rfl, ?_⟩) (by assumption) ?_; rotate_left 1
      · intro w hSw; (try dsimp only at hSw); go_simp; try with_reducible rfl
      try simp only [Act.put, List.getElem_toArray, List.getElem_cons_zero, List.getElem_cons_succ, List.setIfInBounds_toArray, List.set_cons_zero, List.set_cons_succ]
      refine tk (i := 8) (v := ?_) rfl (by kernel_rfl) (by kernel_rfl) (by kernel_rfl) (Or.inl ⟨by rfl, ?_⟩) (by assumption) ?_; rotate_left 1
      · intro w hSw; (try dsimp only at hSw); go_simp; try with_reducible rfl
      try simp only [Act.put, List.getElem_toArray, List.getElem_cons_zero, List.getElem_cons_succ, List.setIfInBounds_toArray, List.set_cons_zero, List.set_cons_succ]
      refine wpAnyH_done (by kernel_rfl) ?_ _
      refine NoPanic.normal ?_
      have hbw : Below w.heap.size w w9 := (hbx.drew).trans (hb9.mono hsx)
      clear hHeld
      go_wp2
      go_ret2
      rw [HE.out]
      refine ⟨v9, _, _, _, lvs, rfl, ?_, hl1, rfl, by omega, Hlc2.out, hbw⟩
      rw [hF.out]
      exact ownsRow_base hown9 hsx
end Go.Proofs.Ytgjdjggakkmbgaa
