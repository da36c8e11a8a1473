/- The walks of ref17's weight and Great: whatever the number, the tree is gone through. -/
import Derived.Test.YtgjdjggakkmbgaaRows
import Derived.Test.YtgjdjggakkmbgaaNodeMem
namespace Go.Proofs.Ytgjdjggakkmbgaa
open Go.RowKit

/-- No node has more terms than a slice may have. -/
inductive TermsOk : NodeM → Prop where
  | mk {kind field : Int} {th kh : Hn} {kids : List NodeM} (hc : th.c ≤ maxLen) (hr : ∀ k ∈ kids, TermsOk k) : TermsOk (.mk kind field th kh kids)
def WeightOk (nd : NodeM) : Prop := ∀ (w : World) (B : Nat) (deep sum : Int), ReadsNd w B nd → TermsOk nd → B ≤ w.heap.size →
  Calls Try.prog 21 #[.agg (ndC nd).toArray, .int .i64 deep, .int .i64 sum] w fun e w' => (∃ x : Int, e = .returned (.int .i64 x)) ∧ Below w.heap.size w w'
set_option maxRecDepth 100000 in
set_option maxHeartbeats 8000000 in
theorem weight_step (kind field : Int) (th kh : Hn) (kids : List NodeM) (ih : ∀ k ∈ kids, WeightOk k) : WeightOk (.mk kind field th kh kids) := by
  intro w B deep sum hn hto hB
  obtain ⟨tA, tn, tc⟩ := th
  obtain ⟨kA, kn, kcp⟩ := kh
  obtain ⟨l, ht, hk, hkc, hr⟩ : ∃ l : List Tk, ReadsT w B tA tn tc l ∧ ReadsK 4 w B kA kn kcp (kids.flatMap ndC) ∧ kcp ≤ maxLen ∧ ∀ k ∈ kids, ReadsNd w B k := by
    cases hn with
    | mk l ht hk hc hr => exact ⟨l, ht, hk, hc, hr⟩
  obtain ⟨htc, htr⟩ : tc ≤ maxLen ∧ ∀ k ∈ kids, TermsOk k := by
    cases hto with
    | mk hc hr => exact ⟨hc, hr⟩
  have htc9 : tc ≤ 9223372036854775807 := by simpa [maxLen] using htc
  have hkc9 : kcp ≤ 9223372036854775807 := by simpa [maxLen] using hkc
  have hrow := Row.new w 31 [.int .i64 kind, .int .u8 field, .slice tA tn tc, .slice kA kn kcp]
  have hbx : Below w.heap.size w (w.alloc (.cells #[.int .i64 kind, .int .u8 field, .slice tA tn tc, .slice kA kn kcp] 31)) := (Below.refl _ _).alloc (Nat.le_refl _) _
  have hs : (w.alloc (.cells #[.int .i64 kind, .int .u8 field, .slice tA tn tc, .slice kA kn kcp] 31)).heap.size = w.heap.size + 1 := by simp
  clear hn
  unfold ndC
  obtain ⟨S, hS⟩ : ∃ S, wrap64 (sum + wrap64 (1 + (tn : Int))) = S := ⟨_, rfl⟩
  by_cases hd : deep = 0
  · subst hd
    go_enter Try.func21, Try.ntmps21
    go_wp2
    go_ret
    exact ⟨⟨_, rfl⟩, hbx⟩
  · have hd' : (deep == 0) = false := by simp [hd]
    by_cases hS3 : 3000 ≤ S
    · go_enter Try.func21, Try.ntmps21
      go_wp2
      go_ret
      exact ⟨⟨_, rfl⟩, hbx⟩
    · have q2 : (w.alloc (.cells #[.int .i64 kind, .int .u8 field, .slice tA tn tc, .slice kA kn kcp] 31)).cell? ⟨w.heap.size, 2, none⟩ = some (.slice tA tn tc) := hrow.cell 2
      have htcap := ht.cap
      go_enter Try.func21, Try.ntmps21
      go_wp2_with fail
      generalize w.alloc (.cells #[.int .i64 kind, .int .u8 field, .slice tA tn tc, .slice kA kn kcp] 31) = wx at *
      clear q2 hS
      go_loopw [2, 24] (fun s i wr => ∃ (k : Nat) (x : Int), k ≤ tn ∧ i = .int .i64 (k : Int) ∧ s = .int .i64 x ∧ wx = wr) (fun _ i _ => tn - (intOf i).toNat)
      case atStart => exact ⟨0, _, by omega, rfl, rfl, by first | rfl | trivial⟩
      case round =>
        obtain ⟨k, x, hk', rfl, rfl, rfl⟩ := hrel
        have q2 : wx.cell? ⟨w.heap.size, 2, none⟩ = some (.slice tA tn tc) := hrow.cell 2
        have q3 : wx.cell? ⟨w.heap.size, 3, none⟩ = some (.slice kA kn kcp) := hrow.cell 3
        by_cases hlt : k < tn
        · have hlt' : (k : Int) < (tn : Int) := by omega
          have hk0 : (0 : Int) ≤ (k : Int) := by omega
          obtain ⟨ad, f, s, rfl, hbd, _, c0, c1, _⟩ := (ReadsK.keep ht (w' := wx) (fun p hp => hbx.cell (by omega))).tk hlt
          obtain ⟨T, hT⟩ : ∃ T, wrap64 (x + (s.size : Int)) = T := ⟨_, rfl⟩
          by_cases hT3 : 3000 ≤ T
          · go_wp2
            go_ret
            exact ⟨⟨_, rfl⟩, hbx⟩
          · go_wp2
            go_roundw
            case rel => exact ⟨k + 1, T, by omega, by go_num, by first | rfl | (rw [hT]), by first | rfl | trivial⟩
            case measure => simp [intOf]; omega
        · have hlt' : ¬ (k : Int) < (tn : Int) := by omega
          have hkcap := hk.cap
          go_wp2_with fail
          have hB1 : Below w.heap.size w wx := hbx
          have hrowx := hrow
          clear hrow hbx q2 q3
          obtain ⟨D, hD⟩ : ∃ D, wrap64 (deep - 1) = D := ⟨_, rfl⟩
          go_loopw [2, 42] (fun s i wr => ∃ (j : Nat) (y : Int), j ≤ kn ∧ i = .int .i64 (j : Int) ∧ s = .int .i64 y ∧ Row wr w.heap.size 31 [.int .i64 kind, .int .u8 field, .slice tA tn tc, .slice kA kn kcp] ∧ Below w.heap.size w wr) (fun _ i _ => kn - (intOf i).toNat)
          case atStart => exact ⟨0, _, by omega, rfl, rfl, hrowx, hB1⟩
          case round =>
            clear hrowx hB1
            obtain ⟨j, y, hj, rfl, rfl, hrow2, hB2⟩ := hrel
            have q3 : wr.cell? ⟨w.heap.size, 3, none⟩ = some (.slice kA kn kcp) := hrow2.cell 3
            by_cases hlt2 : j < kn
            · have hlt2' : (j : Int) < (kn : Int) := by omega
              have hj0 : (0 : Int) ≤ (j : Int) := by omega
              obtain ⟨ak, hlk, rfl, hbk, k0, kc⟩ := (hk.keep (w' := wr) (fun p hp => hB2.cell (by omega))).at' ndC_len (by omega) hlt2
              have hkm2 := List.getElem_mem hlk
              have IHk := ih _ hkm2
              have hRk := hr _ hkm2
              have hTk := htr _ hkm2
              generalize kids[j] = kd at *
              obtain ⟨kk, kf, ⟨t1, t2, t3⟩, ⟨h1, h2, h3⟩, kks⟩ := kd
              have k0 := k0 _ rfl
              have k1 := kc 1 _ (by omega) rfl
              have k2 := kc 2 _ (by omega) rfl
              have k3 := kc 3 _ (by omega) rfl
              have HW := IHk wr B D y (hRk.keep (fun p hp => hB2.cell (by omega))) hTk (by have := hB2.size; omega)
              clear kc IHk hRk hTk
              go_wp2_with fail
              refine HW.mono ?_
              clear HW
              rintro e w5 ⟨⟨z, rfl⟩, hb5⟩
              have hB5 := then_ hB2 hb5
              have hrow5 := hrow2.call hb5
              by_cases hz : 3000 ≤ z
              · go_wp2
                go_ret
                exact ⟨⟨_, rfl⟩, hB5⟩
              · go_wp2
                go_roundw
                case rel => exact ⟨j + 1, z, by omega, by go_num, rfl, hrow5, hB5⟩
                case measure => simp [intOf]; omega
            · have hlt2' : ¬ (j : Int) < (kn : Int) := by omega
              go_wp2
              go_ret
              exact ⟨⟨_, rfl⟩, hB2⟩
theorem weight_all : ∀ (m : Nat) (nd : NodeM), SizeOf.sizeOf nd < m → WeightOk nd := by
  intro m
  induction m with
  | zero => intro nd h; omega
  | succ m ih =>
    intro nd h
    obtain ⟨kind, field, th, kh, kids⟩ := nd
    refine weight_step kind field th kh kids fun k hm => ih k ?_
    have h1 := List.sizeOf_lt_of_mem hm
    simp at h
    omega
set_option maxRecDepth 100000 in
set_option maxHeartbeats 4000000 in
theorem greatN_any (nd : NodeM) (w : World) (B : Nat) (hn : ReadsNd w B nd) (ht : TermsOk nd) (hB : B ≤ w.heap.size) :
    Calls Try.prog 13 #[.agg (ndC nd).toArray] w fun e w' => (e = .returned (.bool true) ∨ e = .returned (.bool false)) ∧ Below w.heap.size w w' := by
  have HW := weight_all _ nd (Nat.lt_succ_self _)
  obtain ⟨kind, field, ⟨tA, tn, tc⟩, ⟨kA, kn, kcp⟩, kids⟩ := nd
  have hbx : Below w.heap.size w (w.alloc (.cells #[.int .i64 kind, .int .u8 field, .slice tA tn tc, .slice kA kn kcp] 31)) := (Below.refl _ _).alloc (Nat.le_refl _) _
  have HC := HW _ B 400 0 (hn.keep (fun p hp => hbx.cell (by omega))) ht (by have := hbx.size; omega)
  clear HW
  unfold ndC at *
  go_enter Try.func13, Try.ntmps13
  go_wp2_with fail
  refine HC.mono ?_
  clear HC
  rintro e w1 ⟨⟨x, rfl⟩, hb⟩
  by_cases hx : 3000 ≤ x
  · go_wp2
    go_ret
    exact ⟨.inl rfl, hbx.trans (hb.mono hbx.size)⟩
  · go_wp2
    go_ret
    exact ⟨.inr (by simp [hx]), hbx.trans (hb.mono hbx.size)⟩
end Go.Proofs.Ytgjdjggakkmbgaa
