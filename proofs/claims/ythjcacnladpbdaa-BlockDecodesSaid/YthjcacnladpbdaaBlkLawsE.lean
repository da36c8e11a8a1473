/- BlockDecodes, walked. -/
import Derived.Test.YthjcacnladpbdaaBlkLaws
import Derived.Test.YthjcacnladpbdaaBlkDec
import Derived.Test.YthjcacnladpbdaaBlkRDec
import Derived.Test.YthjcacnladpbdaaBlkSame
import Derived.Test.YthjcacnladpbdaaSame32
import Derived.Test.YthjcacnladpbdaaCopyU
namespace Go.Proofs.Ythjcacnladpbdaa
open Go.RowKit

theorem wf_u32e {x : Int} (h : (Lit.int .u32 x).wf = true) : 0 ≤ x ∧ x < 4294967296 := by simp [Lit.wf, IntKind.min, IntKind.max, IntKind.signed, IntKind.bits] at h; omega
theorem decB_bd (cells : List Int) : (decB cells).1.length ≤ 64 ∧ ∀ e ∈ (decB cells).1, e.2.length ≤ 1048576 := by
  rw [decB]
  split
  · rename_i h
    have hm := (encA_ok h.2.2).1
    refine ⟨hm.len, fun e he => ?_⟩
    obtain ⟨i, hi, rfl⟩ := List.getElem_of_mem he
    have := hm.pos i hi
    rw [enAt_get _ i hi] at this
    omega
  · simp

set_option maxRecDepth 100000 in
set_option maxHeartbeats 20000000 in
theorem walkBlockDecodes {w : World} (cells : List Int) (A1 : Option Addr) (n1 c1 : Nat) (hy : Reads w w.heap.size A1 n1 c1 (ints .u32 cells)) (hz0 : ∀ x ∈ cells, (Lit.int .u32 x).wf = true) :
    Calls Try.prog 6 #[.slice A1 n1 c1] w fun e w' => e = .returned (.bool true) ∧ Below w.heap.size w w' := by
  have hz : ∀ x ∈ cells, 0 ≤ x ∧ x < 4294967296 := fun x hx => wf_u32e (hz0 x hx)
  have HF := fixed_any
  clear hz0
  go_enter Try.func6, Try.ntmps6
  by_cases h3 : 3000 < n1
  · have h3' : (3000 : Int) < (n1 : Int) := by omega
    go_wp2_with fail
    refine (HF _).mono ?_
    rintro e w2 ⟨rfl, hb2⟩
    go_wp2
    go_ret
    exact ⟨rfl, hb2⟩
  · have h3' : ¬ (3000 : Int) < (n1 : Int) := by omega
    have HC := copy_any cells A1 n1 c1 w hy (by omega)
    go_wp2_with fail
    refine HC.mono ?_
    clear HC
    rintro e w2 ⟨g, rfl, hrow, hgw, hb2⟩
    have hr2 := hrow.reads (n := n1) (by simpa using hy.len)
    have hbd := decB_bd cells
    have HD := dec_any cells hz _ n1 n1 w2 hr2 (by omega)
    go_wp2_with fail
    refine HD.mono ?_
    clear HD
    rintro e w3 ⟨A3, n3, c3, l3, rfl, hr3, hc3, hv3, hb3⟩
    have hB3 := then_ hb2 hb3
    have HR := rdec_any cells hz A1 n1 c1 w3 ((hy.below hB3).more hB3.size) (by omega)
    go_wp2_with fail
    refine HR.mono ?_
    clear HR
    rintro e w4 ⟨A4, n4, c4, l4, rfl, hr4, hc4, hv4, hb4⟩
    have hB4 := then_ hB3 hb4
    have hn3 : n3 ≤ 1048576 := by
      have h1 := hr3.vlen
      rw [hv3] at h1
      omega
    rw [← hv3] at hbd
    generalize (decB cells).2 = E at *
    have Hv := Lib.hid (hv3.trans hv4.symm)
    have Hbd := Lib.hid hbd.2
    clear hv3 hv4 hbd
    go_wp2_with fail
    refine (HF _).mono ?_
    rintro e w5 ⟨rfl, hb5⟩
    have hB5 := then_ hB4 hb5
    have h35 : Below w3.heap.size w3 w5 := then_ hb4 hb5
    have HS := sameE_yes l3 l4 Hv.out A3 A4 n3 c3 n4 c4 w5 ((hr3.below h35).more h35.size) ((hr4.below hb5).more hb5.size) hn3 Hbd.out
    go_wp2_with fail
    refine HS.mono ?_
    clear HS
    rintro e w6 ⟨rfl, hb6⟩
    have hB6 := then_ hB5 hb6
    have h26 : Below w2.heap.size w2 w6 := then_ (then_ (then_ hb3 hb4) hb5) hb6
    have HS2 := same32_yes cells cells _ A1 n1 n1 n1 c1 w6 ((hr2.below h26).more h26.size) ((hy.below hB6).more hB6.size) (by omega) rfl
    go_wp2_with fail
    refine HS2.mono ?_
    clear HS2
    rintro e w7 ⟨rfl, hb7⟩
    go_wp2
    go_ret
    exact ⟨rfl, then_ hB6 hb7⟩
end Go.Proofs.Ythjcacnladpbdaa
