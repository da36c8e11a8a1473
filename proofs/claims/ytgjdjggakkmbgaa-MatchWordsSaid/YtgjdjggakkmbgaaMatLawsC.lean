/- MatchWords, walked: printed by wip/bin/gen_matwords.py. -/
import Derived.Test.YtgjdjggakkmbgaaMatLawsA
import Derived.Test.YtgjdjggakkmbgaaMatPlain
namespace Go.Proofs.Ytgjdjggakkmbgaa
open Go.RowKit

theorem flatL_take (l : List Ln) (m : Nat) : (l.flatMap lnC).take (m * 1) = (l.take m).flatMap lnC := by
  induction l generalizing m with
  | nil => simp
  | cons a l ih =>
    cases m with
    | zero => simp
    | succ m =>
      rw [List.take_succ_cons, List.flatMap_cons, List.flatMap_cons, show (m + 1) * 1 = (lnC a).length + m * 1 from by rw [lnC_len]; omega, List.take_length_add_append, ih]
theorem ReadsL.front {w : World} {B n c : Nat} {A : Option Addr} {l : List Ln} (h : ReadsL w B A n c l) {m : Nat} (hm : m ≤ n) : ReadsL w B A m c (l.take m) :=
  ⟨by rw [← flatL_take]; exact h.row.front hm, fun x hx => h.ent x (List.mem_of_mem_take hx)⟩
theorem flatT_take (l : List Tk) (m : Nat) : (l.flatMap tkC).take (m * 3) = (l.take m).flatMap tkC := by
  induction l generalizing m with
  | nil => simp
  | cons a l ih =>
    cases m with
    | zero => simp
    | succ m =>
      rw [List.take_succ_cons, List.flatMap_cons, List.flatMap_cons, show (m + 1) * 3 = (tkC a).length + m * 3 from by rw [tkC_len]; omega, List.take_length_add_append, ih]
theorem frontT {w : World} {B n c : Nat} {A : Option Addr} {l : List Tk} (h : ReadsT w B A n c l) {m : Nat} (hm : m ≤ n) : ReadsT w B A m c (l.take m) := by
  have := ReadsK.front h hm
  rw [flatT_take] at this
  exact this
theorem lnV_take (l : List Ln) (m : Nat) : lnV (l.take m) = (lnV l).take m := by rw [lnV, lnV, List.map_take]
theorem tkP_take (l : List Tk) (m : Nat) : tkP (l.take m) = (tkP l).take m := by rw [tkP, tkP, List.map_take]
theorem take_one {α : Type} (l : List α) (x : α) (h : 0 < l.length) : l.take 1 = [l.getD 0 x] := by
  cases l with
  | nil => simp at h
  | cons a l => rfl

set_option maxRecDepth 100000 in
set_option maxHeartbeats 20000000 in
theorem walkMatchWords {w : World} (ts : List Tk) (A : Option Addr) (n c : Nat) (hx : ReadsT w w.heap.size A n c ts) (_ : c ≤ maxLen) (ls : List Ln) (A1 : Option Addr) (n1 c1 : Nat) (hy : ReadsL w w.heap.size A1 n1 c1 ls) (_ : c1 ≤ maxLen) :
    Calls Try.prog 6 #[.slice A n c, .slice A1 n1 c1] w fun e w' => e = .returned (.bool true) ∧ Below w.heap.size w w' := by
  have HR := right_any ls A n c A1 n1 c1 w hy
  have HF := fixed_any
  have htl := Lib.hid hx.tkLen
  have hll := Lib.hid hy.vlen
  have hcap := hx.cap
  have hcap1 := hy.row.cap
  go_enter Try.func6, Try.ntmps6
  go_wp2_with fail
  refine HR.mono ?_
  clear HR
  rintro e w1 ⟨rfl | ⟨rfl, hn, hn1, hM⟩, hb1⟩
  · go_wp2_with fail
    refine (HF _).mono ?_
    rintro e w2 ⟨rfl, hb2⟩
    go_wp2
    go_ret
    exact ⟨rfl, then_ hb1 hb2⟩
  · have HM := Lib.hid hM
    clear hM
    by_cases hnn : n = n1
    · subst hnn
      by_cases h0 : n = 0
      · subst h0
        go_wp2_with fail
        refine (HF _).mono ?_
        rintro e w2 ⟨rfl, hb2⟩
        go_wp2
        go_ret
        exact ⟨rfl, then_ hb1 hb2⟩
      · have h0b : ((n : Int) == 0) = false := beq_false_of_ne (by omega)
        have h0n : (0 : Int) < (n : Int) := by omega
        have hn0' : 0 < n := by omega
        obtain ⟨a0, s0⟩ : ∃ a0, A = some a0 := by
          obtain ⟨ad, _, e, _⟩ := hx.at' tkC_len (by omega) (i := 0) (by omega)
          exact ⟨ad, e⟩
        subst s0
        obtain ⟨ad, hl0, e0, hb0, c00, c01⟩ := ((ReadsK.below hx hb1)).at' tkC_len (by omega) (i := 0) (by omega)
        injection e0 with e0
        subst e0
        have c00 : w1.cell? a0 = some (.int .u8 ts[0].f) := by simpa [Addr.add] using c00 _ rfl
        have c1' : w1.cell? ⟨a0.block, a0.off + 1, none⟩ = some (.string ts[0].s) := by simpa [Addr.add] using c01 1 _ (by omega) rfl
        have c2' : w1.cell? ⟨a0.block, a0.off + 2, none⟩ = some (.int .i64 ts[0].p) := by simpa [Addr.add] using c01 2 _ (by omega) rfl
        obtain ⟨al, A0, n0, c0, l0, rfl, hbl, cl, he0, hv0, _⟩ := (hy.below hb1).at' (i := 0) (by omega)
        have cl : w1.cell? al = some (.slice A0 n0 c0) := by simpa [Addr.add] using cl
        clear c01
        generalize ts[0].f = tf at *
        generalize ts[0].s = tx at *
        generalize ts[0].p = tp at *
        have hBt : Below w.heap.size w (w1.alloc (.cells #[.int .u8 tf, .string tx, .int .i64 tp] 41)) := hb1.alloc hb1.size _
        have hrT := Row.new w1 41 [.int .u8 tf, .string tx, .int .i64 tp]
        have h1n : (1 : Int) ≤ (n : Int) := by omega
        have h1c : (1 : Int) ≤ (c1 : Int) := by omega
        go_wp2_with (refine wpList_store_cellO rfl 3 (.tmp 37) (.const (.int .i64 0)) rfl w1.heap.size 2 (.int .i64 0) rfl rfl 41 _ hrT (by simp) rfl (by kernel_rfl) w.heap.size w hBt hb1.size ?_; intro w3 hr3 hB3 hs3 hk3)
        have hr3' : Row w3 w1.heap.size 41 [.int .u8 tf, .string tx, .int .i64 0] := hr3
        have q0 : w3.drew.cell? ⟨w1.heap.size, 0, none⟩ = some (.int .u8 tf) := hr3'.cell 0
        have q1 : w3.drew.cell? ⟨w1.heap.size, 1, none⟩ = some (.string tx) := hr3'.cell 1
        have q2 : w3.drew.cell? ⟨w1.heap.size, 2, none⟩ = some (.int .i64 0) := hr3'.cell 2
        have hB4 : Below w.heap.size w (w3.alloc (.cells #[.int .u8 tf, .string tx, .int .i64 0] 41)).drew := (hB3.alloc hB3.size _).drew
        have hTk := ReadsK.new (k := 3) w3 41 [.int .u8 tf, .string tx, .int .i64 0] rfl
        have hV1 : lnV (ls.take 1) = [(lnV ls).getD 0 []] := by rw [lnV_take]; exact take_one _ _ (by rw [hll.out]; omega)
        have hm0 := may_at HM.out 0 (by rw [hll.out]; omega)
        have HP := Lib.hid (phrase_any [⟨tf, tx, 0⟩] (ls.take 1) (some ⟨w3.heap.size, 0, none⟩) 1 1 (some al) 1 c1 (w3.alloc (.cells #[.int .u8 tf, .string tx, .int .i64 0] 41)).drew (show ReadsT _ _ _ _ _ _ from (hTk.more (by show w3.heap.size + 1 ≤ (w3.alloc _).heap.size; simp)).drew) (((hy.below hB4).more hB4.size).front (by omega)) (by omega) (fun V hV => by rw [hV1] at hV; rw [List.mem_singleton.1 hV]; exact hm0))
        rw [hV1, show tkP [⟨tf, tx, 0⟩] = [0] from rfl, one_found hm0] at HP
        have Hm0 := Lib.hid hm0
        clear hr3 hr3' hs3 hk3 hrT hBt hTk hV1 hm0
        refine wp_region_open (S := fun _ => True) #[false, false, false, false, false, false] 6 (by kernel_rfl) (by kernel_rfl) rfl trivial (fun hHeld => ?_)
        refine tk (i := 2) (v := ?_) rfl (by kernel_rfl) (by kernel_rfl) (by kernel_rfl) (Or.inl ⟨by rfl, ?_⟩) (by assumption) ?_; rotate_left 1
        · intro w hSw; (try dsimp only at hSw); go_simp; try with_reducible rfl
        try simp only [Act.put, List.getElem_toArray, List.getElem_cons_zero, List.getElem_cons_succ, List.setIfInBounds_toArray, List.set_cons_zero, List.set_cons_succ]
        refine tk (i := 3) (v := ?_) rfl (by kernel_rfl) (by kernel_rfl) (by kernel_rfl) (Or.inl ⟨by rfl, ?_⟩) (by assumption) ?_; rotate_left 1
        · intro w hSw; (try dsimp only at hSw); go_simp; try with_reducible rfl
        try simp only [Act.put, List.getElem_toArray, List.getElem_cons_zero, List.getElem_cons_succ, List.setIfInBounds_toArray, List.set_cons_zero, List.set_cons_succ]
        refine wpAnyH_ready (rs := [0]) (by kernel_rfl) (by simp) ?_
        refine AllReadyH.cons (o := _) rfl (fun K hK => ?_) AllReadyH.nil
        go_simp
        refine hK.out _ _ trivial (fun hHeld => ?_)
        clear hK K
        try simp only [List.setIfInBounds_toArray, List.set_cons_zero]
        refine wpAnyH_ready (rs := [1]) (by kernel_rfl) (by simp) ?_
        refine AllReadyH.cons (o := _) rfl (fun K hK => ?_) AllReadyH.nil
        go_simp
        refine hK.out _ _ trivial (fun hHeld => ?_)
        clear hK K
        try simp only [List.setIfInBounds_toArray, List.set_cons_zero, List.set_cons_succ]
        refine wpAnyH_ready (rs := [4]) (by kernel_rfl) (by simp) ?_
        refine AllReadyH.cons (o := _) rfl (fun K hK => ?_) AllReadyH.nil
        go_simp
        go_at_call 11
        refine HP.out.mono ?_
        rintro e w4 ⟨v4, rfl, hown4, hb4⟩
        refine hK.out _ _ trivial (fun hHeld => ?_)
        clear hK K
        try simp only [List.setIfInBounds_toArray, List.set_cons_zero, List.set_cons_succ]
        refine tk (i := 5) (v := ?_) rfl (by kernel_rfl) (by kernel_rfl) (by kernel_rfl) (Or.inl ⟨by rfl, ?_⟩) (by assumption) ?_; rotate_left 1
        · intro w hSw; (try dsimp only at hSw); go_simp; try with_reducible rfl
        try simp only [Act.put, List.getElem_toArray, List.getElem_cons_zero, List.getElem_cons_succ, List.setIfInBounds_toArray, List.set_cons_zero, List.set_cons_succ]
        refine wpAnyH_done (by kernel_rfl) ?_ _
        refine NoPanic.normal ?_
        have hB5 : Below w.heap.size w w4 := hB4.trans (hb4.mono hB4.size)
        have hvl0 := he0.vlen
        rw [hv0] at hvl0
        have hn64 := Hm0.out.len
        rw [hvl0] at hn64
        generalize hO : ((lnV ls).getD 0 []).map (fun e => (e.1, (e.2.length : Int))) = O at *
        have hOl : O.length = n0 := by rw [← hO, List.length_map, hvl0]
        have HO : Hid (∀ k (h : k < O.length), O[k] = ((enAt ((lnV ls).getD 0 []) k).1, ((enAt ((lnV ls).getD 0 []) k).2.length : Int))) := Lib.hid (fun k h => by
          subst hO
          rw [List.getElem_map, enAt_get _ k (by simpa using h)])
        obtain ⟨A4, c4, rfl, hr4, _, _⟩ := ReadsK.of_own hown4
        rw [hOl] at hr4
        have hlc4 := hr4.cap
        have cl4 : w4.cell? al = some (.slice A0 n0 c0) := (hB5.cell hbl).trans ((hb1.cell hbl).symm.trans cl)
        have hn0b : ((n0 : Int) != (n0 : Int)) = false := by simp
        have HOl := Lib.hid hOl
        try rw [hOl]
        clear hO hown4 hHeld HP q0 q1 q2 hvl0 hb4 hB4
        go_wp2_with fail
        try rw [HOl.out]
        clear hOl
        go_loopw [52] (fun i wr => ∃ k : Nat, k ≤ n0 ∧ i = .int .i64 (k : Int) ∧ Below w4.heap.size w4 wr) (fun i _ => n0 - (intOf i).toNat)
        case atStart => exact ⟨0, by omega, rfl, Below.refl _ _⟩
        case round =>
          obtain ⟨k, hk, rfl, hB6⟩ := hrel
          have hBw6 : Below w.heap.size w wr := hB5.trans (hB6.mono hB5.size)
          by_cases hlt : k < n0
          · have hlt' : (k : Int) < (n0 : Int) := by omega
            have hk0 : (0 : Int) ≤ (k : Int) := by omega
            obtain ⟨a4, hlO, rfl, hb4, f0, f1⟩ := (hr4.below hB6).fd hlt
            obtain ⟨ae, d, P, A8, c8, rfl, hbe, hen, e0, e1, _⟩ := (he0.keep (w' := wr) (fun p hp => (hBw6.cell hp).trans (hb1.cell hp).symm)).at' hlt
            rw [hv0] at hen
            have hOk := HO.out k hlO
            rw [hen] at hOk
            simp only at hOk
            rw [hOk] at f0 f1
            simp only at f0 f1
            have l0 : wr.cell? al = some (.slice (some ae) n0 c0) := (hB6.cell (by have := hB5.size; omega)).trans cl4
            have hB7 : Below w4.heap.size w4 (wr.alloc (.cells #[.int .i64 d, .int .i64 (P.length : Int)] 44)) := hB6.alloc hB6.size _
            have hr7 := Row.new wr 44 [.int .i64 d, .int .i64 (P.length : Int)]
            have hw7 : ∀ p : Addr, p.block < wr.heap.size → (wr.alloc (.cells #[.int .i64 d, .int .i64 (P.length : Int)] 44)).drew.cell? p = wr.cell? p := fun p hp => World.cell?_alloc_lt wr _ p hp
            have l0 := (hw7 al (by have := hBw6.size; omega)).trans l0
            have e0 := (hw7 _ (by rw [Go.Proofs.Ytgjdjggakkmbgaa.add_block]; have := hBw6.size; omega)).trans e0
            have e1 := (hw7 ⟨(ae.add (k * 2)).block, (ae.add (k * 2)).off + 1, none⟩ (by show (ae.add (k * 2)).block < _; rw [Go.Proofs.Ytgjdjggakkmbgaa.add_block]; have := hBw6.size; omega)).trans e1
            obtain ⟨g8, hg8⟩ : ∃ g8, wr.heap.size = g8 := ⟨_, rfl⟩
            clear hOk hen
            go_wp2_with fail
            try rw [hg8]
            rw [hg8] at hr7
            generalize wr.alloc (.cells #[.int .i64 d, .int .i64 (P.length : Int)] 44) = w8 at *
            have f0 : w8.drew.cell? ⟨g8, 0, none⟩ = some (.int .i64 d) := hr7.cell 0
            have f1 : w8.drew.cell? ⟨g8, 1, none⟩ = some (.int .i64 (P.length : Int)) := hr7.cell 1
            have hB8 : Below w4.heap.size w4 w8.drew := hB7.drew
            clear hr7 hw7 hB7
            refine wp_region_open (S := (fun w' : World => w'.cell? ⟨g8, 0, none⟩ = some (.int .i64 d) ∧ w'.cell? ⟨g8, 1, none⟩ = some (.int .i64 (P.length : Int)) ∧ w'.cell? al = some (.slice (some ae) n0 c0) ∧ w'.cell? (ae.add (k * 2)) = some (.int .i64 d) ∧ w'.cell? ⟨(ae.add (k * 2)).block, (ae.add (k * 2)).off + 1, none⟩ = some (.slice A8 P.length c8))) #[false, false, false, false, false, false, false, false, false, false, false, false, false, false, false, false, false, false, false, false, false, false, false] 23 (by kernel_rfl) (by kernel_rfl) rfl (⟨f0, f1, l0, e0, e1⟩) (fun hHeld => ?_)
            refine tk (i := 0) (v := ?_) rfl (by kernel_rfl) (by kernel_rfl) (by kernel_rfl) (Or.inl ⟨by rfl, ?_⟩) (by assumption) ?_; rotate_left 1
            · intro w hSw; (try dsimp only at hSw); go_simp; try with_reducible rfl
            try simp only [Act.put, List.getElem_toArray, List.getElem_cons_zero, List.setIfInBounds_toArray, List.set_cons_zero, List.set_cons_succ]
            refine tk (i := 1) (v := ?_) rfl (by kernel_rfl) (by kernel_rfl) (by kernel_rfl) (Or.inl ⟨by rfl, ?_⟩) (by assumption) ?_; rotate_left 1
            · intro w hSw; (try dsimp only at hSw); go_simp; try with_reducible rfl
            try simp only [Act.put, List.getElem_toArray, List.getElem_cons_zero, List.getElem_cons_succ, List.setIfInBounds_toArray, List.set_cons_zero, List.set_cons_succ]
            refine tk (i := 2) (v := ?_) rfl (by kernel_rfl) (by kernel_rfl) (by kernel_rfl) (Or.inl ⟨by rfl, ?_⟩) (by assumption) ?_; rotate_left 1
            · intro w hSw; (try dsimp only at hSw); go_simp; try with_reducible rfl
            try simp only [Act.put, List.getElem_toArray, List.getElem_cons_zero, List.getElem_cons_succ, List.setIfInBounds_toArray, List.set_cons_zero, List.set_cons_succ]
            refine tk (i := 3) (v := ?_) rfl (by kernel_rfl) (by kernel_rfl) (by kernel_rfl) (Or.inl ⟨by rfl, ?_⟩) (by assumption) ?_; rotate_left 1
            · intro w hSw; (try dsimp only at hSw); go_simp; try with_reducible rfl
            try simp only [Act.put, List.getElem_toArray, List.getElem_cons_zero, List.getElem_cons_succ, List.setIfInBounds_toArray, List.set_cons_zero, List.set_cons_succ]
            refine tk (i := 4) (v := ?_) rfl (by kernel_rfl) (by kernel_rfl) (by kernel_rfl) (Or.inl ⟨by rfl, ?_⟩) (by assumption) ?_; rotate_left 1
            · intro w hSw; (try dsimp only at hSw); go_simp; try with_reducible rfl
            try simp only [Act.put, List.getElem_toArray, List.getElem_cons_zero, List.getElem_cons_succ, List.setIfInBounds_toArray, List.set_cons_zero, List.set_cons_succ]
            refine tk (i := 5) (v := ?_) rfl (by kernel_rfl) (by kernel_rfl) (by kernel_rfl) (Or.inl ⟨by rfl, ?_⟩) (by assumption) ?_; rotate_left 1
            · intro w hSw; (try dsimp only at hSw); go_simp; try with_reducible rfl
            try simp only [Act.put, List.getElem_toArray, List.getElem_cons_zero, List.getElem_cons_succ, List.setIfInBounds_toArray, List.set_cons_zero, List.set_cons_succ]
            refine tk (i := 6) (v := ?_) rfl (by kernel_rfl) (by kernel_rfl) (by kernel_rfl) (Or.inl ⟨by rfl, ?_⟩) (by assumption) ?_; rotate_left 1
            · intro w hSw; (try dsimp only at hSw); go_simp; try with_reducible rfl
            try simp only [Act.put, List.getElem_toArray, List.getElem_cons_zero, List.getElem_cons_succ, List.setIfInBounds_toArray, List.set_cons_zero, List.set_cons_succ]
            refine tk (i := 7) (v := ?_) rfl (by kernel_rfl) (by kernel_rfl) (by kernel_rfl) (Or.inl ⟨by rfl, ?_⟩) (by assumption) ?_; rotate_left 1
            · intro w hSw; (try dsimp only at hSw); go_simp; try with_reducible rfl
            try simp only [Act.put, List.getElem_toArray, List.getElem_cons_zero, List.getElem_cons_succ, List.setIfInBounds_toArray, List.set_cons_zero, List.set_cons_succ]
            refine tk (i := 8) (v := ?_) rfl (by kernel_rfl) (by kernel_rfl) (by kernel_rfl) (Or.inl ⟨by rfl, ?_⟩) (by assumption) ?_; rotate_left 1
            · intro w hSw; (try dsimp only at hSw); go_simp; try with_reducible rfl
            try simp only [Act.put, List.getElem_toArray, List.getElem_cons_zero, List.getElem_cons_succ, List.setIfInBounds_toArray, List.set_cons_zero, List.set_cons_succ]
            refine tk (i := 9) (v := ?_) rfl (by kernel_rfl) (by kernel_rfl) (by kernel_rfl) (Or.inl ⟨by rfl, ?_⟩) (by assumption) ?_; rotate_left 1
            · intro w hSw; (try dsimp only at hSw); go_simp; try with_reducible rfl
            try simp only [Act.put, List.getElem_toArray, List.getElem_cons_zero, List.getElem_cons_succ, List.setIfInBounds_toArray, List.set_cons_zero, List.set_cons_succ]
            refine tk (i := 10) (v := ?_) rfl (by kernel_rfl) (by kernel_rfl) (by kernel_rfl) (Or.inl ⟨by rfl, ?_⟩) (by assumption) ?_; rotate_left 1
            · intro w hSw; (try dsimp only at hSw); go_simp; try with_reducible rfl
            try simp only [Act.put, List.getElem_toArray, List.getElem_cons_zero, List.getElem_cons_succ, List.setIfInBounds_toArray, List.set_cons_zero, List.set_cons_succ]
            refine tk (i := 11) (v := ?_) rfl (by kernel_rfl) (by kernel_rfl) (by kernel_rfl) (Or.inl ⟨by rfl, ?_⟩) (by assumption) ?_; rotate_left 1
            · intro w hSw; (try dsimp only at hSw); go_simp; try with_reducible rfl
            try simp only [Act.put, List.getElem_toArray, List.getElem_cons_zero, List.getElem_cons_succ, List.setIfInBounds_toArray, List.set_cons_zero, List.set_cons_succ]
            refine tk (i := 12) (v := ?_) rfl (by kernel_rfl) (by kernel_rfl) (by kernel_rfl) (Or.inl ⟨by rfl, ?_⟩) (by assumption) ?_; rotate_left 1
            · intro w hSw; (try dsimp only at hSw); go_simp; try with_reducible rfl
            try simp only [Act.put, List.getElem_toArray, List.getElem_cons_zero, List.getElem_cons_succ, List.setIfInBounds_toArray, List.set_cons_zero, List.set_cons_succ]
            refine tk (i := 13) (v := ?_) rfl (by kernel_rfl) (by kernel_rfl) (by kernel_rfl) (Or.inl ⟨by rfl, ?_⟩) (by assumption) ?_; rotate_left 1
            · intro w hSw; (try dsimp only at hSw); go_simp; try with_reducible rfl
            try simp only [Act.put, List.getElem_toArray, List.getElem_cons_zero, List.getElem_cons_succ, List.setIfInBounds_toArray, List.set_cons_zero, List.set_cons_succ]
            refine tk (i := 14) (v := ?_) rfl (by kernel_rfl) (by kernel_rfl) (by kernel_rfl) (Or.inl ⟨by rfl, ?_⟩) (by assumption) ?_; rotate_left 1
            · intro w hSw; (try dsimp only at hSw); go_simp; try with_reducible rfl
            try simp only [Act.put, List.getElem_toArray, List.getElem_cons_zero, List.getElem_cons_succ, List.setIfInBounds_toArray, List.set_cons_zero, List.set_cons_succ]
            refine tk (i := 15) (v := ?_) rfl (by kernel_rfl) (by kernel_rfl) (by kernel_rfl) (Or.inl ⟨by rfl, ?_⟩) (by assumption) ?_; rotate_left 1
            · intro w hSw; (try dsimp only at hSw); go_simp; try with_reducible rfl
            try simp only [Act.put, List.getElem_toArray, List.getElem_cons_zero, List.getElem_cons_succ, List.setIfInBounds_toArray, List.set_cons_zero, List.set_cons_succ]
            refine tk (i := 16) (v := ?_) rfl (by kernel_rfl) (by kernel_rfl) (by kernel_rfl) (Or.inl ⟨by rfl, ?_⟩) (by assumption) ?_; rotate_left 1
            · intro w hSw; (try dsimp only at hSw); go_simp; try with_reducible rfl
            try simp only [Act.put, List.getElem_toArray, List.getElem_cons_zero, List.getElem_cons_succ, List.setIfInBounds_toArray, List.set_cons_zero, List.set_cons_succ]
            refine tk (i := 17) (v := ?_) rfl (by kernel_rfl) (by kernel_rfl) (by kernel_rfl) (Or.inl ⟨by rfl, ?_⟩) (by assumption) ?_; rotate_left 1
            · intro w hSw; (try dsimp only at hSw); go_simp; try with_reducible rfl
            try simp only [Act.put, List.getElem_toArray, List.getElem_cons_zero, List.getElem_cons_succ, List.setIfInBounds_toArray, List.set_cons_zero, List.set_cons_succ]
            refine tk (i := 18) (v := ?_) rfl (by kernel_rfl) (by kernel_rfl) (by kernel_rfl) (Or.inl ⟨by rfl, ?_⟩) (by assumption) ?_; rotate_left 1
            · intro w hSw; (try dsimp only at hSw); go_simp; try with_reducible rfl
            try simp only [Act.put, List.getElem_toArray, List.getElem_cons_zero, List.getElem_cons_succ, List.setIfInBounds_toArray, List.set_cons_zero, List.set_cons_succ]
            refine tk (i := 19) (v := ?_) rfl (by kernel_rfl) (by kernel_rfl) (by kernel_rfl) (Or.inl ⟨by rfl, ?_⟩) (by assumption) ?_; rotate_left 1
            · intro w hSw; (try dsimp only at hSw); go_simp; try with_reducible rfl
            try simp only [Act.put, List.getElem_toArray, List.getElem_cons_zero, List.getElem_cons_succ, List.setIfInBounds_toArray, List.set_cons_zero, List.set_cons_succ]
            refine tk (i := 20) (v := ?_) rfl (by kernel_rfl) (by kernel_rfl) (by kernel_rfl) (Or.inl ⟨by rfl, ?_⟩) (by assumption) ?_; rotate_left 1
            · intro w hSw; (try dsimp only at hSw); go_simp; try with_reducible rfl
            try simp only [Act.put, List.getElem_toArray, List.getElem_cons_zero, List.getElem_cons_succ, List.setIfInBounds_toArray, List.set_cons_zero, List.set_cons_succ]
            refine tk (i := 21) (v := ?_) rfl (by kernel_rfl) (by kernel_rfl) (by kernel_rfl) (Or.inl ⟨by rfl, ?_⟩) (by assumption) ?_; rotate_left 1
            · intro w hSw; (try dsimp only at hSw); go_simp; try with_reducible rfl
            try simp only [Act.put, List.getElem_toArray, List.getElem_cons_zero, List.getElem_cons_succ, List.setIfInBounds_toArray, List.set_cons_zero, List.set_cons_succ]
            refine tk (i := 22) (v := ?_) rfl (by kernel_rfl) (by kernel_rfl) (by kernel_rfl) (Or.inl ⟨by rfl, ?_⟩) (by assumption) ?_; rotate_left 1
            · intro w hSw; (try dsimp only at hSw); go_simp; try with_reducible rfl
            try simp only [Act.put, List.getElem_toArray, List.getElem_cons_zero, List.getElem_cons_succ, List.setIfInBounds_toArray, List.set_cons_zero, List.set_cons_succ]
            refine wpAnyH_done (by kernel_rfl) ?_ _
            refine NoPanic.normal ?_
            clear hHeld
            go_wp2
            go_roundw
            case rel => exact ⟨k + 1, by omega, by go_num, hB8⟩
            case measure => simp [intOf]; omega
          · have hlt' : ¬ (k : Int) < (n0 : Int) := by omega
            clear hr4
            by_cases hn1' : n = 1
            · subst hn1'
              go_wp2_with fail
              refine (HF _).mono ?_
              rintro e w9 ⟨rfl, hb9⟩
              go_wp2
              go_ret
              exact ⟨rfl, then_ hBw6 hb9⟩
            · obtain ⟨N, rfl⟩ : ∃ N, n = N + 1 := ⟨n - 1, by omega⟩
              have hN0 : 0 < N := by omega
              have hNb : ((N : Int) == 0) = false := beq_false_of_ne (by omega)
              have hNi : (N : Int) < (N : Int) + 1 := by omega
              have hNc : (N : Int) ≤ (c : Int) := by omega
              have hNc1 : (N : Int) ≤ (c1 : Int) := by omega
              have hNn : (N : Int) ≤ (N : Int) + 1 := by omega
              obtain ⟨aN, fN, sN, eN, _, hiN, _, _, pN⟩ := (ReadsK.below hx hBw6).tk (i := N) (by omega)
              injection eN with eN
              subst eN
              generalize (tkP ts).getD N 0 = p at *
              clear h0n h0b hn1' hcap hcap1 hlt'
              by_cases hpb : p < 0 ∨ 65535 < p
              · rcases hpb with hb | hb
                · go_wp2_with fail
                  refine (HF _).mono ?_
                  rintro e w9 ⟨rfl, hb9⟩
                  go_wp2
                  go_ret
                  exact ⟨rfl, then_ hBw6 hb9⟩
                · have hb2 : ¬ p < 0 := by omega
                  go_wp2_with fail
                  refine (HF _).mono ?_
                  rintro e w9 ⟨rfl, hb9⟩
                  go_wp2
                  go_ret
                  exact ⟨rfl, then_ hBw6 hb9⟩
              · have hp1 : ¬ p < 0 := by omega
                have hp2 : ¬ 65535 < p := by omega
                have hBd : Below w.heap.size w wr.drew := hBw6.drew
                have hMt : ∀ V ∈ lnV (ls.take N), MayP V := fun V hV => by rw [lnV_take] at hV; exact HM.out V (List.mem_of_mem_take hV)
                have HQ := Lib.hid (phrase_any (ts.take N) (ls.take N) (some a0) N c (some al) N c1 wr.drew (frontT ((ReadsK.below hx hBd).more hBd.size) (by omega)) (((hy.below hBd).more hBd.size).front (by omega)) (by omega) hMt)
                have hL1 := ph_len (T := tkP (ts.take N)) hMt
                have hL2 := ph_len (T := tkP ts) HM.out
                rw [tkP_take, lnV_take] at HQ hL1
                have HFl := Lib.hid (fun f (hf : f ∈ phF (tkP ts) (lnV ls)) => found_less N hN0 (by rw [htl.out]) f hf)
                generalize phF ((tkP ts).take N) ((lnV ls).take N) = L1 at *
                clear hMt hpb
                go_wp2_with fail
                refine wp_region_open (S := fun _ => True) #[false, false, false, false, false, false, false, false] 8 (by kernel_rfl) (by kernel_rfl) rfl (trivial) (fun hHeld => ?_)
                refine tk (i := 0) (v := ?_) rfl (by kernel_rfl) (by kernel_rfl) (by kernel_rfl) (Or.inl ⟨by rfl, ?_⟩) (by assumption) ?_; rotate_left 1
                · intro w hSw; (try dsimp only at hSw); go_simp; try with_reducible rfl
                try simp only [Act.put, List.getElem_toArray, List.getElem_cons_zero, List.setIfInBounds_toArray, List.set_cons_zero, List.set_cons_succ]
                refine tk (i := 1) (v := ?_) rfl (by kernel_rfl) (by kernel_rfl) (by kernel_rfl) (Or.inl ⟨by rfl, ?_⟩) (by assumption) ?_; rotate_left 1
                · intro w hSw; (try dsimp only at hSw); go_simp; try with_reducible rfl
                try simp only [Act.put, List.getElem_toArray, List.getElem_cons_zero, List.getElem_cons_succ, List.setIfInBounds_toArray, List.set_cons_zero, List.set_cons_succ]
                refine tk (i := 2) (v := ?_) rfl (by kernel_rfl) (by kernel_rfl) (by kernel_rfl) (Or.inl ⟨by rfl, ?_⟩) (by assumption) ?_; rotate_left 1
                · intro w hSw; (try dsimp only at hSw); go_simp; try with_reducible rfl
                try simp only [Act.put, List.getElem_toArray, List.getElem_cons_zero, List.getElem_cons_succ, List.setIfInBounds_toArray, List.set_cons_zero, List.set_cons_succ]
                refine tk (i := 3) (v := ?_) rfl (by kernel_rfl) (by kernel_rfl) (by kernel_rfl) (Or.inl ⟨by rfl, ?_⟩) (by assumption) ?_; rotate_left 1
                · intro w hSw; (try dsimp only at hSw); go_simp; try with_reducible rfl
                try simp only [Act.put, List.getElem_toArray, List.getElem_cons_zero, List.getElem_cons_succ, List.setIfInBounds_toArray, List.set_cons_zero, List.set_cons_succ]
                refine tk (i := 4) (v := ?_) rfl (by kernel_rfl) (by kernel_rfl) (by kernel_rfl) (Or.inl ⟨by rfl, ?_⟩) (by assumption) ?_; rotate_left 1
                · intro w hSw; (try dsimp only at hSw); go_simp; try with_reducible rfl
                try simp only [Act.put, List.getElem_toArray, List.getElem_cons_zero, List.getElem_cons_succ, List.setIfInBounds_toArray, List.set_cons_zero, List.set_cons_succ]
                refine tk (i := 5) (v := ?_) rfl (by kernel_rfl) (by kernel_rfl) (by kernel_rfl) (Or.inl ⟨by rfl, ?_⟩) (by assumption) ?_; rotate_left 1
                · intro w hSw; (try dsimp only at hSw); go_simp; try with_reducible rfl
                try simp only [Act.put, List.getElem_toArray, List.getElem_cons_zero, List.getElem_cons_succ, List.setIfInBounds_toArray, List.set_cons_zero, List.set_cons_succ]
                refine wpAnyH_ready (rs := [6]) (by kernel_rfl) (by simp) ?_
                refine AllReadyH.cons (o := _) rfl (fun K hK => ?_) AllReadyH.nil
                go_simp
                go_at_call 11
                refine HQ.out.mono ?_
                rintro e w11 ⟨v11, rfl, hown11, hb11⟩
                refine hK.out _ _ trivial (fun hHeld => ?_)
                clear hK K
                try simp only [List.setIfInBounds_toArray, List.set_cons_zero, List.set_cons_succ]
                refine tk (i := 7) (v := ?_) rfl (by kernel_rfl) (by kernel_rfl) (by kernel_rfl) (Or.inl ⟨by rfl, ?_⟩) (by assumption) ?_; rotate_left 1
                · intro w hSw; (try dsimp only at hSw); go_simp; try with_reducible rfl
                try simp only [Act.put, List.getElem_toArray, List.getElem_cons_zero, List.getElem_cons_succ, List.setIfInBounds_toArray, List.set_cons_zero, List.set_cons_succ]
                refine wpAnyH_done (by kernel_rfl) ?_ _
                refine NoPanic.normal ?_
                have hB11 : Below w.heap.size w w11 := hBd.trans (hb11.mono hBd.size)
                have HP2 := phrase_any ts ls (some a0) (N + 1) c (some al) (N + 1) c1 w11 ((ReadsK.below hx hB11).more hB11.size) ((hy.below hB11).more hB11.size) (by omega) HM.out
                generalize phF (tkP ts) (lnV ls) = L2 at *
                obtain ⟨A11, c11, rfl, hr11, _, _⟩ := ReadsK.of_own hown11
                clear hown11 HQ hHeld
                go_wp2_with fail
                refine HP2.mono ?_
                clear HP2
                rintro e w12 ⟨v12, rfl, hown12, hb12⟩
                have hB12 := then_ hB11 hb12
                obtain ⟨A12, c12, rfl, hr12, _, _⟩ := ReadsK.of_own hown12
                have hr11' := (hr11.below hb12).more hb12.size
                have hlc11 := hr11'.cap
                have hlc12 := hr12.cap
                clear hown12 hr11
                go_wp2_with fail
                go_loopw [110] (fun i wr => ∃ k : Nat, k ≤ L2.length ∧ i = .int .i64 (k : Int) ∧ Below w12.heap.size w12 wr) (fun i _ => L2.length - (intOf i).toNat)
                case atStart => exact ⟨0, by omega, rfl, Below.refl _ _⟩
                case round =>
                  obtain ⟨k, hk, rfl, hB13⟩ := hrel
                  by_cases hlt : k < L2.length
                  · have hlt' : (k : Int) < (L2.length : Int) := by omega
                    obtain ⟨ad2, hl2, rfl, _, d0, d1⟩ := (hr12.below hB13).fd hlt
                    have hfl := HFl.out L2[k] (List.getElem_mem hl2)
                    generalize L2[k] = f at *
                    obtain ⟨fd, ft⟩ := f
                    simp only at d0 d1 hfl
                    have hB14 : Below w12.heap.size w12 (wr.alloc (.cells #[.int .i64 fd, .int .i64 ft] 44)) := hB13.alloc hB13.size _
                    have hrf := Row.new wr 44 [.int .i64 fd, .int .i64 ft]
                    obtain ⟨fb, hfb⟩ : ∃ fb, wr.heap.size = fb := ⟨_, rfl⟩
                    rw [hfb] at hrf
                    have Hfl : Hid (L1.any (fun g => decide (g.1 = fd) && decide (ft ≤ g.2)) = true) := Lib.hid (by
                      obtain ⟨g, hg, h1, h2⟩ := hfl
                      rw [List.any_eq_true]
                      exact ⟨g, hg, by simp [h1, h2]⟩)
                    clear hfl
                    go_wp2_with fail
                    try rw [hfb]
                    generalize wr.alloc (.cells #[.int .i64 fd, .int .i64 ft] 44) = w14 at *
                    have Hfb := Lib.hid hfb
                    clear hfb d0 d1
                    go_loopw [14, 116] (fun ok i wr2 => ∃ t : Nat, t ≤ L1.length ∧ i = .int .i64 (t : Int) ∧ ok = .bool ((L1.take t).any (fun g => decide (g.1 = fd) && decide (ft ≤ g.2))) ∧ Below w12.heap.size w12 wr2 ∧ Row wr2 fb 44 [.int .i64 fd, .int .i64 ft]) (fun _ i _ => L1.length - (intOf i).toNat)
                    case atStart => exact ⟨0, by omega, rfl, rfl, hB14, hrf⟩
                    case round =>
                      clear hB14 hrf
                      obtain ⟨t, ht, rfl, rfl, hB15, hrf⟩ := hrel
                      by_cases hlt3 : t < L1.length
                      · have hlt3' : (t : Int) < (L1.length : Int) := by omega
                        obtain ⟨ad1, hl1, rfl, _, d0, d1⟩ := (hr11'.below hB15).fd hlt3
                        have Hst : Hid ((L1.take (t + 1)).any (fun g => decide (g.1 = fd) && decide (ft ≤ g.2)) = ((L1.take t).any (fun g => decide (g.1 = fd) && decide (ft ≤ g.2)) || (decide (L1[t].1 = fd) && decide (ft ≤ L1[t].2)))) := Lib.hid (by rw [List.take_succ_eq_append_getElem hl1, List.any_append]; simp)
                        generalize L1[t] = g at *
                        obtain ⟨gd, gt⟩ := g
                        simp only at d0 d1 Hst
                        have hB16 : Below w12.heap.size w12 (wr.alloc (.cells #[.int .i64 gd, .int .i64 gt] 44)) := hB15.alloc hB15.size _
                        have hrf6 := hrf.alloc (.cells #[.int .i64 gd, .int .i64 gt] 44)
                        have q0 : (wr.alloc (.cells #[.int .i64 gd, .int .i64 gt] 44)).cell? ⟨fb, 0, none⟩ = some (.int .i64 fd) := hrf6.cell 0
                        have q1 : (wr.alloc (.cells #[.int .i64 gd, .int .i64 gt] 44)).cell? ⟨fb, 1, none⟩ = some (.int .i64 ft) := hrf6.cell 1
                        generalize (L1.take t).any (fun g => decide (g.1 = fd) && decide (ft ≤ g.2)) = ok at *
                        cases ok
                        · by_cases hgd : gd = fd
                          · have hgd' : (gd == fd) = true := by simp [hgd]
                            by_cases hgt : ft ≤ gt
                            · have HN : Hid ((L1.take (t + 1)).any (fun g => decide (g.1 = fd) && decide (ft ≤ g.2)) = true) := Lib.hid (by rw [Hst.out]; simp [hgd, hgt])
                              clear hgd
                              go_wp2
                              go_roundw
                              case rel => exact ⟨t + 1, by omega, by go_num, by rw [HN.out], hB16, hrf6⟩
                              case measure => simp [intOf]; omega
                            · have HN : Hid ((L1.take (t + 1)).any (fun g => decide (g.1 = fd) && decide (ft ≤ g.2)) = false) := Lib.hid (by rw [Hst.out]; simp [hgt])
                              clear hgd
                              go_wp2
                              go_roundw
                              case rel => exact ⟨t + 1, by omega, by go_num, by rw [HN.out], hB16, hrf6⟩
                              case measure => simp [intOf]; omega
                          · have hgd' : (gd == fd) = false := by simp [hgd]
                            have HN : Hid ((L1.take (t + 1)).any (fun g => decide (g.1 = fd) && decide (ft ≤ g.2)) = false) := Lib.hid (by rw [Hst.out]; simp [hgd])
                            clear hgd
                            go_wp2
                            go_roundw
                            case rel => exact ⟨t + 1, by omega, by go_num, by rw [HN.out], hB16, hrf6⟩
                            case measure => simp [intOf]; omega
                        · have HN : Hid ((L1.take (t + 1)).any (fun g => decide (g.1 = fd) && decide (ft ≤ g.2)) = true) := Lib.hid (by rw [Hst.out]; rfl)
                          go_wp2
                          go_roundw
                          case rel => exact ⟨t + 1, by omega, by go_num, by rw [HN.out], hB16, hrf6⟩
                          case measure => simp [intOf]; omega
                      · have hlt3' : ¬ (t : Int) < (L1.length : Int) := by omega
                        have HN : Hid ((L1.take t).any (fun g => decide (g.1 = fd) && decide (ft ≤ g.2)) = true) := Lib.hid (by rw [List.take_of_length_le (by omega)]; exact Hfl.out)
                        rw [HN.out]
                        go_wp2
                        go_roundw
                        case rel => exact ⟨k + 1, by omega, by go_num, hB15⟩
                        case measure => simp [intOf]; omega
                  · have hlt' : ¬ (k : Int) < (L2.length : Int) := by omega
                    have hB17 := hB12.trans (hB13.mono hB12.size)
                    go_wp2_with fail
                    refine (HF _).mono ?_
                    rintro e w9 ⟨rfl, hb9⟩
                    go_wp2
                    go_ret
                    exact ⟨rfl, then_ hB17 hb9⟩
    · have hne : ((n : Int) != (n1 : Int)) = true := by simp; omega
      go_wp2_with fail
      refine (HF _).mono ?_
      rintro e w2 ⟨rfl, hb2⟩
      go_wp2
      go_ret
      exact ⟨rfl, then_ hb1 hb2⟩
end Go.Proofs.Ytgjdjggakkmbgaa
