/- MatchEither, walked. -/
import Derived.Test.YtgjdjggakkmbgaaMatLawsA
import Derived.Test.YtgjdjggakkmbgaaMatTree
import Derived.Test.YtgjdjggakkmbgaaMatSameI
import Derived.Test.YtgjdjggakkmbgaaMatRisen
import Derived.Test.YtgjdjggakkmbgaaMatGreat
import Derived.Test.YtgjdjggakkmbgaaMatNotMath
namespace Go.Proofs.Ytgjdjggakkmbgaa
open Go.RowKit

section
variable {P : Program} {W : World}
/-- append(out, x) of one element, the bound in bytes. -/
theorem wpList_append_oneW {ops : Array Oper} {rest : List Oper} {o : Oper} {a : Act} {Q : Exit → Act → World → Prop} (hgd : o.guard = none) (s x : Operand) (t : TypeId)
    (ho : o.op = .call { callee := .builtin .append, args := #[s, x], argTypes := #[t, t] })
    (base : Nat) (e : TypeId) (i : TypeInfo) (z : Value) (k bytes : Nat) (ht : P.underlying t = some (.slice e)) (hi : P.info? e = some i) (hz : i.zero = some z)
    (hsize : i.size = k) (hby : i.bytes = bytes) (hzs : z.cells.size = k) (h0 : 0 < k)
    (v : Value) (n : Nat) (xs us : List Value) (hus : us.length = k) (hown : W.ownsRow base e k v n xs)
    (hs : a.eval s = v) (hx : a.eval x = .slice (some ⟨W.heap.size, 0, none⟩) 1 1) (h1 : ∀ u ∈ us, u.oneCell' = true)
    (hnm : n + 1 ≤ maxLen) (hb8 : (n + 1) * bytes ≤ 140737488355328) (hbase : base ≤ W.heap.size)
    (h : ∀ v' w', w'.ownsRow base e k v' (n + 1) (xs ++ us) → W.grownBy w' v.ownBlock → (v'.ownBlock = v.ownBlock ∨ v'.ownBlock = some (W.heap.size + 1)) → wpList P ops Q rest (a.put o.dst v') w') : wpList P ops Q (o :: rest) a (W.alloc (.cells us.toArray e)) := by
  have hr := ReadsK.new W e us hus
  obtain ⟨ad, hA, _, hc⟩ := hr.at_ (by omega)
  injection hA with hA
  subst hA
  obtain ⟨v', w', hrun, h2, h3, _, h4⟩ := run_append_own_at (P := P) (W.alloc (.cells us.toArray e)) base t o.type e i z k bytes ht hi hz hsize hby hzs h0 v n xs (hown.alloc _) ⟨W.heap.size, 0, none⟩ 1 1 us (by rw [hus]; omega) hc h1 hnm hb8 (by simp; omega)
  refine wpList_plain hgd fun _ hK => ?_
  unfold Oper.wp execOp
  simp only [ho, resolve, invoke, builtin, Sem.run_bind, Sem.run_pure, Result.andThen_ok, List.map_toArray, List.map_cons, List.map_nil, hs, hx, hrun]
  exact hK _ _ (h v' w' h2 (grown_of_alloc h3) (by simpa using h4))
end

/-- Nots of nodes, each node in a block of its own, apart from the row of the Nots. -/
inductive NotRows (w : World) (base : Nat) (v : Value) : List NodeM → List NodeM → Prop where
  | nil : NotRows w base v [] []
  | snoc {ks ns : List NodeM} {k : NodeM} (g : Nat) (h : NotRows w base v ks ns) (hr : Row w g 31 (ndC k)) (hb : base ≤ g) (hv : v.ownBlock ≠ some g) : NotRows w base v (ks ++ [k]) (ns ++ [.mk 4 0 ⟨none, 0, 0⟩ ⟨some ⟨g, 0, none⟩, 1, 1⟩ [k]])
theorem NotRows.turn {w w' : World} {base : Nat} {v v' : Value} {ks ns : List NodeM} (h : NotRows w base v ks ns) (hk : ∀ g xs, base ≤ g → v.ownBlock ≠ some g → Row w g 31 xs → Row w' g 31 xs ∧ v'.ownBlock ≠ some g) : NotRows w' base v' ks ns := by
  induction h with
  | nil => exact .nil
  | snoc g _ hr hb hv ih => exact .snoc g ih (hk g _ hb hv hr).1 hb (hk g _ hb hv hr).2
theorem NotRows.nots {w : World} {base : Nat} {v : Value} {ks ns : List NodeM} (h : NotRows w base v ks ns) : NotsOf ks ns := by
  induction h with
  | nil => exact .nil
  | snoc g _ _ _ _ ih => exact ih.snoc _ _ _ _
theorem NotRows.reads {w : World} {base B : Nat} {v : Value} {ks ns : List NodeM} (h : NotRows w base v ks ns) (hB : B ≤ w.heap.size) (hk : ∀ k ∈ ks, ReadsNd w B k) : ∀ k ∈ ns, ReadsNd w w.heap.size k := by
  induction h with
  | nil => intro k hk; simp at hk
  | @snoc ks ns k g h hr hb hv ih =>
    intro x hx
    rcases List.mem_append.1 hx with hx | hx
    · exact ih (fun y hy => hk y (by simp [hy])) x hx
    · rw [List.mem_singleton.1 hx]
      refine .mk [] (nil_k 3 _ _) ?_ (by simp [maxLen]) (fun y hy => ?_)
      · have hl := ndC_len k
        exact ⟨by simp [hl], Nat.le_refl _, fun _ => ⟨_, rfl, hr.lt, fun j u hu => by
          have h2 := (hr.reads (n := 4) hl).at_ (by omega)
          obtain ⟨ad, e, _, h3⟩ := h2
          injection e with e
          subst e
          exact h3 j u (by simpa using hu)⟩⟩
      · rw [List.mem_singleton.1 hy]
        exact (hk k (by simp)).more hB
theorem info_node : (Try.prog.info? 31).map (fun i => (i.zero, i.size, i.bytes)) = some (some (.agg #[.int .i64 0, .int .u8 0, .slice none 0 0, .slice none 0 0]), 4, 64) := by kernel_rfl
theorem evalL_len (all : List Int) (nd : NodeM) (lv : List (List Fd)) : (evalL all nd lv).length ≤ all.length := List.length_filter_le _ _
theorem ndC_one (k : NodeM) : ∀ u ∈ ndC k, u.oneCell' = true := by
  obtain ⟨kind, field, th, kh, kids⟩ := k
  intro u hu
  simp only [ndC, List.mem_cons, List.mem_nil_iff, or_false] at hu
  rcases hu with rfl | rfl | rfl | rfl <;> rfl

set_option maxRecDepth 100000 in
set_option maxHeartbeats 20000000 in
theorem walkMatchEither {w : World} (kids : List NodeM) (Ak : Option Addr) (nk ck : Nat) (hk : ReadsK 4 w w.heap.size Ak nk ck (kids.flatMap ndC)) (hck : ck ≤ maxLen) (hkr : ∀ k ∈ kids, ReadsNd w w.heap.size k ∧ TermsOk k) (hreach : nk * 64 ≤ reachBytes) (all : List Int) (Aa : Option Addr) (na ca : Nat) (ha : Reads w w.heap.size Aa na ca (ints .i64 all)) (_ : ∀ x ∈ all, (Lit.int .i64 x).wf = true) (lvs : List Lf) (A : Option Addr) (n c : Nat) (hl : ReadsF w w.heap.size A n c lvs) (hc : c ≤ maxLen) (hlc : ∀ x ∈ lvs, x.1.c ≤ maxLen) :
    Calls Try.prog 5 #[.slice Ak nk ck, .slice Aa na ca, .slice A n c] w fun e w' => e = .returned (.bool true) ∧ Below w.heap.size w w' := by
  have HF := fixed_any
  obtain ⟨i0, hi0, hz0, hz1, hz2⟩ := info_parts info_node
  have Hlc := Lib.hid hlc
  have lx : all.length = na := by simpa using ha.len
  have Lx := Lib.hid lx
  have hkl := Lib.hid (hk.count ndC_len (by omega))
  have hkcap := hk.cap
  have HK := Lib.hid hkr
  have HG := greatN_any (.mk 0 0 ⟨none, 0, 0⟩ ⟨Ak, nk, ck⟩ kids) w w.heap.size (.mk [] (nil_k 3 _ _) hk hck (fun k h => (hkr k h).1)) (.mk (by simp [maxLen]) (fun k h => (hkr k h).2)) (Nat.le_refl _)
  simp only [ndC] at HG
  have hn41 : nk ≤ 2199023255488 := by simp only [reachBytes] at hreach; omega
  go_enter Try.func5, Try.ntmps5
  go_wp2_with fail
  refine HG.mono ?_
  clear HG
  rintro e w1 ⟨hge, hB1⟩
  rcases hge with rfl | rfl
  · go_wp2_with fail
    refine (HF _).mono ?_
    rintro e w2 ⟨rfl, hb2⟩
    go_wp2
    go_ret
    exact ⟨rfl, then_ hB1 hb2⟩
  have HR := risen_any all lvs Aa na ca A n c w1 ((ha.below hB1).more hB1.size) ((hl.below hB1).more hB1.size) hlc
  go_wp2_with fail
  refine HR.mono ?_
  clear HR
  rintro e w2 ⟨hge, hb2⟩
  have hB2 := then_ hB1 hb2
  clear hb2 hB1
  rcases hge with rfl | ⟨rfl, hr, hal⟩
  · go_wp2_with fail
    refine (HF _).mono ?_
    rintro e w3 ⟨rfl, hb3⟩
    go_wp2
    go_ret
    exact ⟨rfl, then_ hB2 hb3⟩
  have Hr := Lib.hid hr
  have Hal := Lib.hid hal
  clear hr hal hlc hkr hreach
  go_wp2_with fail
  go_loopw [7, 28] (fun v i wr => ∃ (j : Nat) (ns : List NodeM), j ≤ nk ∧ i = .int .i64 (j : Int) ∧ wr.ownsRow w.heap.size 31 4 v j (ns.flatMap ndC) ∧ NotRows wr w.heap.size v (kids.take j) ns ∧ Below w.heap.size w wr) (fun _ i _ => nk - (intOf i).toNat)
  case atStart => exact ⟨0, [], by omega, rfl, ⟨by simp, .inl ⟨rfl, rfl⟩⟩, .nil, hB2⟩
  case round =>
    clear hB2
    obtain ⟨j, ns, hj, rfl, hown, hNR, hB⟩ := hrel
    by_cases hlt : j < nk
    · have hlt' : (j : Int) < (nk : Int) := by omega
      have hj0 : (0 : Int) ≤ (j : Int) := by omega
      obtain ⟨ak, hlk, rfl, hbk, k0, kc⟩ := (hk.keep (w' := wr) (fun p hp => hB.cell hp)).at' ndC_len (by omega) hlt
      have HT := Lib.hid (List.take_succ_eq_append_getElem hlk)
      generalize kids[j] = kd at *
      obtain ⟨kk, kf, ⟨t1, t2, t3⟩, ⟨h1, h2, h3⟩, kks⟩ := kd
      have k0 := k0 _ rfl
      have k1 := kc 1 _ (by omega) rfl
      have k2 := kc 2 _ (by omega) rfl
      have k3 := kc 3 _ (by omega) rfl
      clear kc
      have hown2 := (hown.alloc (.cells #[.int .i64 kk, .int .u8 kf, .slice t1 t2 t3, .slice h1 h2 h3] 31)).alloc (.cells #[.int .i64 kk, .int .u8 kf, .slice t1 t2 t3, .slice h1 h2 h3] 31)
      have hBa := (hB.alloc hB.size (.cells #[.int .i64 kk, .int .u8 kf, .slice t1 t2 t3, .slice h1 h2 h3] 31))
      have hBb := (hBa.alloc hBa.size (.cells #[.int .i64 kk, .int .u8 kf, .slice t1 t2 t3, .slice h1 h2 h3] 31))
      have hrow := Row.new (wr.alloc (.cells #[.int .i64 kk, .int .u8 kf, .slice t1 t2 t3, .slice h1 h2 h3] 31)) 31 [.int .i64 kk, .int .u8 kf, .slice t1 t2 t3, .slice h1 h2 h3]
      have hs2 : ((wr.alloc (.cells #[.int .i64 kk, .int .u8 kf, .slice t1 t2 t3, .slice h1 h2 h3] 31)).alloc (.cells #[.int .i64 kk, .int .u8 kf, .slice t1 t2 t3, .slice h1 h2 h3] 31)).heap.size = wr.heap.size + 2 := by simp
      have hs1 : (wr.alloc (.cells #[.int .i64 kk, .int .u8 kf, .slice t1 t2 t3, .slice h1 h2 h3] 31)).heap.size = wr.heap.size + 1 := by simp
      rw [hs1] at hrow
      have hrN : Hid (∀ g xs, Row wr g 31 xs → Row ((wr.alloc (.cells #[.int .i64 kk, .int .u8 kf, .slice t1 t2 t3, .slice h1 h2 h3] 31)).alloc (.cells #[.int .i64 kk, .int .u8 kf, .slice t1 t2 t3, .slice h1 h2 h3] 31)) g 31 xs) := Lib.hid (fun g xs h => (h.alloc _).alloc _)
      have hBs := hB.size
      have Hs2 := Lib.hid hs2
      clear hBa hs1 hs2
      go_wp2_with (refine wpList_append_oneW rfl (.tmp 32) (.tmp 36) 29 rfl w.heap.size 31 i0 _ 4 64 Try.underlying29 hi0 hz0 hz1 hz2 rfl (by omega) _ j _ [.int .i64 4, .int .u8 0, .slice none 0 0, .slice (some ⟨wr.heap.size + 1, 0, none⟩) 1 1] rfl hown2 rfl (by rw [Hs2.out]; rfl) (by intro u hu; simp only [List.mem_cons, List.mem_nil_iff, or_false] at hu; rcases hu with rfl | rfl | rfl | rfl <;> rfl) (by simp only [maxLen]; omega) (by omega) hBb.size ?_; intro v' w' hown' hg hv')
      have hBw : Below w.heap.size w w' := below_grown hBb hown2 (Nat.le_refl _) hBb.size hg
      have hNR' : NotRows w' w.heap.size v' (kids.take (j + 1)) (ns ++ [.mk 4 0 ⟨none, 0, 0⟩ ⟨some ⟨wr.heap.size + 1, 0, none⟩, 1, 1⟩ [.mk kk kf ⟨t1, t2, t3⟩ ⟨h1, h2, h3⟩ kks]]) := by
        rw [HT.out]
        refine .snoc (wr.heap.size + 1) (hNR.turn fun g xs hg1 hg2 hrw => ⟨(hrN.out g xs hrw).grown hg (fun e => hg2 e.symm), fun e => ?_⟩) (hrow.grown hg (fun e => ?_)) (by omega) (fun e => ?_)
        · have := hrw.lt
          rcases hv' with h | h
          · exact hg2 (h ▸ e)
          · rw [h, Hs2.out] at e
            injection e with e
            omega
        · have := (hown.lt _ e.symm).2
          omega
        · rcases hv' with h | h
          · have := (hown.lt _ (h ▸ e)).2
            omega
          · rw [h, Hs2.out] at e
            injection e with e
            omega
      have Hown' : Hid (w'.ownsRow w.heap.size 31 4 v' (j + 1) ((ns ++ [NodeM.mk 4 0 ⟨none, 0, 0⟩ ⟨some ⟨wr.heap.size + 1, 0, none⟩, 1, 1⟩ [.mk kk kf ⟨t1, t2, t3⟩ ⟨h1, h2, h3⟩ kks]]).flatMap ndC)) := Lib.hid (by simpa [ndC] using hown')
      clear hown2 hBb hown' hrow k0 k1 k2 k3
      go_wp2
      go_roundw
      case rel => exact ⟨j + 1, _, by omega, by go_num, Hown'.out, hNR', hBw⟩
      case measure => simp [intOf]; omega
    · have hlt' : ¬ (j : Int) < (nk : Int) := by omega
      obtain rfl : j = nk := by omega
      rw [List.take_of_length_le (by have := hkl.out; omega)] at hNR
      have hNO := hNR.nots
      have hNL : ns.length = j := by rw [hNO.len]; exact hkl.out
      obtain ⟨A7, c7, rfl, hr7, hc7, _⟩ := ReadsK.of_own hown
      have hnr := hNR.reads hB.size (fun k hm => ((HK.out k hm).1.blw hB))
      have hr2 := Hr.out
      have hal := Hal.out
      have HO : Hid (∀ kd w', Below wr.heap.size wr w' → ReadsNd w' wr.heap.size (.mk kd 0 ⟨none, 0, 0⟩ ⟨A7, j, c7⟩ ns)) := Lib.hid (fun kd w' hb => .mk [] (nil_k 3 _ _) (hr7.below hb) hc7 (fun k hm => (hnr k hm).blw hb))
      have HA : Hid (∀ kd w', Below wr.heap.size wr w' → ReadsNd w' wr.heap.size (.mk kd 0 ⟨none, 0, 0⟩ ⟨Ak, j, ck⟩ kids)) := Lib.hid (fun kd w' hb => .mk [] (nil_k 3 _ _) (((hk.below hB).more hB.size).below hb) hck (fun k hm => (((HK.out k hm).1.blw hB).more hB.size).blw hb))
      have Ha : Hid (∀ w', Below wr.heap.size wr w' → Reads w' wr.heap.size Aa na ca (ints .i64 all)) := Lib.hid (fun w' hb => ((ha.below hB).more hB.size).below hb)
      have Hl : Hid (∀ w', Below wr.heap.size wr w' → ReadsF w' wr.heap.size A n c lvs) := Lib.hid (fun w' hb => ((hl.below hB).more hB.size).below hb)
      have HNO := Lib.hid hNO
      have rA := Row.new wr 31 [.int .i64 2, .int .u8 0, .slice none 0 0, .slice Ak j ck]
      have rO := Row.new (wr.alloc (.cells #[.int .i64 2, .int .u8 0, .slice none 0 0, .slice Ak j ck] 31)) 31 [.int .i64 3, .int .u8 0, .slice none 0 0, .slice Ak j ck]
      have hb1 : Below wr.heap.size wr (wr.alloc (.cells #[.int .i64 2, .int .u8 0, .slice none 0 0, .slice Ak j ck] 31)) := (Below.refl _ _).alloc (Nat.le_refl _) _
      have hb2 := al_ hb1 (.cells #[.int .i64 3, .int .u8 0, .slice none 0 0, .slice Ak j ck] 31)
      have hb3 := al_ hb2 (.cells #[.int .i64 2, .int .u8 0, .slice none 0 0, .slice Ak j ck] 31)
      have hs1 : (wr.alloc (.cells #[.int .i64 2, .int .u8 0, .slice none 0 0, .slice Ak j ck] 31)).heap.size = wr.heap.size + 1 := by simp
      have hs2 : ((wr.alloc (.cells #[.int .i64 2, .int .u8 0, .slice none 0 0, .slice Ak j ck] 31)).alloc (.cells #[.int .i64 3, .int .u8 0, .slice none 0 0, .slice Ak j ck] 31)).heap.size = wr.heap.size + 1 + 1 := by simp
      have hs3 : (((wr.alloc (.cells #[.int .i64 2, .int .u8 0, .slice none 0 0, .slice Ak j ck] 31)).alloc (.cells #[.int .i64 3, .int .u8 0, .slice none 0 0, .slice Ak j ck] 31)).alloc (.cells #[.int .i64 2, .int .u8 0, .slice none 0 0, .slice Ak j ck] 31)).heap.size = wr.heap.size + 1 + 1 + 1 := by simp
      have rk := blt ((wr.alloc (.cells #[.int .i64 2, .int .u8 0, .slice none 0 0, .slice Ak j ck] 31)).alloc (.cells #[.int .i64 3, .int .u8 0, .slice none 0 0, .slice Ak j ck] 31)) 31 [.int .i64 2, .int .u8 0, .slice none 0 0, .slice Ak j ck]
      rw [hs1] at rO
      rw [hs2] at rk
      have rO3 := (rO.alloc (.cells #[.int .i64 2, .int .u8 0, .slice none 0 0, .slice Ak j ck] 31))
      have HC := top_any all hr2 hal (.mk 4 0 ⟨none, 0, 0⟩ ⟨some ⟨wr.heap.size + 1 + 1, 0, none⟩, 1, 1⟩ [.mk 2 0 ⟨none, 0, 0⟩ ⟨Ak, j, ck⟩ kids]) (((wr.alloc (.cells #[.int .i64 2, .int .u8 0, .slice none 0 0, .slice Ak j ck] 31)).alloc (.cells #[.int .i64 3, .int .u8 0, .slice none 0 0, .slice Ak j ck] 31)).alloc (.cells #[.int .i64 2, .int .u8 0, .slice none 0 0, .slice Ak j ck] 31)) (wr.heap.size + 1 + 1 + 1) Aa na ca A n c lvs ((Ha.out _ hb3).more (by omega)) (.mk [] (nil_k 3 _ _) (rk.many (k := 4) (n := 1) rfl (by omega)) (by simp [maxLen]) (fun k hm => by rw [List.mem_singleton.1 hm]; exact (HA.out 2 _ hb3).more (by omega))) ((Hl.out _ hb3).more (by omega)) Hlc.out (by omega) hc
      obtain ⟨X, hX⟩ : ∃ X, evalL all (.mk 3 0 ⟨none, 0, 0⟩ ⟨A7, j, c7⟩ ns) (lfV lvs) = X := ⟨_, rfl⟩
      obtain ⟨Y, hY⟩ : ∃ Y, evalL all (.mk 2 0 ⟨none, 0, 0⟩ ⟨A7, j, c7⟩ ns) (lfV lvs) = Y := ⟨_, rfl⟩
      have hXl : X.length ≤ 100 := by have := evalL_len all (.mk 3 0 ⟨none, 0, 0⟩ ⟨A7, j, c7⟩ ns) (lfV lvs); rw [hX] at this; omega
      have hYl : Y.length ≤ 100 := by have := evalL_len all (.mk 2 0 ⟨none, 0, 0⟩ ⟨A7, j, c7⟩ ns) (lfV lvs); rw [hY] at this; omega
      rw [show evalL all (.mk 4 0 ⟨none, 0, 0⟩ ⟨some ⟨wr.heap.size + 1 + 1, 0, none⟩, 1, 1⟩ [.mk 2 0 ⟨none, 0, 0⟩ ⟨Ak, j, ck⟩ kids]) (lfV lvs) = X from by rw [← hX, evalL, evalL, evalQ_either_a all hNO]] at HC
      have HX := Lib.hid hX
      have HY := Lib.hid hY
      have hBw3 : Below w.heap.size w (((wr.alloc (.cells #[.int .i64 2, .int .u8 0, .slice none 0 0, .slice Ak j ck] 31)).alloc (.cells #[.int .i64 3, .int .u8 0, .slice none 0 0, .slice Ak j ck] 31)).alloc (.cells #[.int .i64 2, .int .u8 0, .slice none 0 0, .slice Ak j ck] 31)) := hB.trans (hb3.mono hB.size)
      clear rA rO rk hr7 hnr hown hNR hNO hX hY hs1 hs2 hb1 hb2 hk ha hl hBw3
      go_wp2_with fail
      refine HC.mono ?_
      clear HC
      rintro e w4 ⟨v4, rfl, hown4, hb4⟩
      have hbr4 := then_ hb3 hb4
      have rO4 := rO3.call hb4
      obtain ⟨A4, c4, rfl, hr4, _, _⟩ := ownsRow_slice hown4
      clear hown4 rO3 hb4 hb3 hs3
      have HC := top_any all hr2 hal (.mk 3 0 ⟨none, 0, 0⟩ ⟨A7, j, c7⟩ ns) w4 wr.heap.size Aa na ca A n c lvs (Ha.out _ hbr4) (HO.out 3 _ hbr4) (Hl.out _ hbr4) Hlc.out hbr4.size hc
      rw [HX.out] at HC
      go_wp2_with fail
      refine HC.mono ?_
      clear HC
      rintro e w5 ⟨v5, rfl, hown5, hb5⟩
      have hbr5 := then_ hbr4 hb5
      have rO5 := rO4.call hb5
      obtain ⟨A5, c5, rfl, hr5, _, _⟩ := ownsRow_slice hown5
      have hr45 := hr4.below hb5
      have hs5 : w4.heap.size ≤ w5.heap.size := hb5.size
      clear hown5 rO4 hb5 hr4
      have s0 : w5.cell? ⟨wr.heap.size + 1, 0, none⟩ = some (.int .i64 3) := rO5.cell 0
      have s1 : w5.cell? ⟨wr.heap.size + 1, 1, none⟩ = some (.int .u8 0) := rO5.cell 1
      have s2 : w5.cell? ⟨wr.heap.size + 1, 2, none⟩ = some (.slice none 0 0) := rO5.cell 2
      have s3 : w5.cell? ⟨wr.heap.size + 1, 3, none⟩ = some (.slice Ak j ck) := rO5.cell 3
      have rk := blt w5 31 [.int .i64 3, .int .u8 0, .slice none 0 0, .slice Ak j ck]
      have hb6 := al_ hbr5 (.cells #[.int .i64 3, .int .u8 0, .slice none 0 0, .slice Ak j ck] 31)
      have hs6 : (w5.alloc (.cells #[.int .i64 3, .int .u8 0, .slice none 0 0, .slice Ak j ck] 31)).heap.size = w5.heap.size + 1 := by simp
      have hr46 := (hr45.more hs5).alloc (Nat.le_refl _) (.cells #[.int .i64 3, .int .u8 0, .slice none 0 0, .slice Ak j ck] 31)
      have hr56 := hr5.alloc (Nat.le_refl _) (.cells #[.int .i64 3, .int .u8 0, .slice none 0 0, .slice Ak j ck] 31)
      have HC := top_any all hr2 hal (.mk 4 0 ⟨none, 0, 0⟩ ⟨some ⟨w5.heap.size, 0, none⟩, 1, 1⟩ [.mk 3 0 ⟨none, 0, 0⟩ ⟨Ak, j, ck⟩ kids]) (w5.alloc (.cells #[.int .i64 3, .int .u8 0, .slice none 0 0, .slice Ak j ck] 31)) (w5.heap.size + 1) Aa na ca A n c lvs ((Ha.out _ hb6).more (by have := hbr5.size; omega)) (.mk [] (nil_k 3 _ _) (rk.many (k := 4) (n := 1) rfl (by omega)) (by simp [maxLen]) (fun k hm => by rw [List.mem_singleton.1 hm]; exact (HA.out 3 _ hb6).more (by have := hbr5.size; omega))) ((Hl.out _ hb6).more (by have := hbr5.size; omega)) Hlc.out (by omega) hc
      rw [show evalL all (.mk 4 0 ⟨none, 0, 0⟩ ⟨some ⟨w5.heap.size, 0, none⟩, 1, 1⟩ [.mk 3 0 ⟨none, 0, 0⟩ ⟨Ak, j, ck⟩ kids]) (lfV lvs) = Y from by rw [← HY.out, evalL, evalL, evalQ_either_b all HNO.out]] at HC
      clear hr45 hr5 rk
      go_wp2_with fail
      refine HC.mono ?_
      clear HC
      rintro e w7 ⟨v7, rfl, hown7, hb7⟩
      have hbr7 := then_ hb6 hb7
      obtain ⟨A9, c9, rfl, hr7, _, _⟩ := ownsRow_slice hown7
      have hr47 := (hr46.more (by omega)).below hb7
      have hr57 := (hr56.more (by omega)).below hb7
      have hs7 : w5.heap.size ≤ w7.heap.size := by have := hb7.size; omega
      have hs67 : (w5.alloc (.cells #[.int .i64 3, .int .u8 0, .slice none 0 0, .slice Ak j ck] 31)).heap.size ≤ w7.heap.size := hb7.size
      clear hown7 hr46 hr56 hb7 hb6 s0 s1 s2 s3 rO5
      have HC := top_any all hr2 hal (.mk 2 0 ⟨none, 0, 0⟩ ⟨A7, j, c7⟩ ns) w7 wr.heap.size Aa na ca A n c lvs (Ha.out _ hbr7) (HO.out 2 _ hbr7) (Hl.out _ hbr7) Hlc.out hbr7.size hc
      rw [HY.out] at HC
      go_wp2_with fail
      refine HC.mono ?_
      clear HC
      rintro e w8 ⟨v8, rfl, hown8, hb8⟩
      have hbr8 := then_ hbr7 hb8
      obtain ⟨A8, c8, rfl, hr8, _, _⟩ := ownsRow_slice hown8
      have hr48 := ((hr47.more hs67).below hb8).more hb8.size
      have hr58 := ((hr57.more hs67).below hb8).more hb8.size
      have hr78 := (hr7.below hb8).more hb8.size
      have hBw8 : Below w.heap.size w w8 := hB.trans (hbr8.mono hB.size)
      clear hown8 hr47 hr57 hr7 hb8 hs7 hs6 hs5 hs67 Ha Hl HO HA hB
      generalize X.length = lX at *
      generalize Y.length = lY at *
      go_wp2_with fail
      refine (HF _).mono ?_
      rintro e w9 ⟨rfl, hb9⟩
      have hB9 := then_ hBw8 hb9
      have HS := sameI_yes X X A4 A5 lX c4 lX c5 w9 ((hr48.below hb9).more hb9.size) ((hr58.below hb9).more hb9.size) (by omega) rfl
      have hr79 := (hr78.below hb9).more hb9.size
      have hr89 := (hr8.below hb9).more hb9.size
      clear hr48 hr58 hr78 hr8
      go_wp2_with fail
      refine HS.mono ?_
      clear HS
      rintro e w10 ⟨rfl, hb10⟩
      have hB10 := then_ hB9 hb10
      have HS := sameI_yes Y Y A9 A8 lY c9 lY c8 w10 ((hr79.below hb10).more hb10.size) ((hr89.below hb10).more hb10.size) (by omega) rfl
      go_wp2_with fail
      refine HS.mono ?_
      clear HS
      rintro e w11 ⟨rfl, hb11⟩
      go_wp2
      go_ret
      exact ⟨rfl, then_ hB10 hb11⟩
end Go.Proofs.Ytgjdjggakkmbgaa
