/- Words for the walks of image.Read and ref14's Read. -/
import Derived.Test.YtbbjlijdodnjaaaImgReadMath
import Derived.Test.YtbbjlijdodnjaaaImgKit
import Derived.Test.YtbbjlijdodnjaaaBlkDecR
namespace Go.Proofs.Ytbbjlijdodnjaaa
open Go.RowKit

theorem cell_form {w : World} {p : Addr} {v u : Value} (h : w.cell? p = some v) (j : Nat) (h2 : w.cell? (p.add j) = some u) : w.cell? ⟨p.block, p.off + j, none⟩ = some u := by
  have hs := World.cell?_spot h
  obtain ⟨pb, po, ps⟩ := p
  simp only at hs
  subst hs
  rw [← h2]
  unfold Addr.add
  split
  · subst_vars; rfl
  · rfl
/-- Four cells, one behind the other. -/
theorem Reads.four {w : World} {B n c : Nat} {A : Option Addr} {l : List Int} (h : Reads w B A n c (ints .u32 l)) (i : Nat) (hi : i + 4 ≤ n) :
    ∃ ad, A = some ad ∧ ad.block < B ∧ w.cell? (ad.add i) = some (.int .u32 (cD l i)) ∧ w.cell? ⟨(ad.add i).block, (ad.add i).off + 1, none⟩ = some (.int .u32 (cD l (i + 1))) ∧ w.cell? ⟨(ad.add i).block, (ad.add i).off + 2, none⟩ = some (.int .u32 (cD l (i + 2))) ∧ w.cell? ⟨(ad.add i).block, (ad.add i).off + 3, none⟩ = some (.int .u32 (cD l (i + 3))) := by
  have key : ∀ j, j < n → ∃ (ad : Addr), A = some ad ∧ ad.block < B ∧ w.cell? (ad.add j) = some (.int .u32 (cD l j)) := by
    intro j hj
    obtain ⟨ad, hl, e, hb, hc⟩ := h.int hj
    exact ⟨ad, e, hb, by rw [hc, cD, List.getD, List.getElem?_eq_getElem hl]; rfl⟩
  obtain ⟨ad, e, hb, c0⟩ := key i (by omega)
  obtain ⟨ad1, e1, _, c1⟩ := key (i + 1) (by omega)
  obtain ⟨ad2, e2, _, c2⟩ := key (i + 2) (by omega)
  obtain ⟨ad3, e3, _, c3⟩ := key (i + 3) (by omega)
  rw [e] at e1 e2 e3
  injection e1 with e1; injection e2 with e2; injection e3 with e3
  subst e1 e2 e3
  refine ⟨ad, e, hb, c0, cell_form c0 1 ?_, cell_form c0 2 ?_, cell_form c0 3 ?_⟩
  · rw [Go.Proofs.Ytbbjlijdodnjaaa.add_add]; exact c1
  · rw [Go.Proofs.Ytbbjlijdodnjaaa.add_add]; exact c2
  · rw [Go.Proofs.Ytbbjlijdodnjaaa.add_add]; exact c3
theorem Reads.cD_ {w : World} {B n c : Nat} {A : Option Addr} {l : List Int} (h : Reads w B A n c (ints .u32 l)) (i : Nat) (hi : i < n) :
    ∃ ad, A = some ad ∧ ad.block < B ∧ w.cell? (ad.add i) = some (.int .u32 (cD l i)) := by
  obtain ⟨ad, hl, e, hb, hc⟩ := h.int hi
  exact ⟨ad, e, hb, by rw [hc, cD, List.getD, List.getElem?_eq_getElem hl]; rfl⟩
theorem cD_range {l : List Int} (hw : ∀ x ∈ l, 0 ≤ x ∧ x < 4294967296) (i : Nat) : 0 ≤ cD l i ∧ cD l i < 4294967296 := by
  by_cases hi : i < l.length
  · rw [cD, List.getD, List.getElem?_eq_getElem hi]
    exact hw _ (List.getElem_mem hi)
  · rw [cD, List.getD, List.getElem?_eq_none (by omega)]
    simp
theorem info_row : (Try.prog.info? 54).map (fun i => (i.zero, i.size, i.bytes)) = some (some (.agg #[.int .u32 0, .int .u32 0, .int .u32 0, .int .u32 0]), 4, 16) := by kernel_rfl
theorem info_list : (Try.prog.info? 47).map (fun i => (i.zero, i.size, i.bytes)) = some (some (.agg #[.string ByteArray.empty, .int .i64 0, .slice none 0 0]), 3, 48) := by kernel_rfl
/-- Lists of the call's own: the row, and every list of entries apart from it. -/
structure OwnL (w : World) (B : Nat) (v : Value) (l : List Lt) : Prop where
  row : w.ownsRow B 47 3 v l.length (l.flatMap ltC)
  ent : ∀ x ∈ l, OwnE w B (.slice x.h.A x.h.n x.h.c) x.es
  hn : ∀ x ∈ l, x.h.n = x.es.length
  ap : ∀ x ∈ l, AP v (.slice x.h.A x.h.n x.h.c)
  ape : ∀ x ∈ l, ∀ y ∈ x.es, AP v (.slice y.1.A y.1.n y.1.c)
  cap : ∀ x ∈ l, x.h.c ≤ maxLen
  ks : ∀ x ∈ l, x.key.size ≤ maxLen
theorem OwnL.nil_ (w : World) (B : Nat) : OwnL w B (.slice none 0 0) [] := ⟨World.ownsRow_nil _ _ _ _, by simp, by simp, by simp, by simp, by simp, by simp⟩
theorem OwnL.below {w w' : World} {B : Nat} {v : Value} {l : List Lt} (h : OwnL w B v l) (hb : Below w.heap.size w w') : OwnL w' B v l :=
  ⟨ownsRow_below h.row hb, fun x hx => (h.ent x hx).below hb, h.hn, h.ap, h.ape, h.cap, h.ks⟩
theorem OwnE.drew_ {w : World} {B : Nat} {v : Value} {l : List Ent} (h : OwnE w B v l) : OwnE w.drew B v l := ⟨h.row, h.pos, h.ap⟩
theorem OwnL.drew_ {w : World} {B : Nat} {v : Value} {l : List Lt} (h : OwnL w B v l) : OwnL w.drew B v l :=
  ⟨h.row, fun x hx => (h.ent x hx).drew_, h.hn, h.ap, h.ape, h.cap, h.ks⟩
theorem OwnL.reads {w : World} {B : Nat} {A : Option Addr} {n c : Nat} {l : List Lt} (h : OwnL w B (.slice A n c) l) (hn : n = l.length) : ReadsL w w.heap.size A n c l := by
  subst hn
  exact ⟨own_reads h.row, fun x hx => (h.ent x hx).reads (h.hn x hx), h.cap, h.ks⟩
theorem OwnE.kept {w w' : World} {B : Nat} {v : Value} {l : List Ent} {row : Option Nat} (h : OwnE w B v l) (hg : w.grownBy w' row) (h1 : v.ownBlock = none ∨ v.ownBlock ≠ row) (h2 : ∀ x ∈ l, (Value.slice x.1.A x.1.n x.1.c).ownBlock = none ∨ (Value.slice x.1.A x.1.n x.1.c).ownBlock ≠ row) : OwnE w' B v l :=
  ⟨h.row.kept hg h1, fun x hx => (h.pos x hx).kept hg (h2 x hx), h.ap⟩
/-- One list more: the append's facts. -/
theorem OwnL.snoc {w w' : World} {B : Nat} {v v' : Value} {l : List Lt} (h : OwnL w B v l) (x : Lt) (hx : OwnE w B (.slice x.h.A x.h.n x.h.c) x.es) (hxn : x.h.n = x.es.length) (hxc : x.h.c ≤ maxLen) (hxk : x.key.size ≤ maxLen)
    (hap : AP (.slice x.h.A x.h.n x.h.c) v) (hape : ∀ y ∈ x.es, AP (.slice y.1.A y.1.n y.1.c) v)
    (hown : w'.ownsRow B 47 3 v' (l.length + 1) (l.flatMap ltC ++ ltC x)) (hg : w.grownBy w' v.ownBlock) (m : Nat) (hm : w.heap.size ≤ m) (hv : v'.ownBlock = v.ownBlock ∨ v'.ownBlock = some m) : OwnL w' B v' (l ++ [x]) := by
  refine ⟨by simpa using hown, fun z hz => ?_, fun z hz => ?_, fun z hz => ?_, fun z hz y hy => ?_, fun z hz => ?_, fun z hz => ?_⟩
  · rcases List.mem_append.1 hz with hz | hz
    · exact (h.ent z hz).kept hg (h.ap z hz).symm.ne (fun y hy => (h.ape z hz y hy).symm.ne)
    · rw [List.mem_singleton.1 hz]
      exact hx.kept hg hap.ne (fun y hy => (hape y hy).ne)
  · rcases List.mem_append.1 hz with hz | hz
    · exact h.hn z hz
    · rw [List.mem_singleton.1 hz]; exact hxn
  · rcases List.mem_append.1 hz with hz | hz
    · exact ((h.ap z hz).symm.step (h.ent z hz).row hm hv).symm
    · rw [List.mem_singleton.1 hz]
      exact (hap.step hx.row hm hv).symm
  · rcases List.mem_append.1 hz with hz | hz
    · exact ((h.ape z hz y hy).symm.step ((h.ent z hz).pos y hy) hm hv).symm
    · rw [List.mem_singleton.1 hz] at hy
      exact ((hape y hy).step (hx.pos y hy) hm hv).symm
  · rcases List.mem_append.1 hz with hz | hz
    · exact h.cap z hz
    · rw [List.mem_singleton.1 hz]; exact hxc
  · rcases List.mem_append.1 hz with hz | hz
    · exact h.ks z hz
    · rw [List.mem_singleton.1 hz]; exact hxk
theorem OwnL.base {w : World} {B B' : Nat} {v : Value} {l : List Lt} (h : OwnL w B v l) (hB : B' ≤ B) : OwnL w B' v l :=
  ⟨ownsRow_base h.row hB, fun x hx => (h.ent x hx).base hB, h.hn, h.ap, h.ape, h.cap, h.ks⟩
theorem OwnL.drewN {w : World} {B : Nat} {v : Value} {l : List Lt} (h : OwnL w B v l) (q : Nat) : OwnL (w.drewN q) B v l :=
  ⟨h.row, fun x hx => (h.ent x hx).drewN q, h.hn, h.ap, h.ape, h.cap, h.ks⟩
theorem imgA_lenOk {at_ : Int} {rows : List Rv} {ls : List LV} {L : List Int} (h : imgA at_ rows ls = (L, 0)) : L.length ≤ 8000000 := by
  obtain ⟨hm, _, _, hL⟩ := imgA_ok h
  have h1 := imgL_len at_ rows ls
  have h2 := bodyI_len_le (may_lens hm)
  have h3 := mayI_parts hm
  rw [hL] at h1
  have h4 := h3.1
  have h5 : 20000 * ls.length ≤ 20000 * 256 := Nat.mul_le_mul_left _ h3.2.1
  have h6 := h3.2.1
  omega
/-- The key of a list, away. -/
def clr (x : Lt) : Lt := { x with key := ByteArray.empty }
def clrK (m : Nat) (l : List Lt) : List Lt := (l.take m).map clr ++ l.drop m
theorem clrK_zero (l : List Lt) : clrK 0 l = l := by simp [clrK]
theorem clrK_len (m : Nat) (l : List Lt) : (clrK m l).length = l.length := by simp only [clrK, List.length_append, List.length_map, List.length_take, List.length_drop]; omega
theorem clrK_all (l : List Lt) : clrK l.length l = l.map clr := by simp [clrK]
theorem clr_split (l : List Lt) (m : Nat) (hm : m < l.length) : clrK m l = (l.take m).map clr ++ l[m] :: l.drop (m + 1) ∧ clrK (m + 1) l = (l.take m).map clr ++ clr l[m] :: l.drop (m + 1) := by
  constructor
  · rw [clrK, List.drop_eq_getElem_cons hm]
  · rw [clrK, List.take_succ_eq_append_getElem hm, List.map_append, List.append_assoc]
    rfl
theorem clr_row (l : List Lt) (m : Nat) (hm : m < l.length) : (clrK (m + 1) l).flatMap ltC = ((clrK m l).flatMap ltC).set (m * 3) (.string ByteArray.empty) := by
  obtain ⟨e1, e2⟩ := clr_split l m hm
  have hl : (((l.take m).map clr).flatMap ltC).length = m * 3 := by rw [rec_len ltC_len]; simp; omega
  rw [e1, e2, List.flatMap_append, List.flatMap_append, List.set_append_right _ _ (by omega), hl, Nat.sub_self]
  rfl
theorem clr_mem (l : List Lt) (m : Nat) (hm : m < l.length) : ∀ x ∈ clrK (m + 1) l, ∃ y ∈ clrK m l, x.h = y.h ∧ x.es = y.es ∧ (x.key = y.key ∨ x.key = ByteArray.empty) := by
  obtain ⟨e1, e2⟩ := clr_split l m hm
  intro x hx
  rw [e2] at hx
  rw [e1]
  rcases List.mem_append.1 hx with h | h
  · exact ⟨x, List.mem_append.2 (.inl h), rfl, rfl, .inl rfl⟩
  · rcases List.mem_cons.1 h with rfl | h
    · exact ⟨l[m], List.mem_append.2 (.inr List.mem_cons_self), rfl, rfl, .inr rfl⟩
    · exact ⟨x, List.mem_append.2 (.inr (List.mem_cons_of_mem _ h)), rfl, rfl, .inl rfl⟩
theorem OwnL.clear {w : World} {B n c : Nat} {A : Option Addr} {l : List Lt} (m : Nat) (h : OwnL w B (.slice A n c) (clrK m l)) (hm : m < l.length) :
    ∃ (g : Nat) (old : List Value), A = some ⟨g, 0, none⟩ ∧ B ≤ g ∧ Row w g 47 old ∧ m * 3 < old.length ∧
      ∀ (w' w0 : World) (B0 : Nat), Row w' g 47 (old.set (m * 3) (.string ByteArray.empty)) → Below B0 w0 w → Below B0 w0 w' → w'.heap.size = w.heap.size → (∀ k, k ≠ g → w'.heap[k]? = w.heap[k]?) → OwnL w' B (.slice A n c) (clrK (m + 1) l) := by
  have hlen := clrK_len m l
  rcases h.row.2 with ⟨_, h0⟩ | ⟨g, cap, cur, e, hbg, hg, hnc, hcm, hcs, htake⟩
  · omega
  · injection e with e1 e2 e3
    subst e1 e2 e3
    have hcl : cur.toList.length = c * 3 := by simpa using hcs
    refine ⟨g, cur.toList, rfl, hbg, by rw [Row, hg], by omega, fun w' w0 B0 hr hb hb' hs hk => ?_⟩
    have hgr : w.grownBy w' (some g) := grown_of hb hb' hs hk
    refine ⟨⟨?_, .inr ⟨g, c, (cur.toList.set (m * 3) (.string ByteArray.empty)).toArray, by rw [clrK_len, clrK_len], hbg, hr, by rw [clrK_len]; omega, hcm, by simp [hcs], ?_⟩⟩, fun x hx => ?_, fun x hx => ?_, fun x hx => ?_, fun x hx => ?_, fun x hx => ?_, fun x hx => ?_⟩
    · rw [rec_len ltC_len]
    · rw [clr_row l m hm, ← htake, clrK_len, hlen, List.toList_toArray, List.take_set]
    all_goals obtain ⟨y, hy, q1, q2, q3⟩ := clr_mem l m hm x hx
    · rw [q1, q2]
      exact (h.ent y hy).kept hgr (by have := (h.ap y hy).symm.ne; exact this) (fun z hz => by have := (h.ape y hy z (by exact hz)).symm.ne; exact this)
    · rw [q1, q2]; exact h.hn y hy
    · rw [q1]; exact h.ap y hy
    · rw [q2]; exact h.ape y hy
    · rw [q1]; exact h.cap y hy
    · rcases q3 with q3 | q3
      · rw [q3]; exact h.ks y hy
      · rw [q3]; simp [maxLen]
theorem ltV_clr (l : List Lt) : ltV (l.map clr) = (ltV l).map (fun x => (ByteArray.empty, x.2)) := by simp [ltV, clr]
def noKey (_ : Nat) : ByteArray := ByteArray.empty
theorem lvsR_clr (at_ : Int) (cells : List Int) (T : Nat) : (lvsR at_ cells keyS T).map (fun x => ((ByteArray.empty : ByteArray), x.2)) = lvsR at_ cells noKey T := by simp [lvsR, lvR, noKey]
theorem imgA_err (at_ : Int) (rows : List Rv) (ls : List LV) : imgA at_ rows ls = ([], 1) ∨ ∃ L, imgA at_ rows ls = (L, 0) := by
  rw [imgA]
  split
  · exact .inr ⟨_, rfl⟩
  · exact .inl rfl
theorem ltV_snoc (l : List Lt) (x : Lt) : ltV (l ++ [x]) = ltV l ++ [(x.key, x.rc, vals x.es)] := by simp [ltV]
theorem decB_err (c : List Int) : (decB c).2 = 0 ∨ decB c = ([], 11) := by
  rw [decB]
  split
  · exact .inl rfl
  · exact .inr rfl
end Go.Proofs.Ytbbjlijdodnjaaa
