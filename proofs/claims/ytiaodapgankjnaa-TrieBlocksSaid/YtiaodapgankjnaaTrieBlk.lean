/- What the document's Blocks comes to: the index and the blocks of the trie. -/
import Derived.Test.YtiaodapgankjnaaQx12
import Derived.Test.YtiaodapgankjnaaQx13
import Derived.Test.YtiaodapgankjnaaQx4
import Derived.Test.YtiaodapgankjnaaTrieLaw3
namespace Go.Proofs.Ytiaodapgankjnaa.TrieLaw
open Go Go.RowKit Go.Proofs.Ytiaodapgankjnaa.Q Go.Proofs.Ytiaodapgankjnaa.TrieRng Go.Proofs.YtiaodapgankjnaaW.PrintWords Go.Proofs.YtiaodapgankjnaaW.PrintLast Go.Proofs.YtiaodapgankjnaaW.PrintMore
set_option linter.unusedVariables false
set_option linter.unusedSectionVars false

theorem srt_up : ∀ {a : Int} {l : List S35}, Srt a l → ∀ i : Nat, (h : i + 1 < l.length) → l[i].f1 < l[i + 1].f0
  | _, [], _, _, h => by simp at h
  | _, [r], _, i, h => by simp at h
  | _, r :: s :: t, hs, 0, h => by
    have h1 := hs.2.2.2.2.2
    have h2 := h1.1
    show r.f1 < s.f0
    omega
  | _, r :: s :: t, hs, i + 1, h => by
    have := srt_up hs.2.2.2.2.2 i (by simpa using h)
    simpa using this
theorem okl_of {a d : Int} {l : List S35} (h0 : 0 ≤ d) (h1 : d ≤ 65535) (ha : 0 ≤ a) (hs : Srt a l) : Okl l d := by
  refine ⟨h0, h1, fun i hi => ?_, fun i hi => ?_⟩
  · rw [rd_T35_get _ _ hi]
    have := srt_mem hs (List.getElem_mem hi)
    omega
  · rw [rd_T35_get _ _ (by omega), rd_T35_get _ _ hi]
    exact srt_up hs i hi
theorem srt_drop : ∀ {a : Int} {l : List S35} (n : Nat), Srt a l → Srt a (l.drop n)
  | _, _, 0, h => h
  | _, [], _ + 1, _ => trivial
  | _, r :: t, n + 1, h => srt_drop n (h.2.2.2.2.2.le (by have := h.1; have := h.2.1; omega))
theorem srt_take : ∀ {a : Int} {l : List S35} (n : Nat), Srt a l → Srt a (l.take n)
  | _, _, 0, _ => trivial
  | _, [], _ + 1, _ => trivial
  | _, r :: t, n + 1, h => ⟨h.1, h.2.1, h.2.2.1, h.2.2.2.1, h.2.2.2.2.1, srt_take n h.2.2.2.2.2⟩
theorem gv_at {d c : Int} : ∀ {a : Int} {l : List S35}, Srt a l → ∀ i : Nat, (h : i < l.length) → l[i].f0 ≤ c → c ≤ l[i].f1 → gv l d c = l[i].f2
  | _, [], _, _, h, _, _ => by simp at h
  | _, r :: t, hs, 0, h, h1, h2 => by rw [gv_cons, if_pos ⟨h1, h2⟩]; rfl
  | _, r :: t, hs, i + 1, h, h1, h2 => by
    have hi : i < t.length := by simpa using h
    have hm := srt_mem hs.2.2.2.2.2 (List.getElem_mem hi)
    have h1 : t[i].f0 ≤ c := h1
    rw [gv_cons, if_neg (by omega)]
    exact gv_at hs.2.2.2.2.2 i _ h1 h2
/-! ### one piece -/
theorem rb_l2 (m : List S35) (p : Nat) (hp : p < 17408) (x6 : List Int) (i : Nat) (hi : i < m.length) (hml : m.length ≤ 100000000) (r : List Int) (hf : m[i].f1 ≤ 1114111) (hv : 0 ≤ m[i].f2 ∧ m[i].f2 ≤ 65535) : ∀ (t : Nat) (x7 : List Int) (lo : Int), x7.length = 64 → 64 * (p : Int) ≤ lo → lo ≤ 1114112 + 64 → (64 * (p : Int) + 64 - lo).toNat ≤ t →
    Ev (fun k => endonymref4_Block.l1 k m (p : Int) x6 (bup (64 * (p : Int)) x7 lo m[i].f1 m[i].f2) ((i + 1 : Nat) : Int)) r → Ev (fun k => endonymref4_Block.l2 k m (p : Int) x6 x7 (i : Int) lo) r := by
  have wp : wrap64 (64 * (p : Int)) = 64 * (p : Int) := w64 _ (by omega) (by omega)
  have wi : wrap64 ((i : Int) + 1) = ((i + 1 : Nat) : Int) := by rw [w64 _ (by omega) (by omega)]; rfl
  have hg := rd_T35_get m i hi
  intro t
  have stop : ∀ (x7 : List Int) (lo : Int), x7.length = 64 → ¬ (lo ≤ m[i].f1 ∧ lo ≤ 64 * (p : Int) + 63) → Ev (fun k => endonymref4_Block.l1 k m (p : Int) x6 (bup (64 * (p : Int)) x7 lo m[i].f1 m[i].f2) ((i + 1 : Nat) : Int)) r → Ev (fun k => endonymref4_Block.l2 k m (p : Int) x6 x7 (i : Int) lo) r := by
    intro x7 lo hx hc hE
    rw [bup_end _ x7 hx lo _ _ (by omega)] at hE
    refine Ev.step (fun k => ?_) hE
    rw [endonymref4_Block.l2, if_pos (by omega), if_pos (by omega), hg, wp, w64 (64 * (p : Int) + 63) (by omega) (by omega), if_neg, wi]
    unfold mn
    split <;> omega
  induction t with
  | zero =>
    intro x7 lo hx h0 h3 ht hE
    exact stop x7 lo hx (by omega) hE
  | succ t ih =>
    intro x7 lo hx h0 h3 ht hE
    by_cases hc : lo ≤ m[i].f1 ∧ lo ≤ 64 * (p : Int) + 63
    · refine Ev.step (fun k => ?_) (ih (x7.set (lo - 64 * (p : Int)).toNat m[i].f2) (lo + 1) (by simp [hx]) (by omega) (by omega) (by omega) (by rw [bup_step _ x7 hx lo _ _ h0 hc.1 hc.2]; exact hE))
      rw [endonymref4_Block.l2, if_pos (by omega), if_pos (by omega), hg, wp, w64 (64 * (p : Int) + 63) (by omega) (by omega), if_pos, w64 (lo - 64 * (p : Int)) (by omega) (by omega), if_pos (by omega), if_pos (by omega), w64 (lo + 1) (by omega) (by omega), show IntKind.u16.wrap m[i].f2 = m[i].f2 from ?_]
      · have : IntKind.u16.wrap m[i].f2 = m[i].f2 % 65536 := by simp [IntKind.wrap, IntKind.bits, IntKind.signed]
        omega
      · unfold mn
        split <;> omega
    · exact stop x7 lo hx hc hE
theorem rb_l1 {m : List S35} {a d : Int} (ha : 0 ≤ a) (hs : Srt a m) (hml : m.length ≤ 100000000) (p : Nat) (hp : p < 17408) (x6 : List Int) : ∀ (t i : Nat), i + t = m.length →
    Ev (fun k => endonymref4_Block.l1 k m (p : Int) x6 (vals (gv (m.take i) d) (64 * (p : Int))) (i : Int)) (vals (gv m d) (64 * (p : Int))) := by
  have wp : wrap64 (64 * (p : Int)) = 64 * (p : Int) := w64 _ (by omega) (by omega)
  intro t
  induction t with
  | zero =>
    intro i hi
    refine Ev.step (fun k => ?_) (Ev.now _)
    rw [endonymref4_Block.l1, if_neg (by omega), List.take_of_length_le (by omega)]
    rw [put_self _ _ (vals_len _ _)]
  | succ t ih =>
    intro i hi
    have hil : i < m.length := by omega
    have hL := srt_mem hs (List.getElem_mem hil)
    have hmx : 64 * (p : Int) ≤ mx m[i].f0 (64 * (p : Int)) ∧ mx m[i].f0 (64 * (p : Int)) ≤ 1114112 + 64 ∧ m[i].f0 ≤ mx m[i].f0 (64 * (p : Int)) ∧ (mx m[i].f0 (64 * (p : Int)) = 64 * (p : Int) ∨ mx m[i].f0 (64 * (p : Int)) = m[i].f0) := by
      unfold mx
      split <;> omega
    refine Ev.step (fun k => ?_) (rb_l2 m p hp x6 i hil hml _ (by omega) (by omega) 64 (vals (gv (m.take i) d) (64 * (p : Int))) (mx m[i].f0 (64 * (p : Int))) (vals_len _ _) hmx.1 hmx.2.1 (by omega) ?_)
    · rw [endonymref4_Block.l1, if_pos (by omega), if_pos (by omega), rd_T35_get m i hil, wp]
    · have ht : m.take (i + 1) = m.take i ++ [m[i]] := List.take_succ_eq_append_getElem hil
      have hlt : ∀ q ∈ m.take i, q.f1 < m[i].f0 := by
        have h2 := srt_take (i + 1) hs
        rw [ht] at h2
        exact (srt_snoc.1 h2).2.1
      have hb : bup (64 * (p : Int)) (vals (gv (m.take i) d) (64 * (p : Int))) (mx m[i].f0 (64 * (p : Int))) m[i].f1 m[i].f2 = vals (gv (m.take (i + 1)) d) (64 * (p : Int)) := by
        unfold bup
        rw [show vals (gv (m.take (i + 1)) d) (64 * (p : Int)) = (List.range 64).map fun (j : Nat) => gv (m.take (i + 1)) d (64 * (p : Int) + (j : Int)) from rfl]
        apply List.map_congr_left
        intro j hj
        have hj := List.mem_range.1 hj
        rw [ht, gv_snoc _ _ _ _ hlt]
        by_cases hc : m[i].f0 ≤ 64 * (p : Int) + (j : Int) ∧ 64 * (p : Int) + (j : Int) ≤ m[i].f1
        · rw [if_pos hc, if_pos (by omega)]
        · rw [if_neg hc, if_neg (by omega)]
          simp only [vals]
          rw [List.getD_eq_getElem?_getD, List.getElem?_eq_getElem (by simp; omega), List.getElem_map, List.getElem_range]
          rfl
      rw [hb]
      exact ih (i + 1) (by omega)
theorem rb_l0 (m : List S35) (d : Int) (hd : 0 ≤ d ∧ d ≤ 65535) (p : Int) (x6 : List Int) (r : List Int) (hE : Ev (fun k => endonymref4_Block.l1 k m p x6 (List.replicate 64 d) 0) r) : ∀ (t i : Nat), i + t = 64 → Ev (fun k => endonymref4_Block.l0 k m d p x6 (List.replicate i d ++ List.replicate t 0) (i : Int)) r := by
  intro t
  induction t with
  | zero =>
    intro i hi
    refine Ev.step (fun k => ?_) hE
    rw [endonymref4_Block.l0, if_neg (by omega), show i = 64 by omega, List.replicate_zero, List.append_nil]
  | succ t ih =>
    intro i hi
    refine Ev.step (fun k => ?_) (ih (i + 1) (by omega))
    have hu : IntKind.u16.wrap d = d := by
      have : IntKind.u16.wrap d = d % 65536 := by simp [IntKind.wrap, IntKind.bits, IntKind.signed]
      omega
    rw [endonymref4_Block.l0, if_pos (by omega), if_pos (by omega), w64 _ (by omega) (by omega), hu]
    have hs : (List.replicate i d ++ List.replicate (t + 1) 0).set (i : Int).toNat d = List.replicate (i + 1) d ++ List.replicate t 0 := by
      rw [Int.toNat_natCast, List.set_append_right _ _ (by simp), List.length_replicate, Nat.sub_self, List.replicate_succ, List.set_cons_zero, List.replicate_succ', List.append_assoc]
      rfl
    rw [hs]
    push_cast
    rfl
theorem rblock_is {m : List S35} {a d : Int} (ha : 0 ≤ a) (hs : Srt a m) (h0 : 0 ≤ d) (h1 : d ≤ 65535) (hml : m.length ≤ 100000000) (p : Nat) (hp : p < 17408) : Ev (fun k => endonymref4_Block.f k m d (p : Int)) (pcs (gv m d) p) := by
  have hE := rb_l1 (d := d) ha hs hml p hp (List.replicate 64 0) m.length 0 (by omega)
  have hv0 : vals (gv (m.take 0) d) (64 * (p : Int)) = List.replicate 64 d := by
    unfold vals
    rw [List.take_zero]
    show (List.range 64).map (fun _ => d) = _
    rw [List.map_const']
    simp
  rw [hv0] at hE
  have := rb_l0 m d ⟨h0, h1⟩ (p : Int) (List.replicate 64 0) _ hE 64 0 rfl
  have e : pcs (gv m d) p = vals (gv m d) (64 * (p : Int)) := by
    unfold pcs vals
    apply List.map_congr_left
    intro j hj
    push_cast
    rfl
  rw [e]
  exact this
theorem idxOf_le {y : List Int} : ∀ {l : List (List Int)} (i : Nat) (h : i < l.length), l[i] = y → l.idxOf y ≤ i
  | [], i, h, _ => by simp at h
  | a :: t, 0, _, he => by
    have he : a = y := he
    subst he
    simp
  | a :: t, i + 1, h, he => by
    rw [List.idxOf_cons]
    have he : t[i]'(by simpa using h) = y := he
    have := idxOf_le i _ he
    cases a == y
    · simp only [cond_false]; omega
    · simp only [cond_true]; omega
/-! ### all pieces -/
def ix (f : Int → Int) (n : Nat) : List Int := (List.range n).map fun p => (((bls f 17408).idxOf (pcs f p) : Nat) : Int)
theorem ix_succ (f : Int → Int) (n : Nat) : ix f (n + 1) = ix f n ++ [(((bls f 17408).idxOf (pcs f n) : Nat) : Int)] := by simp [ix, List.range_succ]
theorem ix_len (f : Int → Int) (n : Nat) : (ix f n).length = n := by simp [ix]
section
variable {l : List S35} {d : Int} (hs : Srt 0 l) (h0 : 0 ≤ d) (h1 : d ≤ 65535) (hl : l.length ≤ 100000000)
include hs h0 h1 hl
theorem piece_is {p at_ hi : Nat} (hp : p < 17408) (ha : ∀ i : Nat, (h : i < l.length) → i < at_ → l[i].f1 < 64 * (p : Int)) (hh : ∀ i : Nat, (h : i < l.length) → hi ≤ i → 64 * (p : Int) + 63 < l[i].f0) :
    pcs (gv ((l.take hi).drop at_) d) p = pcs (gv l d) p := by
  refine pcs_eq (fun j hj => ?_)
  have e1 : gv l d ((64 * p + j : Nat) : Int) = gv (l.take hi) d ((64 * p + j : Nat) : Int) := by
    have hg : gv (l.take hi ++ l.drop hi) d ((64 * p + j : Nat) : Int) = gv (l.take hi) d ((64 * p + j : Nat) : Int) := gv_out _ _ (fun q hq => by
      obtain ⟨x, h3, h4, rfl⟩ := rd_drop hq
      have := hh x h4 h3
      rw [rd_T35_get _ _ h4]
      omega)
    rwa [List.take_append_drop] at hg
  rw [e1]
  refine (gv_drop at_ (fun i hi1 hi2 => ?_)).symm
  rw [List.length_take] at hi2
  have := ha i (by omega) hi1
  rw [rd_T35_get _ _ (by rw [List.length_take]; omega), List.getElem_take]
  omega
theorem blocks_l3 (p : Nat) (hp : p < 17408) (x8 x12 : Int) {r : List Int × List (List Int)}
    (hE : Ev (fun k => endonymref4_Blocks.l0 k l d (ix (gv l d) (p + 1)) (bls (gv l d) (p + 1)) x8 (pcs (gv l d) p) x12 ((p + 1 : Nat) : Int)) r) : ∀ (n i : Nat), i + n = (bls (gv l d) p).length → (pcs (gv l d) p ∈ bls (gv l d) p → i ≤ (bls (gv l d) p).idxOf (pcs (gv l d) p)) →
    Ev (fun k => endonymref4_Blocks.l3 k l d (ix (gv l d) p) (bls (gv l d) p) x8 (pcs (gv l d) p) x12 (p : Int) (i : Int)) r := by
  have hbl := bls_len (gv l d) p
  have hix := ix_len (gv l d) p
  have hw : wrap64 ((p : Int) + 1) = ((p + 1 : Nat) : Int) := by rw [w64 _ (by omega) (by omega)]; rfl
  have hu : ∀ i : Nat, i ≤ 17408 → IntKind.u16.wrap (i : Int) = i := fun i hi => by
    have : IntKind.u16.wrap (i : Int) = (i : Int) % 65536 := by simp [IntKind.wrap, IntKind.bits, IntKind.signed]
    omega
  intro n
  induction n with
  | zero =>
    intro i hi hm
    have hnew : pcs (gv l d) p ∉ bls (gv l d) p := fun h => by
      have := hm h
      have := List.idxOf_lt_length_iff.2 h
      omega
    have e1 : bls (gv l d) (p + 1) = bls (gv l d) p ++ [pcs (gv l d) p] := by rw [bls, if_neg hnew]
    have e2 : ix (gv l d) (p + 1) = ix (gv l d) p ++ [(i : Int)] := by
      rw [ix_succ, bls_idx (gv l d) (show p + 1 ≤ 17408 by omega) (bls_mem (gv l d) (Nat.lt_succ_self p)), e1, idx_new hnew]
      congr 3
      omega
    rw [e1, e2] at hE
    refine Ev.step (fun k => ?_) hE
    rw [endonymref4_Blocks.l3, if_neg (by omega), if_pos (by omega), if_pos (by omega), if_pos (by omega), hu i (by omega), hw]
  | succ n ih =>
    intro i hi hm
    have hlt : i < (bls (gv l d) p).length := by omega
    by_cases he : (bls (gv l d) p)[i] = pcs (gv l d) p
    · have hold : pcs (gv l d) p ∈ bls (gv l d) p := he ▸ List.getElem_mem hlt
      have hid : (bls (gv l d) p).idxOf (pcs (gv l d) p) = i := by
        have h3 := hm hold
        have h4 : (bls (gv l d) p).idxOf (pcs (gv l d) p) ≤ i := by
          exact idxOf_le i hlt he
        omega
      have e1 : bls (gv l d) (p + 1) = bls (gv l d) p := by rw [bls, if_pos hold]
      have e2 : ix (gv l d) (p + 1) = ix (gv l d) p ++ [(i : Int)] := by
        rw [ix_succ, bls_idx (gv l d) (show p ≤ 17408 by omega) hold, hid]
      rw [e1, e2] at hE
      refine Ev.step (fun k => ?_) hE
      rw [endonymref4_Blocks.l3, if_pos (by omega), if_pos (by omega), rdL4_get _ _ hlt, if_pos ((arrEq_iff _ _ (hbl.2 _ (List.getElem_mem hlt)) (pcs_len _ _)).2 he), if_neg (by omega), if_pos (by omega), hu i (by omega), hw]
    · refine Ev.step (fun k => ?_) (ih (i + 1) (by omega) (fun h => ?_))
      · rw [endonymref4_Blocks.l3, if_pos (by omega), if_pos (by omega), rdL4_get _ _ hlt, if_neg (fun h => he ((arrEq_iff _ _ (hbl.2 _ (List.getElem_mem hlt)) (pcs_len _ _)).1 h)), w64 _ (by omega) (by omega)]
        rfl
      · have h3 := hm h
        have h4 : (bls (gv l d) p).idxOf (pcs (gv l d) p) ≠ i := fun e => he (by
          have h5 := List.idxOf_lt_length_iff.2 h
          have h6 := List.getElem_idxOf h5
          simp only [e] at h6
          exact h6)
        omega
theorem srt_far (hs' : Srt 0 l) {i j : Nat} (hij : i ≤ j) (hj : j < l.length) {b : Int} (h : b < (l[i]'(by omega)).f0) : b < l[j].f0 := by
  induction j with
  | zero =>
    have : i = 0 := by omega
    subst this
    exact h
  | succ j ih =>
    by_cases he : i = j + 1
    · subst he; exact h
    · have h3 := ih (by omega) (by omega)
      have h4 := srt_up hs' j hj
      have h5 := srt_mem hs' (List.getElem_mem (show j < l.length by omega))
      omega
def Pl (l : List S35) (d : Int) (p : Nat) (v : Int) : Prop := v = -1 ∨ (0 ≤ v ∧ pcs (gv l d) p = List.replicate 64 v)
theorem blocks_j7 (p : Nat) (hp : p < 17408) (at_ hi : Nat) (ha : at_ ≤ hi) (hh : hi ≤ l.length) (x9 : List Int) (x12 : Int) {r : List Int × List (List Int)} (hat : ∀ i : Nat, (h : i < l.length) → i < at_ → l[i].f1 < 64 * (p : Int)) (hhi : ∀ i : Nat, (h : i < l.length) → hi ≤ i → 64 * (p : Int) + 63 < l[i].f0)
    (hE : Ev (fun k => endonymref4_Blocks.l0 k l d (ix (gv l d) (p + 1)) (bls (gv l d) (p + 1)) (at_ : Int) (pcs (gv l d) p) x12 ((p + 1 : Nat) : Int)) r) :
    Ev (fun k => endonymref4_Blocks.j7 k l d (ix (gv l d) p) (bls (gv l d) p) (at_ : Int) x9 (p : Int) x12 (hi : Int)) r := by
  have hb := rblock_is (d := d) (a := 0) (by omega) (srt_drop at_ (srt_take hi hs)) h0 h1 (by simp; omega) p hp
  rw [piece_is hs h0 h1 hl hp hat hhi] at hb
  refine Ev.step (fun k => by rw [endonymref4_Blocks.j7, if_pos (by omega), if_pos (by omega), if_pos (by omega), Int.toNat_natCast, Int.toNat_natCast]) ?_
  refine Ev.bind hb (Ev.congr (fun k => by rw [put_self _ _ (pcs_len _ _)]) ?_)
  exact blocks_l3 hs h0 h1 hl p hp (at_ : Int) x12 hE _ 0 (Nat.zero_add _) (fun _ => Nat.zero_le _)
theorem blocks_l2 (p : Nat) (hp : p < 17408) (at_ : Nat) (x9 : List Int) (x12 : Int) {r : List Int × List (List Int)} (hat : ∀ i : Nat, (h : i < l.length) → i < at_ → l[i].f1 < 64 * (p : Int))
    (hE : Ev (fun k => endonymref4_Blocks.l0 k l d (ix (gv l d) (p + 1)) (bls (gv l d) (p + 1)) (at_ : Int) (pcs (gv l d) p) x12 ((p + 1 : Nat) : Int)) r) : ∀ (n hi : Nat), hi + n = l.length → at_ ≤ hi →
    Ev (fun k => endonymref4_Blocks.l2 k l d (ix (gv l d) p) (bls (gv l d) p) (at_ : Int) x9 (p : Int) x12 (hi : Int)) r := by
  have wp : wrap64 (64 * (p : Int)) = 64 * (p : Int) := w64 _ (by omega) (by omega)
  have wq : wrap64 (64 * (p : Int) + 63) = 64 * (p : Int) + 63 := w64 _ (by omega) (by omega)
  intro n
  induction n with
  | zero =>
    intro hi hh ha
    refine Ev.step (fun k => by rw [endonymref4_Blocks.l2, if_neg (by omega)]) (blocks_j7 hs h0 h1 hl p hp at_ hi ha (by omega) x9 x12 hat (fun i h h2 => by omega) hE)
  | succ n ih =>
    intro hi hh ha
    have hlt : hi < l.length := by omega
    by_cases hc : l[hi].f0 ≤ 64 * (p : Int) + 63
    · refine Ev.step (fun k => ?_) (ih (hi + 1) (by omega) (by omega))
      rw [endonymref4_Blocks.l2, if_pos (by omega), if_pos (by omega), rd_T35_get _ _ hlt, wp, wq, if_pos hc, w64 _ (by omega) (by omega)]
      rfl
    · refine Ev.step (fun k => ?_) (blocks_j7 hs h0 h1 hl p hp at_ hi ha (by omega) x9 x12 hat (fun i h h2 => srt_far hs h0 h1 hl hs h2 h (by omega)) hE)
      rw [endonymref4_Blocks.l2, if_pos (by omega), if_pos (by omega), rd_T35_get _ _ hlt, wp, wq, if_neg hc]
theorem blocks_j4 (p : Nat) (hp : p < 17408) (at_ : Nat) (hal : at_ ≤ l.length) (x9 : List Int) (plain v : Int) {r : List Int × List (List Int)} (hat : ∀ i : Nat, (h : i < l.length) → i < at_ → l[i].f1 < 64 * (p : Int)) (hv : Pl l d p v) (hpl : plain = -1 ∨ (0 < p ∧ Pl l d (p - 1) plain))
    (hE : ∀ (y9 : List Int) (y : Int), Pl l d p y → Ev (fun k => endonymref4_Blocks.l0 k l d (ix (gv l d) (p + 1)) (bls (gv l d) (p + 1)) (at_ : Int) y9 y ((p + 1 : Nat) : Int)) r) :
    Ev (fun k => endonymref4_Blocks.j4 k l d (ix (gv l d) p) (bls (gv l d) p) (at_ : Int) x9 plain (p : Int) v) r := by
  have hf : Ev (fun k => endonymref4_Blocks.j5 k l d (ix (gv l d) p) (bls (gv l d) p) (at_ : Int) x9 plain (p : Int) v false) r := by
    refine Ev.step (fun k => by rw [endonymref4_Blocks.j5, if_neg (by simp)]) ?_
    exact blocks_l2 hs h0 h1 hl p hp at_ x9 v hat (hE _ _ hv) (l.length - at_) at_ (by omega) (Nat.le_refl _)
  by_cases hn : v ≥ 0
  · by_cases he : v = plain
    · rcases hpl with hpl | ⟨hp0, hpl⟩
      · omega
      · rcases hv with hv | ⟨_, hv⟩
        · omega
        rcases hpl with hpl | ⟨_, hpl⟩
        · omega
        have hsame : pcs (gv l d) p = pcs (gv l d) (p - 1) := by rw [hv, hpl, he]
        have hold : pcs (gv l d) p ∈ bls (gv l d) p := by rw [hsame]; exact bls_mem _ (by omega)
        have e1 : bls (gv l d) (p + 1) = bls (gv l d) p := by rw [bls, if_pos hold]
        have e2 : ix (gv l d) (p + 1) = ix (gv l d) p ++ [rd (ix (gv l d) p) ((p - 1 : Nat) : Int)] := by
          rw [ix_succ]
          congr 2
          rw [rd_get _ _ (by rw [ix_len]; omega), hsame]
          simp [ix]
        have hE2 := hE x9 plain (.inr ⟨by omega, by rw [hv, he]⟩)
        rw [e1, e2] at hE2
        refine Ev.step (fun k => by rw [endonymref4_Blocks.j4, if_pos hn, he, beq_self_eq_true]) (Ev.step (fun k => ?_) hE2)
        have w1 : wrap64 ((p : Int) - 1) = ((p - 1 : Nat) : Int) := by rw [w64 _ (by omega) (by omega)]; omega
        have w2 : wrap64 ((p : Int) + 1) = ((p + 1 : Nat) : Int) := by rw [w64 _ (by omega) (by omega)]; rfl
        have hil := ix_len (gv l d) p
        rw [endonymref4_Blocks.j5, if_pos rfl, w1, if_pos (by omega), if_pos (by omega), if_pos (by omega), w2]
    · refine Ev.step (fun k => ?_) hf
      rw [endonymref4_Blocks.j4, if_pos hn, beq_eq_false_iff_ne.2 he]
  · refine Ev.step (fun k => ?_) hf
    rw [endonymref4_Blocks.j4, if_neg hn]
theorem blocks_j2 (p : Nat) (hp : p < 17408) (at_ : Nat) (hal : at_ ≤ l.length) (x9 : List Int) (plain : Int) {r : List Int × List (List Int)} (hat : ∀ i : Nat, (h : i < l.length) → i < at_ → l[i].f1 < 64 * (p : Int)) (hat2 : (h : at_ < l.length) → 64 * (p : Int) ≤ l[at_].f1) (hpl : plain = -1 ∨ (0 < p ∧ Pl l d (p - 1) plain))
    (hE : ∀ (y9 : List Int) (y : Int), Pl l d p y → Ev (fun k => endonymref4_Blocks.l0 k l d (ix (gv l d) (p + 1)) (bls (gv l d) (p + 1)) (at_ : Int) y9 y ((p + 1 : Nat) : Int)) r) :
    Ev (fun k => endonymref4_Blocks.j2 k l d (ix (gv l d) p) (bls (gv l d) p) (at_ : Int) x9 plain (p : Int)) r := by
  have wp : wrap64 (64 * (p : Int)) = 64 * (p : Int) := w64 _ (by omega) (by omega)
  have wq : wrap64 (64 * (p : Int) + 63) = 64 * (p : Int) + 63 := w64 _ (by omega) (by omega)
  have j4 := fun v hv => blocks_j4 hs h0 h1 hl p hp at_ hal x9 plain v hat hv hpl hE
  have okl := okl_of h0 h1 (by omega) hs
  have thr : (at_ = l.length ∨ (rd_T35 l at_).f0 > 64 * (p : Int) + 63) → Pl l d p d := fun ht => .inr ⟨h0, thr_is okl p at_ hp hal (fun i hi => by rw [rd_T35_get _ _ (by omega)]; exact hat i (by omega) hi) ht⟩
  have jt : (at_ = l.length ∨ (rd_T35 l at_).f0 > 64 * (p : Int) + 63) → Ev (fun k => endonymref4_Blocks.j3 k l d (ix (gv l d) p) (bls (gv l d) p) (at_ : Int) x9 plain (p : Int) (-1) true) r := fun ht =>
    Ev.step (fun k => by rw [endonymref4_Blocks.j3, if_pos rfl]) (j4 d (thr ht))
  by_cases ha : at_ = l.length
  · refine Ev.step (fun k => ?_) (jt (.inl ha))
    rw [endonymref4_Blocks.j2, if_pos (by omega)]
  · have hlt : at_ < l.length := by omega
    have hg := rd_T35_get _ _ hlt
    by_cases hf : l[at_].f0 > 64 * (p : Int) + 63
    · refine Ev.step (fun k => ?_) (jt (.inr (by rw [hg]; exact hf)))
      rw [endonymref4_Blocks.j2, if_neg (by omega), if_pos (by omega), if_pos (by omega), hg, wp, wq, decide_eq_true hf]
    · refine Ev.step (fun k => ?_) (f := fun k => endonymref4_Blocks.j3 k l d (ix (gv l d) p) (bls (gv l d) p) (at_ : Int) x9 plain (p : Int) (-1) false) ?_
      · rw [endonymref4_Blocks.j2, if_neg (by omega), if_pos (by omega), if_pos (by omega), hg, wp, wq, decide_eq_false hf]
      · by_cases g1 : l[at_].f0 ≤ 64 * (p : Int)
        · by_cases g2 : l[at_].f1 ≥ 64 * (p : Int) + 63
          · refine Ev.step (fun k => ?_) (j4 l[at_].f2 (.inr ⟨(srt_mem hs (List.getElem_mem hlt)).2.2.2.1, ?_⟩))
            · rw [endonymref4_Blocks.j3, if_neg (by simp), if_pos (by omega), if_pos (by omega), hg, wp, wq, if_pos g1, if_pos g2]
            · rw [pcs_eq (g := fun _ => l[at_].f2) (fun j hj => gv_at hs at_ hlt (by omega) (by omega))]
              unfold pcs
              rw [List.map_const']
              simp
          · refine Ev.step (fun k => ?_) (j4 (-1) (.inl rfl))
            rw [endonymref4_Blocks.j3, if_neg (by simp), if_pos (by omega), if_pos (by omega), hg, wp, wq, if_pos g1, if_neg g2]
        · refine Ev.step (fun k => ?_) (j4 (-1) (.inl rfl))
          rw [endonymref4_Blocks.j3, if_neg (by simp), if_pos (by omega), if_pos (by omega), hg, wp, wq, if_neg g1]
theorem blocks_l0 : ∀ (n p at_ : Nat) (x9 : List Int) (plain : Int), p + n = 17408 → at_ ≤ l.length → (∀ i : Nat, (h : i < l.length) → i < at_ → l[i].f1 < 64 * (p : Int)) → (plain = -1 ∨ (0 < p ∧ Pl l d (p - 1) plain)) →
    Ev (fun k => endonymref4_Blocks.l0 k l d (ix (gv l d) p) (bls (gv l d) p) (at_ : Int) x9 plain (p : Int)) (ix (gv l d) 17408, bls (gv l d) 17408) := by
  intro n
  induction n with
  | zero =>
    intro p at_ x9 plain hp ha hat hpl
    refine Ev.step (fun k => ?_) (Ev.now _)
    rw [endonymref4_Blocks.l0, if_neg (by omega), show p = 17408 by omega]
  | succ n ih =>
    intro p at_ x9 plain hp ha hat hpl
    have hp1 : p < 17408 := by omega
    have wp : wrap64 (64 * (p : Int)) = 64 * (p : Int) := w64 _ (by omega) (by omega)
    refine Ev.step (fun k => by rw [endonymref4_Blocks.l0, if_pos (by omega)]) ?_
    -- the ranges that end ahead of this piece
    have l1 : ∀ (m b : Nat), b + m = l.length → (∀ i : Nat, (h : i < l.length) → i < b → l[i].f1 < 64 * (p : Int)) → Ev (fun k => endonymref4_Blocks.l1 k l d (ix (gv l d) p) (bls (gv l d) p) (b : Int) x9 plain (p : Int)) (ix (gv l d) 17408, bls (gv l d) 17408) := by
      intro m
      have fin : ∀ b : Nat, b ≤ l.length → (∀ i : Nat, (h : i < l.length) → i < b → l[i].f1 < 64 * (p : Int)) → ((h : b < l.length) → 64 * (p : Int) ≤ l[b].f1) → Ev (fun k => endonymref4_Blocks.j2 k l d (ix (gv l d) p) (bls (gv l d) p) (b : Int) x9 plain (p : Int)) (ix (gv l d) 17408, bls (gv l d) 17408) := fun b hb hb1 hb2 =>
        blocks_j2 hs h0 h1 hl p hp1 b hb x9 plain hb1 hb2 hpl (fun y9 y hy => ih (p + 1) b y9 y (by omega) hb (fun i h h2 => by have := hb1 i h h2; push_cast; omega) (.inr ⟨by omega, hy⟩))
      induction m with
      | zero =>
        intro b hb hb1
        refine Ev.step (fun k => ?_) (fin b (by omega) hb1 (fun h => by omega))
        rw [endonymref4_Blocks.l1, if_neg (by omega)]
      | succ m ihm =>
        intro b hb hb1
        have hlt : b < l.length := by omega
        by_cases hc : l[b].f1 < 64 * (p : Int)
        · refine Ev.step (fun k => ?_) (ihm (b + 1) (by omega) (fun i h h2 => ?_))
          · rw [endonymref4_Blocks.l1, if_pos (by omega), if_pos (by omega), rd_T35_get _ _ hlt, wp, if_pos hc, w64 _ (by omega) (by omega)]
            rfl
          · by_cases he : i = b
            · subst he; exact hc
            · exact hb1 i h (by omega)
        · refine Ev.step (fun k => ?_) (fin b (by omega) hb1 (fun h => by omega))
          rw [endonymref4_Blocks.l1, if_pos (by omega), if_pos (by omega), rd_T35_get _ _ hlt, wp, if_neg hc]
    exact l1 (l.length - at_) at_ (by omega) hat
theorem rblocks_is : Ev (fun k => endonymref4_Blocks.f k l d) ((mkT (gv l d) d).f1, bls (gv l d) 17408) := by
  have := blocks_l0 hs h0 h1 hl 17408 0 0 (List.replicate 64 0) (-1) (by omega) (by omega) (fun i h h2 => by omega) (.inl rfl)
  rw [mk_f1]
  exact this
end
end Go.Proofs.Ytiaodapgankjnaa.TrieLaw
