/- Towards the law PackBack (what is packed and unpacked), part 6: the texts Pk Pl Yz Xq Xt Yt, what of them is used. -/
import Derived.Test.YtcpdnpaedkcebaaZPackBack5
namespace Go.Proofs.Ytcpdnpaedkcebaa.V
open Go Go.RowKit
set_option linter.unusedVariables false
set_option linter.unusedSimpArgs false
set_option maxRecDepth 100000
theorem readF_82 (b : List UInt8) (s : Int × Int) (r : Rec) : readF 82 b s r = rLo b s r := rfl
theorem readF_85 (b : List UInt8) (s : Int × Int) (r : Rec) : readF 85 b s r = rHi b s r := rfl
theorem readF_87 (b : List UInt8) (s : Int × Int) (r : Rec) : readF 87 b s r = rN b s r := rfl
theorem readF_89 (b : List UInt8) (s : Int × Int) (r : Rec) : readF 89 b s r = rOne b s r := rfl
theorem readF_91 (b : List UInt8) (s : Int × Int) (r : Rec) : readF 91 b s r = rList b s r := rfl
theorem readF_94 (b : List UInt8) (s : Int × Int) (r : Rec) : readF 94 b s r = rName b s r := rfl
theorem readF_97 (b : List UInt8) (s : Int × Int) (r : Rec) : readF 97 b s r = rOther b s r := rfl
theorem readF_100 (b : List UInt8) (s : Int × Int) (r : Rec) : readF 100 b s r = rWt b s r := rfl
theorem writeF_81 (r : Rec) : writeF 81 r = uintP r.lo := rfl
theorem writeF_84 (r : Rec) : writeF 84 r = uintP (IntKind.i64.wrap (r.hi - r.lo)) := rfl
theorem writeF_86 (r : Rec) : writeF 86 r = uintP r.n := rfl
theorem writeF_88 (r : Rec) : writeF 88 r = uintP (r.to.getD 0 0) := rfl
theorem writeF_90 (r : Rec) : writeF 90 r = toL r.to := rfl
theorem writeF_92 (r : Rec) : writeF 92 r = textL r.name := rfl
theorem writeF_96 (r : Rec) : writeF 96 r = textL r.other := rfl
theorem writeF_98 (r : Rec) : writeF 98 r = floatL r.weight := rfl
theorem kind_groups {k : Int} (h : famK k ≠ 0) : (k = 1 ∨ k = 2 ∨ k = 11) ∨ k = 3 ∨ k = 4 ∨ (k = 5 ∨ k = 7 ∨ k = 8 ∨ k = 13) ∨ (k = 6 ∨ k = 9 ∨ k = 10) ∨ k = 12 ∨ k = 14 ∨ k = 15 := by
  unfold famK at h
  (repeat' split at h) <;> omega
theorem pA {k : Int} (h : k = 1 ∨ k = 2 ∨ k = 11) : parts8 k = [(81, 82), (84, 85)] := by rcases h with h | h | h <;> subst h <;> rfl
theorem pD {k : Int} (h : k = 5 ∨ k = 7 ∨ k = 8 ∨ k = 13) : parts8 k = [(81, 82), (90, 91)] := by rcases h with h | h | h | h <;> subst h <;> rfl
theorem pE {k : Int} (h : k = 6 ∨ k = 9 ∨ k = 10) : parts8 k = [(81, 82), (84, 85), (86, 87)] := by rcases h with h | h | h <;> subst h <;> rfl
theorem pB {k : Int} (h : k = 3) : parts8 k = [(81, 82), (84, 85), (90, 91)] := by subst h; rfl
theorem pC {k : Int} (h : k = 4) : parts8 k = [(81, 82), (84, 85), (86, 87), (88, 89)] := by subst h; rfl
theorem pF {k : Int} (h : k = 12) : parts8 k = [(81, 82), (84, 85), (92, 94)] := by subst h; rfl
theorem pG {k : Int} (h : k = 14) : parts8 k = [(81, 82), (84, 85), (98, 100)] := by subst h; rfl
theorem pH {k : Int} (h : k = 15) : parts8 k = [(92, 94), (96, 97), (98, 100)] := by subst h; rfl
theorem rLo_write {b : List UInt8} {a e : Int} {r r0 : Rec} (hf : Fields r) (h : Rd b a e (uintP r.lo)) : rLo b (a, 0) r0 = ((e, 0), { r0 with lo := r.lo, hi := r.lo }) := by
  have := hf.low
  unfold rLo
  rw [numP_write h (by omega) (by omega) (by decide)]
theorem rHi_write {b : List UInt8} {a e : Int} {r r0 : Rec} (hf : Fields r) (h : Rd b a e (uintP (IntKind.i64.wrap (r.hi - r.lo)))) (hl : r0.lo = r.lo) : rHi b (a, 0) r0 = ((e, 0), { r0 with hi := r.hi }) := by
  have := hf.low
  have e1 : IntKind.i64.wrap (r.hi - r.lo) = r.hi - r.lo := by rw [wrap_i64]; omega
  rw [e1] at h
  unfold rHi
  rw [numP_write h (by omega) (by omega) (by decide), hl, show IntKind.i64.wrap (r.lo + (r.hi - r.lo)) = r.hi by rw [wrap_i64]; omega]
theorem rN_write {b : List UInt8} {a e : Int} {r r0 : Rec} (hf : Fields r) (h : Rd b a e (uintP r.n)) : rN b (a, 0) r0 = ((e, 0), { r0 with n := r.n }) := by
  have := hf.num
  unfold rN
  rw [numP_write h (by omega) (by omega) (by decide)]
theorem rOne_write {b : List UInt8} {a e : Int} {r r0 : Rec} (hf : Fields r) (hk : r.kind = 4) (h : Rd b a e (uintP (r.to.getD 0 0))) : rOne b (a, 0) r0 = ((e, 0), { r0 with to := r.to }) := by
  obtain ⟨c, hc⟩ := hf.to1 hk
  have h1 := hf.to.2 c (by rw [hc]; exact List.mem_singleton.2 rfl)
  rw [hc] at h ⊢
  have h : Rd b a e (uintP c) := h
  unfold rOne
  rw [numP_write h h1.1 h1.2 (by decide), i32_small h1.1 h1.2]
theorem rList_write {b : List UInt8} {a e : Int} {r r0 : Rec} (hf : Fields r) (h : Rd b a e (toL r.to)) (ht : r0.to = []) : rList b (a, 0) r0 = ((e, 0), { r0 with to := r.to }) := by
  unfold toL at h
  obtain ⟨h1, h2⟩ := h.split
  unfold rList
  rw [numP_write h1 (by omega) hf.to.1 (by decide)]
  simp only [Int.toNat_natCast]
  rw [listP_write r.to _ e r0.to h2 hf.to.2, ht]
  rfl
theorem rName_write {b : List UInt8} {a e : Int} {r r0 : Rec} (hf : Fields r) (h : Rd b a e (textL r.name)) : rName b (a, 0) r0 = ((e, 0), { r0 with name := r.name }) := by
  unfold rName
  rw [textP_write h hf.name]
theorem rOther_write {b : List UInt8} {a e : Int} {r r0 : Rec} (hf : Fields r) (h : Rd b a e (textL r.other)) : rOther b (a, 0) r0 = ((e, 0), { r0 with other := r.other }) := by
  unfold rOther
  rw [textP_write h hf.other]
theorem rWt_write {b : List UInt8} {a e : Int} {r r0 : Rec} (hw : r.wok) (h : Rd b a e (floatL r.weight)) : rWt b (a, 0) r0 = ((e, 0), { r0 with weight := r.weight }) := by
  unfold rWt
  rw [fltP_write h hw]
theorem rec_ext {r s : Rec} (h1 : r.kind = s.kind) (h2 : r.lo = s.lo) (h3 : r.hi = s.hi) (h4 : r.n = s.n) (h5 : r.to = s.to) (h6 : r.name = s.name) (h7 : r.other = s.other) (h8 : r.weight = s.weight) : r = s := by
  cases r; cases s; simp_all
theorem reads_write {r : Rec} (hk : famK r.kind ≠ 0) (hf : Fields r) (hw : r.wok) {b : List UInt8} {a e : Int} (h : Rd b a e ((parts8 r.kind).flatMap fun p => writeF p.1 r)) :
    readsF b (parts8 r.kind) (a, 0) (zeroR r.kind) = ((e, 0), r) := by
  rcases kind_groups hk with k | k | k | k | k | k | k | k
  · rw [pA k] at h ⊢
    simp only [List.flatMap_cons, List.flatMap_nil, List.append_nil, writeF_81, writeF_84] at h
    obtain ⟨h1, h2⟩ := h.split
    simp only [readsF, readF_82, readF_85, rLo_write hf h1, zeroR, rHi_write hf h2]
    exact Prod.ext rfl (rec_ext rfl rfl rfl (hf.num0 (by omega)).symm (hf.to0 (by omega)).symm (hf.name0 (by omega)).symm (hf.other0 (by omega)).symm (hf.wt0 (by omega)).symm)
  · rw [pB k] at h ⊢
    simp only [List.flatMap_cons, List.flatMap_nil, List.append_nil, writeF_81, writeF_84, writeF_90] at h
    obtain ⟨h1, h2⟩ := h.split
    obtain ⟨h2, h3⟩ := h2.split
    simp only [readsF, readF_82, readF_85, readF_91, rLo_write hf h1, zeroR, rHi_write hf h2, rList_write hf h3]
    exact Prod.ext rfl (rec_ext rfl rfl rfl (hf.num0 (by omega)).symm rfl (hf.name0 (by omega)).symm (hf.other0 (by omega)).symm (hf.wt0 (by omega)).symm)
  · rw [pC k] at h ⊢
    simp only [List.flatMap_cons, List.flatMap_nil, List.append_nil, writeF_81, writeF_84, writeF_86, writeF_88] at h
    obtain ⟨h1, h2⟩ := h.split
    obtain ⟨h2, h3⟩ := h2.split
    obtain ⟨h3, h4⟩ := h3.split
    simp only [readsF, readF_82, readF_85, readF_87, readF_89, rLo_write hf h1, zeroR, rHi_write hf h2, rN_write hf h3, rOne_write hf k h4]
    exact Prod.ext rfl (rec_ext rfl rfl rfl rfl rfl (hf.name0 (by omega)).symm (hf.other0 (by omega)).symm (hf.wt0 (by omega)).symm)
  · rw [pD k] at h ⊢
    simp only [List.flatMap_cons, List.flatMap_nil, List.append_nil, writeF_81, writeF_90] at h
    obtain ⟨h1, h2⟩ := h.split
    simp only [readsF, readF_82, readF_91, rLo_write hf h1, zeroR, rList_write hf h2]
    exact Prod.ext rfl (rec_ext rfl rfl (hf.one (by omega)).symm (hf.num0 (by omega)).symm rfl (hf.name0 (by omega)).symm (hf.other0 (by omega)).symm (hf.wt0 (by omega)).symm)
  · rw [pE k] at h ⊢
    simp only [List.flatMap_cons, List.flatMap_nil, List.append_nil, writeF_81, writeF_84, writeF_86] at h
    obtain ⟨h1, h2⟩ := h.split
    obtain ⟨h2, h3⟩ := h2.split
    simp only [readsF, readF_82, readF_85, readF_87, rLo_write hf h1, zeroR, rHi_write hf h2, rN_write hf h3]
    exact Prod.ext rfl (rec_ext rfl rfl rfl rfl (hf.to0 (by omega)).symm (hf.name0 (by omega)).symm (hf.other0 (by omega)).symm (hf.wt0 (by omega)).symm)
  · rw [pF k] at h ⊢
    simp only [List.flatMap_cons, List.flatMap_nil, List.append_nil, writeF_81, writeF_84, writeF_92] at h
    obtain ⟨h1, h2⟩ := h.split
    obtain ⟨h2, h3⟩ := h2.split
    simp only [readsF, readF_82, readF_85, readF_94, rLo_write hf h1, zeroR, rHi_write hf h2, rName_write hf h3]
    exact Prod.ext rfl (rec_ext rfl rfl rfl (hf.num0 (by omega)).symm (hf.to0 (by omega)).symm rfl (hf.other0 (by omega)).symm (hf.wt0 (by omega)).symm)
  · rw [pG k] at h ⊢
    simp only [List.flatMap_cons, List.flatMap_nil, List.append_nil, writeF_81, writeF_84, writeF_98] at h
    obtain ⟨h1, h2⟩ := h.split
    obtain ⟨h2, h3⟩ := h2.split
    simp only [readsF, readF_82, readF_85, readF_100, rLo_write hf h1, zeroR, rHi_write hf h2, rWt_write hw h3]
    exact Prod.ext rfl (rec_ext rfl rfl rfl (hf.num0 (by omega)).symm (hf.to0 (by omega)).symm (hf.name0 (by omega)).symm (hf.other0 (by omega)).symm rfl)
  · rw [pH k] at h ⊢
    simp only [List.flatMap_cons, List.flatMap_nil, List.append_nil, writeF_92, writeF_96, writeF_98] at h
    obtain ⟨h1, h2⟩ := h.split
    obtain ⟨h2, h3⟩ := h2.split
    simp only [readsF, readF_94, readF_97, readF_100, rName_write hf h1, zeroR, rOther_write hf h2, rWt_write hw h3]
    have l0 := hf.nul k
    have h0 := hf.one (by omega)
    exact Prod.ext rfl (rec_ext rfl l0.symm (by rw [h0, l0]) (hf.num0 (by omega)).symm (hf.to0 (by omega)).symm rfl rfl rfl)
theorem hi_back {lo v : Int} (h0 : 0 ≤ lo) (h1 : lo ≤ 1114111) (h2 : 0 ≤ v) (h3 : v ≤ 1114111) : IntKind.i64.wrap (IntKind.i64.wrap (lo + v) - lo) = v := by
  rw [wrap_i64, wrap_i64]; omega
theorem hi_rd {b : List UInt8} {a e lo v : Int} (h0 : 0 ≤ lo) (h1 : lo ≤ 1114111) (h2 : 0 ≤ v) (h3 : v ≤ 1114111) (h : Rd b a e (uintP v)) : Rd b a e (uintP (IntKind.i64.wrap (IntKind.i64.wrap (lo + v) - lo))) := by
  rw [hi_back h0 h1 h2 h3]; exact h
theorem one_rd {b : List UInt8} {a e v : Int} (h2 : 0 ≤ v) (h3 : v ≤ 1114111) (h : Rd b a e (uintP v)) : Rd b a e (uintP (IntKind.i32.wrap v)) := by
  rw [i32_small h2 h3]; exact h
theorem list_back {b : List UInt8} {s : Int × Int} {r : Rec} (hs : 0 ≤ s.1 ∧ s.1 ≤ b.length) (hto : r.to = []) (h : (rList b s r).1.2 = 0) : s.2 = 0 ∧ Rd b s.1 (rList b s r).1.1 (toL (rList b s r).2.to) := by
  unfold rList at h ⊢
  rw [hto] at h ⊢
  obtain ⟨h1, l, h2, h3, h4⟩ := listP_back _ _ [] (numP_at hs) h
  obtain ⟨g1, g2, g3, g4⟩ := numP_back h1
  refine ⟨g1, ?_⟩
  simp only
  rw [h3, List.nil_append]
  unfold toL
  rw [h2, show (((numP b 24 s).1.toNat : Nat) : Int) = (numP b 24 s).1 by omega]
  exact g2.app h4
theorem reads_back {b : List UInt8} {k a : Int} (ha : 0 ≤ a ∧ a ≤ b.length) (hn : parts8 k ≠ []) (h : (readsF b (parts8 k) (a, 0) (zeroR k)).1.2 = 0) :
    (readsF b (parts8 k) (a, 0) (zeroR k)).2.kind = k ∧ Rd b a (readsF b (parts8 k) (a, 0) (zeroR k)).1.1 ((parts8 k).flatMap fun p => writeF p.1 (readsF b (parts8 k) (a, 0) (zeroR k)).2) := by
  have hk : famK k ≠ 0 := by
    unfold parts8 at hn
    unfold famK
    (repeat' split at hn) <;> first | exact absurd rfl hn | ((repeat' split) <;> omega)
  rcases kind_groups hk with g | g | g | g | g | g | g | g
  · rw [pA g] at h ⊢
    simp only [readsF, readF_82, readF_85, List.flatMap_cons, List.flatMap_nil, List.append_nil, writeF_81, writeF_84] at h ⊢
    obtain ⟨h2, r2, a2, c2⟩ := numP_back h
    obtain ⟨h1, r1, a1, c1⟩ := numP_back h2
    exact ⟨rfl, r1.app (hi_rd a1 c1 a2 c2 r2)⟩
  · rw [pB g] at h ⊢
    simp only [readsF, readF_82, readF_85, readF_91, List.flatMap_cons, List.flatMap_nil, List.append_nil, writeF_81, writeF_84, writeF_90] at h ⊢
    obtain ⟨h3, r3⟩ := list_back (b := b) (numP_at (numP_at ha)) rfl h
    obtain ⟨h2, r2, a2, c2⟩ := numP_back h3
    obtain ⟨h1, r1, a1, c1⟩ := numP_back h2
    exact ⟨rfl, r1.app ((hi_rd a1 c1 a2 c2 r2).app r3)⟩
  · rw [pC g] at h ⊢
    simp only [readsF, readF_82, readF_85, readF_87, readF_89, List.flatMap_cons, List.flatMap_nil, List.append_nil, writeF_81, writeF_84, writeF_86, writeF_88] at h ⊢
    obtain ⟨h4, r4, a4, c4⟩ := numP_back h
    obtain ⟨h3, r3, a3, c3⟩ := numP_back h4
    obtain ⟨h2, r2, a2, c2⟩ := numP_back h3
    obtain ⟨h1, r1, a1, c1⟩ := numP_back h2
    exact ⟨rfl, r1.app ((hi_rd a1 c1 a2 c2 r2).app (r3.app (one_rd a4 c4 r4)))⟩
  · rw [pD g] at h ⊢
    simp only [readsF, readF_82, readF_91, List.flatMap_cons, List.flatMap_nil, List.append_nil, writeF_81, writeF_90] at h ⊢
    obtain ⟨h2, r2⟩ := list_back (b := b) (numP_at ha) rfl h
    obtain ⟨h1, r1, a1, c1⟩ := numP_back h2
    exact ⟨rfl, r1.app r2⟩
  · rw [pE g] at h ⊢
    simp only [readsF, readF_82, readF_85, readF_87, List.flatMap_cons, List.flatMap_nil, List.append_nil, writeF_81, writeF_84, writeF_86] at h ⊢
    obtain ⟨h3, r3, a3, c3⟩ := numP_back h
    obtain ⟨h2, r2, a2, c2⟩ := numP_back h3
    obtain ⟨h1, r1, a1, c1⟩ := numP_back h2
    exact ⟨rfl, r1.app ((hi_rd a1 c1 a2 c2 r2).app r3)⟩
  · rw [pF g] at h ⊢
    simp only [readsF, readF_82, readF_85, readF_94, List.flatMap_cons, List.flatMap_nil, List.append_nil, writeF_81, writeF_84, writeF_92] at h ⊢
    obtain ⟨h3, r3⟩ := textP_back h
    obtain ⟨h2, r2, a2, c2⟩ := numP_back h3
    obtain ⟨h1, r1, a1, c1⟩ := numP_back h2
    exact ⟨rfl, r1.app ((hi_rd a1 c1 a2 c2 r2).app r3)⟩
  · rw [pG g] at h ⊢
    simp only [readsF, readF_82, readF_85, readF_100, List.flatMap_cons, List.flatMap_nil, List.append_nil, writeF_81, writeF_84, writeF_98] at h ⊢
    obtain ⟨h3, r3⟩ := fltP_back h
    obtain ⟨h2, r2, a2, c2⟩ := numP_back h3
    obtain ⟨h1, r1, a1, c1⟩ := numP_back h2
    exact ⟨rfl, r1.app ((hi_rd a1 c1 a2 c2 r2).app r3)⟩
  · rw [pH g] at h ⊢
    simp only [readsF, readF_94, readF_97, readF_100, List.flatMap_cons, List.flatMap_nil, List.append_nil, writeF_92, writeF_96, writeF_98] at h ⊢
    obtain ⟨h3, r3⟩ := fltP_back h
    obtain ⟨h2, r2⟩ := textP_back h3
    obtain ⟨h1, r1⟩ := textP_back h2
    exact ⟨rfl, r1.app (r2.app r3)⟩
theorem byte_rd {b : List UInt8} {a : Int} (h0 : 0 ≤ a) (h : a < b.length) : Rd b a (a + 1) [by8 (kindAt b a)] := by
  have hl : a.toNat < b.length := by omega
  have e : by8 (kindAt b a) = b[a.toNat] := by
    unfold kindAt
    rw [by8_u8, List.getD_eq_getElem?_getD, List.getElem?_eq_getElem hl]; rfl
  rw [e]
  refine ⟨⟨h0, by omega⟩, rfl, ?_⟩
  rw [show (a + 1).toNat = a.toNat + 1 by omega, List.drop_eq_getElem_cons hl]; rfl
theorem rec_back {b : List UInt8} {a : Int} (ha : 0 ≤ a ∧ a ≤ b.length) (h : (recS b a).2 = 0) : Rd b a (recS b a).1 (recL (recR b a)) := by
  unfold recS at h ⊢
  unfold recR recL
  by_cases h1 : a = b.length
  · rw [if_pos h1] at h; simp at h
  rw [if_neg h1] at h ⊢
  by_cases h2 : parts8 (kindAt b a) = []
  · rw [if_pos h2] at h; simp at h
  rw [if_neg h2] at h ⊢
  obtain ⟨g1, g2⟩ := reads_back (b := b) (k := kindAt b a) (a := a + 1) (by omega) h2 h
  rw [g1]
  exact (byte_rd ha.1 (by omega)).app g2
theorem rec_write {r : Rec} (hr : r.right) (hw : r.wok) {b : List UInt8} {a e : Int} (h : Rd b a e (recL r)) : recS b a = (e, 0) ∧ recR b a = r := by
  have hk := (right_parts hr).1
  have hf := fields hr
  have hp := famK_ne8 hk
  have hrange : 1 ≤ r.kind ∧ r.kind ≤ 15 := by rcases kind_groups hk with g | g | g | g | g | g | g | g <;> omega
  unfold recL at h
  have h' : Rd b a e ([by8 r.kind] ++ (parts8 r.kind).flatMap fun p => writeF p.1 r) := h
  obtain ⟨h1, h2⟩ := h'.split
  have h3 := h1.le
  have h4 := h1.1
  have h5 := h1.2.2
  simp only [List.length_singleton] at h2 h3 h5
  have hka : kindAt b a = r.kind := by
    have hl : a.toNat < b.length := by omega
    unfold kindAt
    rw [List.drop_eq_getElem_cons hl] at h5
    injection h5 with h5 _
    rw [List.getD_eq_getElem?_getD, List.getElem?_eq_getElem hl]
    show ((b[a.toNat].toNat : Nat) : Int) = _
    rw [h5, by8_nat]; omega
  have hx := reads_write hk hf hw h2
  unfold recS recR
  rw [hka, if_neg (by omega), if_neg hp]
  have e1 : a + ((1 : Nat) : Int) = a + 1 := rfl
  rw [e1] at hx
  rw [hx]
  exact ⟨rfl, rfl⟩
theorem unp_write {b : List UInt8} : ∀ (m : List Rec) (a e : Int) (ps : List Int) (l : List Rec), (∀ r ∈ m, r.right) → (∀ r ∈ m, r.wok) → Rd b a e (m.flatMap recL) → ∃ ps', unpGo b m.length a ps l = .ok (e, ps', l ++ m)
  | [], a, e, ps, l, _, _, h => by
    have := h.2.1
    simp at this
    exact ⟨ps, by simp [unpGo, this]⟩
  | r :: m, a, e, ps, l, hr, hw, h => by
    rw [List.flatMap_cons] at h
    obtain ⟨h1, h2⟩ := h.split
    obtain ⟨g1, g2⟩ := rec_write (hr r List.mem_cons_self) (hw r List.mem_cons_self) h1
    obtain ⟨ps', h3⟩ := unp_write m _ e (ps ++ [a]) (l ++ [r]) (fun x hx => hr x (List.mem_cons_of_mem _ hx)) (fun x hx => hw x (List.mem_cons_of_mem _ hx)) h2
    refine ⟨ps', ?_⟩
    rw [List.length_cons, unpGo, g1, g2, if_neg (by simp), h3, List.append_assoc]; rfl
theorem unp_back {b : List UInt8} : ∀ (k : Nat) (a : Int) (ps : List Int) (l : List Rec) (a' : Int) (ps' : List Int) (l' : List Rec), (0 ≤ a ∧ a ≤ b.length) → unpGo b k a ps l = .ok (a', ps', l') →
    ∃ m : List Rec, m.length = k ∧ l' = l ++ m ∧ Rd b a a' (m.flatMap recL) ∧ ∀ r ∈ m, r.fine ∧ r.to.length ≤ 96
  | 0, a, ps, l, a', ps', l', ha, h => by
    rw [unpGo] at h
    injection h with h
    injection h with h1 h2
    injection h2 with h2 h3
    exact ⟨[], rfl, by rw [h3, List.append_nil], by rw [← h1]; exact Rd.nil ha, by simp⟩
  | k + 1, a, ps, l, a', ps', l', ha, h => by
    rw [unpGo] at h
    by_cases h1 : (recS b a).2 ≠ 0
    · rw [if_pos h1] at h; cases h
    rw [if_neg h1] at h
    obtain ⟨s1, s2, s3, s4⟩ := recS_spec b a ha
    obtain ⟨m, m1, m2, m3, m4⟩ := unp_back k _ _ _ a' ps' l' s1 h
    refine ⟨recR b a :: m, by rw [List.length_cons, m1], by rw [m2, List.append_assoc]; rfl, ?_, ?_⟩
    · rw [List.flatMap_cons]
      exact (rec_back ha (by simpa using h1)).app m3
    · intro r hr
      rcases List.mem_cons.1 hr with hr | hr
      · rw [hr]; exact ⟨s3, s2⟩
      · exact m4 r hr
end Go.Proofs.Ytcpdnpaedkcebaa.V
namespace Go.Proofs.Ytcpdnpaedkcebaa.V
open Go Go.RowKit
set_option linter.unusedVariables false
set_option linter.unusedSimpArgs false
set_option maxRecDepth 100000
def bodyL (l : List Rec) : List UInt8 := packH l.length ++ l.flatMap recL
theorem packB_eq (l : List Rec) : packB l = bodyL l ++ sum4 (sumW (bodyL l)) := rfl
theorem sum4_len (s : Nat) : (sum4 s).length = 4 := rfl
theorem body_five (l : List Rec) : bodyL l = [101, 110, 100, 111, 1] ++ (uintL l.length ++ l.flatMap recL) := by unfold bodyL packH; rw [List.append_assoc]
theorem uintL_pos (n : Nat) : 1 ≤ (uintL n).length := by rw [uintL]; split <;> simp
theorem pack_take (l : List Rec) : (packB l).length = (bodyL l).length + 4 ∧ (packB l).take ((packB l).length - 4) = bodyL l ∧ (packB l).drop ((packB l).length - 4) = sum4 (sumW (bodyL l)) := by
  have h : (packB l).length = (bodyL l).length + 4 := by rw [packB_eq, List.length_append, sum4_len]
  refine ⟨h, ?_, ?_⟩
  · rw [h, packB_eq, Nat.add_sub_cancel, List.take_left]
  · rw [h, packB_eq, Nat.add_sub_cancel, List.drop_left]
theorem pack_head {l : List Rec} (h : (packB l).length ≤ 262144) : headF (packB l) = (0, 0) := by
  obtain ⟨h1, h2, h3⟩ := pack_take l
  have h5 : 6 ≤ (bodyL l).length := by
    rw [body_five]
    have := uintL_pos l.length
    simp only [List.length_append, List.length_cons, List.length_nil]; omega
  unfold headF
  rw [if_neg (by omega), if_neg (by omega), h2, h3, if_neg (by simp)]
  have e1 : packB l = 101 :: 110 :: 100 :: 111 :: 1 :: (uintL l.length ++ l.flatMap recL ++ sum4 (sumW (bodyL l))) := by
    rw [packB_eq]
    conv => lhs; arg 1; rw [body_five]
    rfl
  rw [e1, if_neg (by simp), if_neg (by simp)]
theorem check_len {l : List Rec} (h : (checkP l).2 = 0) : l.length ≤ 4096 := by
  unfold checkP at h
  split at h
  · simp at h
  · omega
theorem unpack_pack {l : List Rec} (hok : ∀ r ∈ l, r.ok) (hw : ∀ r ∈ l, r.wok) (hc : (checkP l).2 = 0) (hl : (packB l).length ≤ 262144) : unpackF (packB l) = (l, 0, 0) := by
  have hr := check_right hok hc
  have hn := check_len hc
  obtain ⟨h1, h2, h3⟩ := pack_take l
  have hd : (bodyL l).drop (5 : Int).toNat = uintL l.length ++ l.flatMap recL := by rw [body_five]; rfl
  have h5 : 6 ≤ (bodyL l).length := by
    rw [body_five]
    have := uintL_pos l.length
    simp only [List.length_append, List.length_cons, List.length_nil]; omega
  have g1 : Rd (bodyL l) 5 (5 + (uintL l.length).length) (uintL l.length) := Rd.of (by omega) hd
  have g2 : Rd (bodyL l) 5 (bodyL l).length (uintL l.length ++ l.flatMap recL) := by
    have : ((bodyL l).length : Int) = 5 + (uintL l.length ++ l.flatMap recL).length := by rw [body_five]; simp only [List.length_append, List.length_cons, List.length_nil]; omega
    rw [this]
    exact Rd.of (q := []) (by omega) (by rw [hd, List.append_nil])
  have g3 := g2.split.2
  have g4 : rdU (bodyL l) 5 = ((l.length : Int), 5 + ((uintL l.length).length : Int), 0) := rdU_write (by rw [uintP_nat]; exact g1) (by omega) (by omega)
  obtain ⟨ps, g5⟩ := unp_write l _ _ [] [] hr hw g3
  unfold unpackF
  rw [pack_head hl, if_neg (by simp), h2, g4, if_neg (by simp), if_neg (by simp only; omega)]
  simp only [Int.toNat_natCast, g5, List.nil_append]
  rw [if_neg (by omega), if_neg (by simpa using hc)]
theorem head_parts {b : List UInt8} (h : (headF b).2 = 0) : (10 ≤ b.length ∧ b.length ≤ 262144) ∧ sum4 (sumW (b.take (b.length - 4))) = b.drop (b.length - 4) ∧ b.take 4 = [101, 110, 100, 111] ∧ b.getD 4 0 = 1 := by
  unfold headF at h
  by_cases h1 : 262144 < b.length
  · rw [if_pos h1] at h; simp at h
  rw [if_neg h1] at h
  by_cases h2 : b.length < 10
  · rw [if_pos h2] at h; simp at h
  rw [if_neg h2] at h
  by_cases h3 : sum4 (sumW (b.take (b.length - 4))) ≠ b.drop (b.length - 4)
  · rw [if_pos h3] at h; simp at h
  rw [if_neg h3] at h
  by_cases h4 : b.take 4 ≠ [101, 110, 100, 111]
  · rw [if_pos h4] at h; simp at h
  rw [if_neg h4] at h
  by_cases h5 : b.getD 4 0 ≠ 1
  · rw [if_pos h5] at h; simp at h
  exact ⟨by omega, by simpa using h3, by simpa using h4, by simpa using h5⟩
theorem unp_err {b : List UInt8} : ∀ (k : Nat) (a : Int) (ps : List Int) (l : List Rec) (x : Int × Int), unpGo b k a ps l = .error x → x.2 ≠ 0
  | 0, a, ps, l, x, h => by rw [unpGo] at h; cases h
  | k + 1, a, ps, l, x, h => by
    rw [unpGo] at h
    by_cases h1 : (recS b a).2 ≠ 0
    · rw [if_pos h1] at h
      injection h with h
      rw [← h]; exact h1
    · rw [if_neg h1] at h
      exact unp_err k _ _ _ x h
theorem pack_unpack {b : List UInt8} (h : (unpackF b).2.2 = 0) : packF (unpackF b).1 = (b, 0, 0) ∧ ∀ r ∈ (unpackF b).1, r.fine ∧ r.to.length ≤ 96 := by
  unfold unpackF at h ⊢
  by_cases h1 : (headF b).2 ≠ 0
  · rw [if_pos h1] at h; exact absurd h h1
  rw [if_neg h1] at h ⊢
  obtain ⟨hlen, hsum, hfour, hone⟩ := head_parts (b := b) (by simpa using h1)
  by_cases h2 : (rdU (b.take (b.length - 4)) 5).2.2 ≠ 0
  · rw [if_pos h2] at h; exact absurd h h2
  rw [if_neg h2] at h ⊢
  by_cases h3 : 4096 < (rdU (b.take (b.length - 4)) 5).1
  · rw [if_pos h3] at h; simp at h
  rw [if_neg h3] at h ⊢
  have hb : b = b.take (b.length - 4) ++ sum4 (sumW (b.take (b.length - 4))) := by rw [hsum, List.take_append_drop]
  have hcl : (b.take (b.length - 4)).length = b.length - 4 := by rw [List.length_take]; omega
  obtain ⟨g1, g2, g3⟩ := rdU_back (b := b.take (b.length - 4)) (a := 5) (by simpa using h2)
  have hc5 : (b.take (b.length - 4)).take 5 = [101, 110, 100, 111, 1] := by
    rw [List.take_take, Nat.min_eq_left (by omega), List.take_add_one, hfour]
    rw [List.getD_eq_getElem?_getD, List.getElem?_eq_getElem (by omega)] at hone
    rw [List.getElem?_eq_getElem (by omega)]
    have hone : b[4] = 1 := hone
    rw [hone]; rfl
  generalize b.take (b.length - 4) = c at *
  cases hu : unpGo c (rdU c 5).1.toNat (rdU c 5).2.1 [] [] with
  | error x =>
    rw [hu] at h
    simp only at h
    have := unp_err _ _ _ _ x hu
    exact absurd h this
  | ok y =>
    obtain ⟨a, ps, l⟩ := y
    rw [hu] at h
    simp only at h ⊢
    by_cases h4 : a < ((b.length - 4 : Nat) : Int)
    · rw [if_pos h4] at h; simp at h
    rw [if_neg h4] at h ⊢
    by_cases h5 : (checkP l).2 ≠ 0
    · rw [if_pos h5] at h; exact absurd h h5
    rw [if_neg h5]
    obtain ⟨m, m1, m2, m3, m4⟩ := unp_back _ _ _ _ _ _ _ g1.le hu
    rw [List.nil_append] at m2
    subst m2
    refine ⟨?_, m4⟩
    have g4 := g1.app m3
    have hml : (l.length : Int) = (rdU c 5).1 := by omega
    rw [← hml, uintP_nat] at g4
    have ha : a = c.length := by have := m3.le; omega
    have e1 : c = bodyL l := by
      have := g4.2.2
      rw [ha, show ((c.length : Int)).toNat = c.length by omega, List.drop_length, List.append_nil] at this
      rw [body_five, ← this, ← hc5]
      exact (List.take_append_drop 5 c).symm
    have e2 : packB l = b := by rw [packB_eq, ← e1, ← hb]
    unfold packF
    rw [if_neg h5, e2, if_neg (by omega)]
theorem unpack_nil {b : List UInt8} (h : (unpackF b).2.2 ≠ 0) : (unpackF b).1 = [] := by
  unfold unpackF at h ⊢
  by_cases h1 : (headF b).2 ≠ 0
  · rw [if_pos h1]
  rw [if_neg h1] at h ⊢
  by_cases h2 : (rdU (b.take (b.length - 4)) 5).2.2 ≠ 0
  · rw [if_pos h2]
  rw [if_neg h2] at h ⊢
  by_cases h3 : 4096 < (rdU (b.take (b.length - 4)) 5).1
  · rw [if_pos h3]
  rw [if_neg h3] at h ⊢
  generalize b.take (b.length - 4) = c at *
  cases hu : unpGo c (rdU c 5).1.toNat (rdU c 5).2.1 [] [] with
  | error x => rfl
  | ok y =>
    obtain ⟨a, ps, l⟩ := y
    rw [hu] at h
    simp only at h ⊢
    by_cases h4 : a < ((b.length - 4 : Nat) : Int)
    · rw [if_pos h4]
    rw [if_neg h4] at h ⊢
    by_cases h5 : (checkP l).2 ≠ 0
    · rw [if_pos h5]
    · rw [if_neg h5] at h; simp at h
theorem unpack_fine (b : List UInt8) : ∀ r ∈ (unpackF b).1, r.fine ∧ r.to.length ≤ 96 := by
  by_cases h : (unpackF b).2.2 = 0
  · exact (pack_unpack h).2
  · rw [unpack_nil h]; simp
end Go.Proofs.Ytcpdnpaedkcebaa.V
namespace Go.Proofs.Ytcpdnpaedkcebaa.V
open Go Go.RowKit
set_option linter.unusedVariables false
set_option linter.unusedSimpArgs false
set_option maxRecDepth 100000
theorem packF_len (l : List Rec) : (packF l).1.length ≤ 262144 := by
  unfold packF
  split
  · exact Nat.zero_le _
  · split
    · exact Nat.zero_le _
    · exact Nat.le_of_not_lt (by assumption)
theorem packF_ok {l : List Rec} (hok : ∀ r ∈ l, r.ok) (hw : ∀ r ∈ l, r.wok) (h : (packF l).2.2 = 0) : unpackF (packF l).1 = (l, 0, 0) ∧ packF l = (packB l, 0, 0) := by
  unfold packF at h ⊢
  by_cases h1 : (checkP l).2 ≠ 0
  · rw [if_pos h1] at h; exact absurd h h1
  rw [if_neg h1] at h ⊢
  by_cases h2 : 262144 < (packB l).length
  · rw [if_pos h2] at h; simp at h
  rw [if_neg h2]
  exact ⟨unpack_pack hok hw (by simpa using h1) (by omega), rfl⟩
def b11 : IC := (.seq (.reg [⟨(some 4), 0, none, .mv (.c (.bool false))⟩]) (.seq (.reg [⟨(some 16), 0, none, .mv (.t 0)⟩,
  ⟨(some 17), 1, none, .call (.c (.fn 31)) [((.t 16), .view 8), ((.c (.int .i64 120)), .plain)]⟩,
  ⟨(some 5), 0, none, .mv (.t 17)⟩]) (.seq (.reg [⟨(some 19), 0, none, .mv (.t 5)⟩,
  ⟨(some 20), 11, none, .call (.c (.fn 32)) [((.t 19), .view 8)]⟩,
  ⟨(some 18), 0, none, .mv (.t 20)⟩,
  ⟨(some 21), 0, none, .ext (.t 18) 0⟩,
  ⟨(some 22), 0, none, .ext (.t 18) 1⟩,
  ⟨(some 23), 0, none, .ext (.t 18) 2⟩,
  ⟨(some 6), 0, none, .mv (.t 21)⟩,
  ⟨(some 7), 0, none, .mv (.t 22)⟩,
  ⟨(some 8), 0, none, .mv (.t 23)⟩]) (.seq (.seq (.reg [⟨(some 24), 0, none, .mv (.t 8)⟩,
  ⟨(some 25), 0, none, .bin .eql (.t 24) (.c (.int .i64 0))⟩]) (.cond (.t 25) (.seq (.reg [⟨(some 27), 0, none, .mv (.t 6)⟩,
  ⟨(some 28), 21, none, .call (.c (.fn 37)) [((.t 27), .view 1)]⟩,
  ⟨(some 26), 0, none, .mv (.t 28)⟩,
  ⟨(some 29), 0, none, .ext (.t 26) 0⟩,
  ⟨(some 30), 0, none, .ext (.t 26) 1⟩,
  ⟨(some 31), 0, none, .ext (.t 26) 2⟩,
  ⟨(some 9), 0, none, .mv (.t 29)⟩,
  ⟨(some 10), 0, none, .mv (.t 30)⟩,
  ⟨(some 11), 0, none, .mv (.t 31)⟩]) (.seq (.reg [⟨(some 32), 0, none, .mv (.t 11)⟩,
  ⟨(some 33), 0, none, .bin .neq (.t 32) (.c (.int .i64 0))⟩,
  ⟨(some 34), 0, none, .mv (.t 33)⟩,
  ⟨(some 35), 0, (some (34, false)), .mv (.t 9)⟩,
  ⟨(some 36), 0, (some (34, false)), .mv (.t 5)⟩,
  ⟨(some 37), 31, (some (34, false)), .call (.c (.fn 23)) [((.t 35), .view 8), ((.t 36), .view 8)]⟩,
  ⟨(some 38), 0, (some (34, false)), .not (.t 37)⟩,
  ⟨(some 39), 0, none, .pick (.t 34) (.c (.bool true)) (.t 38)⟩]) (.cond (.t 39) (.seq (.reg [⟨(some 4), 0, none, .mv (.c (.bool false))⟩]) .ret) .skip))) .skip)) (.seq (.reg [⟨(some 41), 0, none, .mv (.t 1)⟩,
  ⟨(some 42), 41, none, .call (.c (.fn 37)) [((.t 41), .view 1)]⟩,
  ⟨(some 40), 0, none, .mv (.t 42)⟩,
  ⟨(some 43), 0, none, .ext (.t 40) 0⟩,
  ⟨(some 44), 0, none, .ext (.t 40) 1⟩,
  ⟨(some 45), 0, none, .ext (.t 40) 2⟩,
  ⟨(some 12), 0, none, .mv (.t 43)⟩,
  ⟨(some 13), 0, none, .mv (.t 44)⟩,
  ⟨(some 8), 0, none, .mv (.t 45)⟩]) (.seq (.seq (.reg [⟨(some 46), 0, none, .mv (.t 8)⟩,
  ⟨(some 47), 0, none, .bin .neq (.t 46) (.c (.int .i64 0))⟩]) (.cond (.t 47) (.seq (.reg [⟨(some 48), 51, none, .call (.c (.fn 34)) []⟩,
  ⟨(some 4), 0, none, .mv (.t 48)⟩]) .ret) .skip)) (.seq (.reg [⟨(some 50), 0, none, .mv (.t 12)⟩,
  ⟨(some 51), 61, none, .call (.c (.fn 32)) [((.t 50), .view 8)]⟩,
  ⟨(some 49), 0, none, .mv (.t 51)⟩,
  ⟨(some 52), 0, none, .ext (.t 49) 0⟩,
  ⟨(some 53), 0, none, .ext (.t 49) 1⟩,
  ⟨(some 54), 0, none, .ext (.t 49) 2⟩,
  ⟨(some 6), 0, none, .mv (.t 52)⟩,
  ⟨(some 14), 0, none, .mv (.t 53)⟩,
  ⟨(some 15), 0, none, .mv (.t 54)⟩]) (.seq (.reg [⟨(some 55), 71, none, .call (.c (.fn 34)) []⟩,
  ⟨(some 56), 0, none, .mv (.t 55)⟩,
  ⟨(some 57), 0, (some (56, true)), .mv (.t 15)⟩,
  ⟨(some 58), 0, (some (56, true)), .bin .eql (.t 57) (.c (.int .i64 0))⟩,
  ⟨(some 59), 0, none, .pick (.t 56) (.t 58) (.c (.bool false))⟩,
  ⟨(some 60), 0, none, .mv (.t 59)⟩,
  ⟨(some 61), 0, (some (60, true)), .mv (.t 6)⟩,
  ⟨(some 62), 0, (some (60, true)), .b2s (.t 61)⟩,
  ⟨(some 63), 0, (some (60, true)), .mv (.t 1)⟩,
  ⟨(some 64), 0, (some (60, true)), .b2s (.t 63)⟩,
  ⟨(some 65), 0, (some (60, true)), .bin .eql (.t 62) (.t 64)⟩,
  ⟨(some 66), 0, none, .pick (.t 60) (.t 65) (.c (.bool false))⟩,
  ⟨(some 4), 0, none, .mv (.t 66)⟩]) .ret))))))))
def rs11 : List (Nat × Option Nat × Mode) := [(4, none, .plain)]
theorem chk11 : chkC Try.prog Try.f11.ntmps b11 (Try.f11.body.getD .skip) = true := by decide +kernel
theorem top11 {args : List Arg} {out : Out} (ha : args.length.ble Try.f11.ntmps = true) (h8 : args.length.ble 8 = true) (mss : List (List (Option Nat))) (hb : backOK args out.back)
    (hw : rnC Try.prog b11 (topQ rs11 args mss out) (slotsOf (argsAV argBase args 0) 0) (argsOb argBase args 0)) : CW Try.prog 11 args out :=
  CW.of Try.func11 rs11 mss (by decide +kernel) (by decide +kernel) (by decide +kernel) ha h8 chk11 hb hw
theorem w11 (l : List Rec) (b : List UInt8) (hl : ∀ r ∈ l, r.ok) (hwt : ∀ r ∈ l, r.wok) (hto : ∀ r ∈ l, r.to.length ≤ 35184372088832) (hn : l.length < 9223372036854775808) (hb : b.length < 1000000000000000) (Q : Ex → Slots → LH → Prop) (hQ : ∀ σ H, Slots.get σ 4 = .c (.bool true) → Q .ret σ H) : rnC Try.prog b11 Q [(0, .c (.sl 8 (recs l))), (1, .c (.sl 1 (bys b)))] [] := by
  unfold b11
  have hl' : ∀ r ∈ l.take 120, r.ok := fun r h => hl r (List.mem_of_mem_take h)
  have hw' : ∀ r ∈ l.take 120, r.wok := fun r h => hwt r (List.mem_of_mem_take h)
  have ht' : ∀ r ∈ l.take 120, r.to.length ≤ 35184372088832 := fun r h => hto r (List.mem_of_mem_take h)
  have hn' : (l.take 120).length ≤ 120 := by rw [List.length_take]; omega
  have hfine := unpack_fine b
  have c32 := cw32 (unpackF b).1 (fun r h => (hfine r h).1.1) (fun r h => (hfine r h).1.2) (fun r h => Nat.le_trans (hfine r h).2 (by decide))
  have hback := @pack_unpack b
  simp only [go_sem, ↓reduceIte, Nat.reduceEqDiff, Nat.reduceMul, Nat.reduceAdd, Nat.reduceDiv, Nat.reduceSub, Nat.reduceLT, Nat.reduceLeDiff, Int.reduceLE, Int.reduceLT, Int.reduceToNat, Int.reduceEq]
  refine callK_1 _ (fun _ => cw31 l 120 (by decide) hn hto) (by simp only [go_sem, ↓reduceIte, Nat.reduceEqDiff, Nat.reduceMul, Nat.reduceAdd, Nat.reduceDiv, Nat.reduceSub, Nat.reduceLT, Nat.reduceLeDiff, Int.reduceLE, Int.reduceLT, Int.reduceToNat, Int.reduceEq]) rfl rfl ?_
  simp only [go_sem, ↓reduceIte, Nat.reduceEqDiff, Nat.reduceMul, Nat.reduceAdd, Nat.reduceDiv, Nat.reduceSub, Nat.reduceLT, Nat.reduceLeDiff, Int.reduceLE, Int.reduceLT, Int.reduceToNat, Int.reduceEq]
  repeat (refine ⟨by (first | omega | (intro h1 h2; exact ⟨h1, h2⟩) | (intro h1; omega) | (intro h1; exact h1) | trivial), ?_⟩)
  generalize l.take 120 = m at *
  refine callK_3 _ _ _ (fun _ => (cw32 m hl' hw' ht').pubRes3 rfl) (by simp only [go_sem, ↓reduceIte, Nat.reduceEqDiff, Nat.reduceMul, Nat.reduceAdd, Nat.reduceDiv, Nat.reduceSub, Nat.reduceLT, Nat.reduceLeDiff, Int.reduceLE, Int.reduceLT, Int.reduceToNat, Int.reduceEq]) rfl rfl ?_
  simp only [go_sem, ↓reduceIte, Nat.reduceEqDiff, Nat.reduceMul, Nat.reduceAdd, Nat.reduceDiv, Nat.reduceSub, Nat.reduceLT, Nat.reduceLeDiff, Int.reduceLE, Int.reduceLT, Int.reduceToNat, Int.reduceEq]
  repeat (refine ⟨by (first | omega | (intro h1 h2; exact ⟨h1, h2⟩) | (intro h1; omega) | (intro h1; exact h1) | trivial), ?_⟩)
  have hlen := packF_len m
  refine ⟨fun he => ?_, fun he => ?_⟩
  · obtain ⟨hu, -⟩ := packF_ok hl' hw' he
    refine callK_3 _ _ _ (fun _ => (cw37 (packF m).1 (by omega)).pubRes3 rfl) (by simp only [go_sem, ↓reduceIte, Nat.reduceEqDiff, Nat.reduceMul, Nat.reduceAdd, Nat.reduceDiv, Nat.reduceSub, Nat.reduceLT, Nat.reduceLeDiff, Int.reduceLE, Int.reduceLT, Int.reduceToNat, Int.reduceEq]) rfl rfl ?_
    simp only [go_sem, ↓reduceIte, Nat.reduceEqDiff, Nat.reduceMul, Nat.reduceAdd, Nat.reduceDiv, Nat.reduceSub, Nat.reduceLT, Nat.reduceLeDiff, Int.reduceLE, Int.reduceLT, Int.reduceToNat, Int.reduceEq]
    repeat (refine ⟨by (first | omega | (intro h1 h2; exact ⟨h1, h2⟩) | (intro h1; omega) | (intro h1; exact h1) | trivial), ?_⟩)
    rw [hu]
    refine callK_1 _ (fun _ => cw23 m m (by omega) (by omega) ht' ht') (by simp only [go_sem, ↓reduceIte, Nat.reduceEqDiff, Nat.reduceMul, Nat.reduceAdd, Nat.reduceDiv, Nat.reduceSub, Nat.reduceLT, Nat.reduceLeDiff, Int.reduceLE, Int.reduceLT, Int.reduceToNat, Int.reduceEq]) rfl rfl ?_
    simp only [go_sem, ↓reduceIte, Nat.reduceEqDiff, Nat.reduceMul, Nat.reduceAdd, Nat.reduceDiv, Nat.reduceSub, Nat.reduceLT, Nat.reduceLeDiff, Int.reduceLE, Int.reduceLT, Int.reduceToNat, Int.reduceEq]
    repeat (refine ⟨by (first | omega | (intro h1 h2; exact ⟨h1, h2⟩) | (intro h1; omega) | (intro h1; exact h1) | trivial), ?_⟩)
    rw [sameL_self]
    refine ⟨fun h => (by cases h), fun _ => ?_⟩
    refine callK_3 _ _ _ (fun _ => (cw37 b hb).pubRes3 rfl) (by simp only [go_sem, ↓reduceIte, Nat.reduceEqDiff, Nat.reduceMul, Nat.reduceAdd, Nat.reduceDiv, Nat.reduceSub, Nat.reduceLT, Nat.reduceLeDiff, Int.reduceLE, Int.reduceLT, Int.reduceToNat, Int.reduceEq]) rfl rfl ?_
    simp only [go_sem, ↓reduceIte, Nat.reduceEqDiff, Nat.reduceMul, Nat.reduceAdd, Nat.reduceDiv, Nat.reduceSub, Nat.reduceLT, Nat.reduceLeDiff, Int.reduceLE, Int.reduceLT, Int.reduceToNat, Int.reduceEq]
    repeat (refine ⟨by (first | omega | (intro h1 h2; exact ⟨h1, h2⟩) | (intro h1; omega) | (intro h1; exact h1) | trivial), ?_⟩)
    refine ⟨fun he2 => ?_, fun he2 => ?_⟩
    · refine callK_1 _ (fun _ => cw34) (by simp only [go_sem, ↓reduceIte, Nat.reduceEqDiff, Nat.reduceMul, Nat.reduceAdd, Nat.reduceDiv, Nat.reduceSub, Nat.reduceLT, Nat.reduceLeDiff, Int.reduceLE, Int.reduceLT, Int.reduceToNat, Int.reduceEq]) rfl rfl ?_
      simp only [go_sem, ↓reduceIte, Nat.reduceEqDiff, Nat.reduceMul, Nat.reduceAdd, Nat.reduceDiv, Nat.reduceSub, Nat.reduceLT, Nat.reduceLeDiff, Int.reduceLE, Int.reduceLT, Int.reduceToNat, Int.reduceEq]
      repeat (refine ⟨by (first | omega | (intro h1 h2; exact ⟨h1, h2⟩) | (intro h1; omega) | (intro h1; exact h1) | trivial), ?_⟩)
      exact hQ _ _ rfl
    · obtain ⟨hbk, -⟩ := hback (by simpa using he2)
      refine callK_3 _ _ _ (fun _ => c32.pubRes3 rfl) (by simp only [go_sem, ↓reduceIte, Nat.reduceEqDiff, Nat.reduceMul, Nat.reduceAdd, Nat.reduceDiv, Nat.reduceSub, Nat.reduceLT, Nat.reduceLeDiff, Int.reduceLE, Int.reduceLT, Int.reduceToNat, Int.reduceEq]) rfl rfl ?_
      simp only [go_sem, ↓reduceIte, Nat.reduceEqDiff, Nat.reduceMul, Nat.reduceAdd, Nat.reduceDiv, Nat.reduceSub, Nat.reduceLT, Nat.reduceLeDiff, Int.reduceLE, Int.reduceLT, Int.reduceToNat, Int.reduceEq]
      repeat (refine ⟨by (first | omega | (intro h1 h2; exact ⟨h1, h2⟩) | (intro h1; omega) | (intro h1; exact h1) | trivial), ?_⟩)
      rw [hbk]
      refine callK_1 _ (fun _ => cw34) (by simp only [go_sem, ↓reduceIte, Nat.reduceEqDiff, Nat.reduceMul, Nat.reduceAdd, Nat.reduceDiv, Nat.reduceSub, Nat.reduceLT, Nat.reduceLeDiff, Int.reduceLE, Int.reduceLT, Int.reduceToNat, Int.reduceEq]) rfl rfl ?_
      simp only [go_sem, ↓reduceIte, Nat.reduceEqDiff, Nat.reduceMul, Nat.reduceAdd, Nat.reduceDiv, Nat.reduceSub, Nat.reduceLT, Nat.reduceLeDiff, Int.reduceLE, Int.reduceLT, Int.reduceToNat, Int.reduceEq]
      repeat (refine ⟨by (first | omega | (intro h1 h2; exact ⟨h1, h2⟩) | (intro h1; omega) | (intro h1; exact h1) | trivial), ?_⟩)
      refine ⟨bys_isU8 _, bys_isU8 _, ?_⟩
      refine hQ _ _ ?_
      simp only [Slots.get, ↓reduceIte, beq_self_eq_true]
  · skip
    refine callK_3 _ _ _ (fun _ => (cw37 b hb).pubRes3 rfl) (by simp only [go_sem, ↓reduceIte, Nat.reduceEqDiff, Nat.reduceMul, Nat.reduceAdd, Nat.reduceDiv, Nat.reduceSub, Nat.reduceLT, Nat.reduceLeDiff, Int.reduceLE, Int.reduceLT, Int.reduceToNat, Int.reduceEq]) rfl rfl ?_
    simp only [go_sem, ↓reduceIte, Nat.reduceEqDiff, Nat.reduceMul, Nat.reduceAdd, Nat.reduceDiv, Nat.reduceSub, Nat.reduceLT, Nat.reduceLeDiff, Int.reduceLE, Int.reduceLT, Int.reduceToNat, Int.reduceEq]
    repeat (refine ⟨by (first | omega | (intro h1 h2; exact ⟨h1, h2⟩) | (intro h1; omega) | (intro h1; exact h1) | trivial), ?_⟩)
    refine ⟨fun he2 => ?_, fun he2 => ?_⟩
    · refine callK_1 _ (fun _ => cw34) (by simp only [go_sem, ↓reduceIte, Nat.reduceEqDiff, Nat.reduceMul, Nat.reduceAdd, Nat.reduceDiv, Nat.reduceSub, Nat.reduceLT, Nat.reduceLeDiff, Int.reduceLE, Int.reduceLT, Int.reduceToNat, Int.reduceEq]) rfl rfl ?_
      simp only [go_sem, ↓reduceIte, Nat.reduceEqDiff, Nat.reduceMul, Nat.reduceAdd, Nat.reduceDiv, Nat.reduceSub, Nat.reduceLT, Nat.reduceLeDiff, Int.reduceLE, Int.reduceLT, Int.reduceToNat, Int.reduceEq]
      repeat (refine ⟨by (first | omega | (intro h1 h2; exact ⟨h1, h2⟩) | (intro h1; omega) | (intro h1; exact h1) | trivial), ?_⟩)
      exact hQ _ _ rfl
    · obtain ⟨hbk, -⟩ := hback (by simpa using he2)
      refine callK_3 _ _ _ (fun _ => c32.pubRes3 rfl) (by simp only [go_sem, ↓reduceIte, Nat.reduceEqDiff, Nat.reduceMul, Nat.reduceAdd, Nat.reduceDiv, Nat.reduceSub, Nat.reduceLT, Nat.reduceLeDiff, Int.reduceLE, Int.reduceLT, Int.reduceToNat, Int.reduceEq]) rfl rfl ?_
      simp only [go_sem, ↓reduceIte, Nat.reduceEqDiff, Nat.reduceMul, Nat.reduceAdd, Nat.reduceDiv, Nat.reduceSub, Nat.reduceLT, Nat.reduceLeDiff, Int.reduceLE, Int.reduceLT, Int.reduceToNat, Int.reduceEq]
      repeat (refine ⟨by (first | omega | (intro h1 h2; exact ⟨h1, h2⟩) | (intro h1; omega) | (intro h1; exact h1) | trivial), ?_⟩)
      rw [hbk]
      refine callK_1 _ (fun _ => cw34) (by simp only [go_sem, ↓reduceIte, Nat.reduceEqDiff, Nat.reduceMul, Nat.reduceAdd, Nat.reduceDiv, Nat.reduceSub, Nat.reduceLT, Nat.reduceLeDiff, Int.reduceLE, Int.reduceLT, Int.reduceToNat, Int.reduceEq]) rfl rfl ?_
      simp only [go_sem, ↓reduceIte, Nat.reduceEqDiff, Nat.reduceMul, Nat.reduceAdd, Nat.reduceDiv, Nat.reduceSub, Nat.reduceLT, Nat.reduceLeDiff, Int.reduceLE, Int.reduceLT, Int.reduceToNat, Int.reduceEq]
      repeat (refine ⟨by (first | omega | (intro h1 h2; exact ⟨h1, h2⟩) | (intro h1; omega) | (intro h1; exact h1) | trivial), ?_⟩)
      refine ⟨bys_isU8 _, bys_isU8 _, ?_⟩
      refine hQ _ _ ?_
      simp only [Slots.get, ↓reduceIte, beq_self_eq_true]
theorem cw11 (l : List Rec) (b : List UInt8) (hl : ∀ r ∈ l, r.ok) (hwt : ∀ r ∈ l, r.wok) (hto : ∀ r ∈ l, r.to.length ≤ 35184372088832) (hn : l.length < 9223372036854775808) (hb : b.length < 1000000000000000) : CW Try.prog 11 [.cv (.sl 8 (recs l)), .cv (.sl 1 (bys b))] ⟨[.cv (.bool true)], []⟩ :=
  top11 rfl rfl [] trivial (w11 l b hl hwt hto hn hb _ fun σ H h => ret1 rfl h)
end Go.Proofs.Ytcpdnpaedkcebaa.V
namespace Go.Proofs.Ytcpdnpaedkcebaa.V
open Go Go.RowKit
set_option linter.unusedVariables false
set_option linter.unusedSimpArgs false
set_option maxRecDepth 100000
section
variable {C : Ctx} {ι ι' : Nat → Loc} {S S' : Nat → Prop} {σ σ' : Slots} {H H' : LH} {a a' : Act} {w w' : World}
end
def e0 : IC := (.reg [⟨(some 0), 0, none, .mv (.c .nilsl)⟩])
def e1 : IC := .ret
def z1 (f : Func) : Array Oper := opsOf (seqA (seqB (codeOf f)))
end Go.Proofs.Ytcpdnpaedkcebaa.V
namespace Go.Proofs.Ytcpdnpaedkcebaa.V
open Go Go.RowKit
set_option linter.unusedVariables false
set_option linter.unusedSimpArgs false
set_option maxRecDepth 100000
def All (w : World) (b : Nat) : Prop := b < w.heap.size
def DownV (P : Program) (t : TypeId) (n : Nat) {α : Type} (f : α → CV) (Q : α → Prop) : Prop :=
  (∀ a, (f a).wf n) ∧ ∀ {H : Type} {enc : TypeId × Value → H} {w : World} {base : Nat} {spare : Nat → Bool} {held : Bool} {fuel : Nat} {cs : List Value} {x : DataW H × List MemPlace},
    DataW.trod enc P w base spare held fuel t cs = some x → ∃ a, cs.length = n ∧ (∀ j, j < n → VR w (All w) ((f a).cells.getD j .undef) (cs.getD j Go.undef)) ∧ ((∀ n ∈ x.1.weights P t, n ≤ reachBytes) → Q a)
theorem dv_int {P : Program} {t : TypeId} {k : IntKind} (ht : P.underlying t = some (.int k)) : DownV P t 1 (fun a : Int => CV.int k a) (fun a => (Lit.int k a).wf = true) := by
  refine ⟨fun a => ⟨rfl, by simp [CV.cells, CV.one]⟩, ?_⟩
  intro H enc w base spare held fuel cs x h
  obtain ⟨n, rfl, rfl, hw⟩ := DataW.trod_int ht h
  refine ⟨n, rfl, fun j hj => ?_, fun _ => hw⟩
  have : j = 0 := by omega
  subst this
  exact .int _ _
theorem dv_str {P : Program} {t : TypeId} (ht : P.underlying t = some .string) : DownV P t 1 (fun a : ByteArray => CV.str a) (fun _ => True) := by
  refine ⟨fun a => ⟨rfl, by simp [CV.cells, CV.one]⟩, ?_⟩
  intro H enc w base spare held fuel cs x h
  obtain ⟨s, rfl, rfl, hs⟩ := DataW.trod_string ht h
  refine ⟨s, rfl, fun j hj => ?_, fun _ => trivial⟩
  have : j = 0 := by omega
  subst this
  exact .str _
theorem dv_flt {P : Program} {t : TypeId} (ht : P.underlying t = some (.float .f64)) : DownV P t 1 (fun a : Nat => CV.flt a) (fun a => (Lit.float .f64 a).wf = true) := by
  refine ⟨fun a => ⟨rfl, by simp [CV.cells, CV.one]⟩, ?_⟩
  intro H enc w base spare held fuel cs x h
  cases fuel with
  | zero => simp [DataW.trod] at h
  | succ n =>
    unfold DataW.trod at h
    rw [ht] at h
    split at h <;> simp_all
    obtain ⟨⟨rfl, hw⟩, rfl⟩ := h
    subst_vars
    exact ⟨_, .flt _, fun _ => hw⟩
theorem wts_all {H : Type} {P : Program} {e : TypeId} : ∀ {l : List (DataW H)} {d : DataW H}, d ∈ l → ∀ n ∈ d.weights P e, n ∈ DataW.weightsAll P e l
  | d0 :: r, d, hd, n, hn => by
    simp only [DataW.weightsAll, List.mem_append]
    rcases List.mem_cons.1 hd with rfl | hd
    · exact .inl hn
    · exact .inr (wts_all hd n hn)
theorem dv_slice {P : Program} {α : Type} [Inhabited α] {f : α → CV} {Q : α → Prop} {t e n B : Nat} (ht : P.underlying t = some (.slice e)) (hC : P.cellsOf e = n) (hn : 0 < n) (hB : P.bytesOf e = B) (hd : DownV P e n f Q) :
    DownV P t 1 (fun l : List α => CV.sl n (l.map f)) (fun l => l.length * B ≤ reachBytes ∧ ∀ x ∈ l, Q x) := by
  refine ⟨fun a => ⟨rfl, by simp [CV.cells, CV.one]⟩, ?_⟩
  intro H enc w base spare held fuel cs x h
  rcases Go.Deep.open_slice ht h with ⟨rfl, rfl⟩ | ⟨a, len, cap, m, k, D, Pl, rfl, hb, hl, hm, hmm, rfl, hi⟩
  · refine ⟨[], rfl, fun j hj => ?_, fun _ => ⟨by simp, by simp⟩⟩
    have : j = 0 := by omega
    subst this
    exact .slnil _ _ _
  · have hlm : len ≤ m := by
      rw [hmm]
      split <;> omega
    obtain ⟨g, hg⟩ := Go.Deep.choose_lt (n := len) (p := fun i (y : α × List Value) => w.cells? base (a.add (i * P.cellsOf e)) (P.cellsOf e) = some y.2 ∧ (∀ j, j < n → VR w (All w) ((f y.1).cells.getD j .undef) (y.2.getD j Go.undef)) ∧ ((∀ n ∈ (D i).weights P e, n ≤ reachBytes) → Q y.1)) (fun i hi' => by
      obtain ⟨cs', hc, ht'⟩ := hi i (by omega)
      obtain ⟨y, hy, hv, hq⟩ := hd.2 ht'
      exact ⟨(y, cs'), hc, hv, hq⟩)
    refine ⟨(List.range len).map fun i => (g i).1, rfl, fun j hj => ?_, fun hw => ⟨?_, ?_⟩⟩
    · have : j = 0 := by omega
      subst this
      show VR w (All w) (.sl n (((List.range len).map fun i => (g i).1).map f)) (.slice (some a) len cap)
      by_cases h0 : len = 0
      · subst h0; exact .slnil _ _ _
      have hcell : ∀ i, i < len → ∀ j, j < n → w.cell? ⟨a.block, a.off + (i * n + j), none⟩ = some ((g i).2.getD j Go.undef) := by
        intro i hi' j hj
        obtain ⟨hc, _, _⟩ := hg i hi'
        rw [hC] at hc
        obtain ⟨_, hcl, hat⟩ := World.cells?_some hc
        have h1 := hat j hj
        rw [Go.Deep.add_add] at h1
        have h2 : (g i).2[j]? = some ((g i).2.getD j Go.undef) := by
          rw [List.getD_eq_getElem?_getD, List.getElem?_eq_getElem (by omega)]; rfl
        rw [h2] at h1
        unfold Addr.add at h1
        split at h1
        · rename_i e0
          rw [e0, Nat.add_zero]
          have hsp : a.spot = none := by
            cases hs : a.spot with
            | none => rfl
            | some s =>
              rw [World.cell?, hs] at h1
              split at h1 <;> simp at h1
          have : a = ⟨a.block, a.off, none⟩ := by cases a; simp_all
          rw [this] at h1
          exact h1
        · exact h1
      have hsp : a = ⟨a.block, a.off, none⟩ := by
        obtain ⟨hc, _, _⟩ := hg 0 (by omega)
        rw [hC] at hc
        obtain ⟨_, hcl, hat⟩ := World.cells?_some hc
        have h1 := hat 0 hn
        rw [Go.Deep.add_add, Nat.zero_mul, Nat.zero_add] at h1
        have h2 : (g 0).2[0]? = some ((g 0).2.getD 0 Go.undef) := by
          rw [List.getD_eq_getElem?_getD, List.getElem?_eq_getElem (by omega)]; rfl
        rw [h2] at h1
        unfold Addr.add at h1
        rw [if_pos rfl] at h1
        have hsp : a.spot = none := by
          cases hs : a.spot with
          | none => rfl
          | some s =>
            rw [World.cell?, hs] at h1
            split at h1 <;> simp at h1
        cases a; simp_all
      rw [hsp]
      have hl2 : (((List.range len).map fun i => (g i).1).map f).length = len := by simp
      have := VR.sl (w := w) (S := All w) n (((List.range len).map fun i => (g i).1).map f) a.block a.off cap (fun i j => (g i).2.getD j Go.undef) (by rw [hl2]; exact hl) (fun x hx => by
        obtain ⟨y, _, rfl⟩ := List.mem_map.1 hx
        exact hd.1 y) (fun i j hi' hj => by
          rw [hl2] at hi'
          exact ⟨cell_lt (hcell i hi' j hj), hcell i hi' j hj⟩) (fun i j hi' hj => by
          rw [hl2] at hi'
          have e1 : (((List.range len).map fun i => (g i).1).map f).getD i .undef = f (g i).1 := by
            simp [List.getD_eq_getElem?_getD, hi']
          rw [e1]
          exact (hg i hi').2.1 j hj)
      rw [hl2] at this
      exact this
    · have h1 := hw ((((List.range len).map D).length + ((List.range (m - len)).map fun j => D (len + j)).length) * P.bytesOf e) (by simp [DataW.weights, ht])
      simp only [List.length_map, List.length_range] at h1 ⊢
      rw [hB] at h1
      exact Nat.le_trans (Nat.mul_le_mul_right _ (Nat.le_add_right _ _)) h1
    · intro y hy
      obtain ⟨i, hir, rfl⟩ := List.mem_map.1 hy
      have hil : i < len := List.mem_range.1 hir
      obtain ⟨_, _, hq⟩ := hg i hil
      refine hq (fun n hn => hw n ?_)
      have h1 := wts_all (P := P) (e := e) (l := (List.range len).map D) (List.mem_map.2 ⟨i, hir, rfl⟩) n hn
      simp only [DataW.weights, ht, List.mem_cons, List.mem_append]
      exact .inr (.inl h1)
def Rec.wf (r : Rec) : Prop := r.ok ∧ r.to.length ≤ 35184372088832 ∧ r.weight < 18446744073709551616
instance : Inhabited Rec := ⟨⟨0, 0, 0, 0, [], ⟨#[]⟩, ⟨#[]⟩, 0⟩⟩
theorem i64_of {n : Int} (h : (Lit.int .i64 n).wf = true) : i64ok n := by
  simp [Lit.wf, IntKind.min, IntKind.max, IntKind.bits, IntKind.signed] at h
  unfold i64ok
  omega
theorem i32_of {n : Int} (h : (Lit.int .i32 n).wf = true) : i32ok n := by
  simp [Lit.wf, IntKind.min, IntKind.max, IntKind.bits, IntKind.signed] at h
  unfold i32ok
  omega
theorem dv_rec : DownV Try.prog 47 8 Rec.cv Rec.wf := by
  refine ⟨fun a => ⟨rfl, by simp [Rec.cv, CV.cells, CV.one]⟩, ?_⟩
  intro H enc w base spare held fuel cs x h
  obtain ⟨ys, n, -, hx, hlen, hyl, hf⟩ := DataW.trod_struct Try.underlying47 h
  subst hx
  have hcl : cs.length = 8 := hlen.trans (by kernel_rfl)
  obtain ⟨c0, c1, c2, c3, c4, c5, c6, c7, rfl⟩ : ∃ c0 c1 c2 c3 c4 c5 c6 c7, cs = [c0, c1, c2, c3, c4, c5, c6, c7] := by
    match cs, hcl with
    | [c0, c1, c2, c3, c4, c5, c6, c7], _ => exact ⟨_, _, _, _, _, _, _, _, rfl⟩
  have hyl2 : ys.length = 8 := hyl
  obtain ⟨y0, y1, y2, y3, y4, y5, y6, y7, rfl⟩ : ∃ y0 y1 y2 y3 y4 y5 y6 y7, ys = [y0, y1, y2, y3, y4, y5, y6, y7] := by
    match ys, hyl2 with
    | [y0, y1, y2, y3, y4, y5, y6, y7], _ => exact ⟨_, _, _, _, _, _, _, _, rfl⟩
  have g0 : DataW.trod enc Try.prog w base spare held n 3 [c0] = some y0 := by
    have e1 : Try.prog.cellsOf 3 = 1 := by kernel_rfl
    have e2 : DataW.trod enc Try.prog w base spare held n 3 (([c0, c1, c2, c3, c4, c5, c6, c7].drop 0).take (Try.prog.cellsOf 3)) = some y0 := hf 0 _ rfl
    rw [e1] at e2
    exact e2
  have g1 : DataW.trod enc Try.prog w base spare held n 3 [c1] = some y1 := by
    have e1 : Try.prog.cellsOf 3 = 1 := by kernel_rfl
    have e2 : DataW.trod enc Try.prog w base spare held n 3 (([c0, c1, c2, c3, c4, c5, c6, c7].drop 1).take (Try.prog.cellsOf 3)) = some y1 := hf 1 _ rfl
    rw [e1] at e2
    exact e2
  have g2 : DataW.trod enc Try.prog w base spare held n 3 [c2] = some y2 := by
    have e1 : Try.prog.cellsOf 3 = 1 := by kernel_rfl
    have e2 : DataW.trod enc Try.prog w base spare held n 3 (([c0, c1, c2, c3, c4, c5, c6, c7].drop 2).take (Try.prog.cellsOf 3)) = some y2 := hf 2 _ rfl
    rw [e1] at e2
    exact e2
  have g3 : DataW.trod enc Try.prog w base spare held n 3 [c3] = some y3 := by
    have e1 : Try.prog.cellsOf 3 = 1 := by kernel_rfl
    have e2 : DataW.trod enc Try.prog w base spare held n 3 (([c0, c1, c2, c3, c4, c5, c6, c7].drop 3).take (Try.prog.cellsOf 3)) = some y3 := hf 3 _ rfl
    rw [e1] at e2
    exact e2
  have g4 : DataW.trod enc Try.prog w base spare held n 23 [c4] = some y4 := by
    have e1 : Try.prog.cellsOf 23 = 1 := by kernel_rfl
    have e2 : DataW.trod enc Try.prog w base spare held n 23 (([c0, c1, c2, c3, c4, c5, c6, c7].drop 4).take (Try.prog.cellsOf 23)) = some y4 := hf 4 _ rfl
    rw [e1] at e2
    exact e2
  have g5 : DataW.trod enc Try.prog w base spare held n 9 [c5] = some y5 := by
    have e1 : Try.prog.cellsOf 9 = 1 := by kernel_rfl
    have e2 : DataW.trod enc Try.prog w base spare held n 9 (([c0, c1, c2, c3, c4, c5, c6, c7].drop 5).take (Try.prog.cellsOf 9)) = some y5 := hf 5 _ rfl
    rw [e1] at e2
    exact e2
  have g6 : DataW.trod enc Try.prog w base spare held n 9 [c6] = some y6 := by
    have e1 : Try.prog.cellsOf 9 = 1 := by kernel_rfl
    have e2 : DataW.trod enc Try.prog w base spare held n 9 (([c0, c1, c2, c3, c4, c5, c6, c7].drop 6).take (Try.prog.cellsOf 9)) = some y6 := hf 6 _ rfl
    rw [e1] at e2
    exact e2
  have g7 : DataW.trod enc Try.prog w base spare held n 45 [c7] = some y7 := by
    have e1 : Try.prog.cellsOf 45 = 1 := by kernel_rfl
    have e2 : DataW.trod enc Try.prog w base spare held n 45 (([c0, c1, c2, c3, c4, c5, c6, c7].drop 7).take (Try.prog.cellsOf 45)) = some y7 := hf 7 _ rfl
    rw [e1] at e2
    exact e2
  obtain ⟨b0, -, v0, q0⟩ := (dv_int Try.underlying3).2 g0
  obtain ⟨b1, -, v1, q1⟩ := (dv_int Try.underlying3).2 g1
  obtain ⟨b2, -, v2, q2⟩ := (dv_int Try.underlying3).2 g2
  obtain ⟨b3, -, v3, q3⟩ := (dv_int Try.underlying3).2 g3
  obtain ⟨b4, -, v4, q4⟩ := (dv_slice (B := 4) Try.underlying23 (by kernel_rfl) (by decide) (by kernel_rfl) (dv_int Try.underlying21)).2 g4
  obtain ⟨b5, -, v5, q5⟩ := (dv_str Try.underlying9).2 g5
  obtain ⟨b6, -, v6, q6⟩ := (dv_str Try.underlying9).2 g6
  obtain ⟨b7, -, v7, q7⟩ := (dv_flt Try.underlying45).2 g7
  refine ⟨⟨b0, b1, b2, b3, b4, b5, b6, b7⟩, rfl, fun j hj => ?_, fun hw => ?_⟩
  · match j, hj with
    | 0, _ => exact v0 0 (by decide)
    | 1, _ => exact v1 0 (by decide)
    | 2, _ => exact v2 0 (by decide)
    | 3, _ => exact v3 0 (by decide)
    | 4, _ => exact v4 0 (by decide)
    | 5, _ => exact v5 0 (by decide)
    | 6, _ => exact v6 0 (by decide)
    | 7, _ => exact v7 0 (by decide)
  · simp only [DataW.weights, Try.underlying47, List.map_cons, List.map_nil, DataW.weightsEach, List.mem_append, List.not_mem_nil, or_false] at hw
    have z4 := q4 fun m hm => hw m (.inr (.inr (.inr (.inr (.inl hm)))))
    refine ⟨⟨i64_of (q0 fun m hm => hw m (.inl hm)), i64_of (q1 fun m hm => hw m (.inr (.inl hm))), i64_of (q2 fun m hm => hw m (.inr (.inr (.inl hm)))), i64_of (q3 fun m hm => hw m (.inr (.inr (.inr (.inl hm))))), fun c hc => i32_of (z4.2 c hc)⟩, ?_, ?_⟩
    · have := z4.1
      unfold reachBytes at this
      show b4.length ≤ _
      omega
    · have := q7 fun m hm => hw m (.inr (.inr (.inr (.inr (.inr (.inr (.inr hm)))))))
      simpa [Lit.wf] using this
theorem arg_recs {H : Type} {enc : TypeId × Value → H} {W : World} {base : Nat} {spare : Nat → Bool} {held : Bool} {dd : DataW H} {ps : List MemPlace} {ts : List TypeId} {ds : List (DataW H)} {j : Nat}
    (hsz : (DataW.weightsEach Try.prog ts ds).all (· ≤ reachBytes) = true) (ht : ts[j]? = some 22) (hdd : ds[j]? = some dd) {a : Option Addr} {len cap : Nat} (h : DataW.Trod enc Try.prog W base spare held 22 (.slice a len cap) dd ps) :
    ∃ l : List Rec, VR W (All W) (.sl 8 (recs l)) (.slice a len cap) ∧ l.length < 9223372036854775808 ∧ (∀ r ∈ l, r.ok) ∧ (∀ r ∈ l, r.to.length ≤ 35184372088832) ∧ ∀ r ∈ l, r.weight < 18446744073709551616 := by
  obtain ⟨fuel, hf⟩ := h
  obtain ⟨l, -, hv, hq⟩ := (dv_slice (B := 96) Try.underlying22 (by kernel_rfl) (by decide) (by kernel_rfl) dv_rec).2 hf
  have z := hq fun n hn => by
    have z := List.all_eq_true.1 hsz _ (DataW.weights_mem_each ht hdd n hn)
    simpa using z
  have z1 := z.1
  unfold reachBytes at z1
  refine ⟨l, hv 0 (by decide), by omega, fun r hr => (z.2 r hr).1, fun r hr => (z.2 r hr).2.1, fun r hr => (z.2 r hr).2.2⟩
theorem hr_nil (ι : Nat → Loc) (w : World) : HR ι (All w) [] w := by
  have nope : ∀ id, ¬ Owned ι [] id := fun id ho => by unfold Owned at ho; simp [LH.get] at ho
  exact ⟨fun id cs hg => by simp [LH.get] at hg, fun id e xs hg => by simp [LH.get] at hg, fun id e xs hg => by simp [LH.get] at hg, fun i j hi => absurd hi (nope _), fun i hi => absurd hi (nope _), fun i hi => absurd hi (nope _), fun b hb => hb⟩
theorem calls2 {P : Program} {f : FuncId} {x y : CV} (h : CW P f [.cv x, .cv y] ⟨[.cv (.bool true)], []⟩) {w : World} {u v : Value} (hu : VR w (All w) x u) (hv : VR w (All w) y v) :
    Calls P f #[u, v] w fun e w' => e = .returned (.bool true) ∧ Below w.heap.size w w' := by
  refine (h.2.2 (fun _ => ⟨0, 0, 0, true⟩) (All w) w [u, v] rfl (fun j hj => ?_) (hr_nil _ w)).mono fun e w' hp => ?_
  · match j, hj with
    | 0, _ => exact .c _ _ hu
    | 1, _ => exact .c _ _ hv
  · obtain ⟨r, ι', S', rfl, r1, r2, r3, r4, r5, r6, r7⟩ := hp
    have e1 := avr_bool (v := .c (.bool true)) r1
    exact ⟨by rw [e1], r7.below fun b ⟨id, ho, _⟩ => ho⟩
end Go.Proofs.Ytcpdnpaedkcebaa.V
namespace Go.Proofs.Ytcpdnpaedkcebaa.V
open Go Go.RowKit
set_option linter.unusedVariables false
set_option linter.unusedSimpArgs false
set_option maxRecDepth 100000
theorem u8_wf {n : Int} (h : (Lit.int .u8 n).wf = true) : 0 ≤ n ∧ n < 256 := by
  simp [Lit.wf, IntKind.min, IntKind.max, IntKind.bits, IntKind.signed] at h
  omega
theorem arg_bytes {H : Type} {enc : TypeId × Value → H} {W : World} {base : Nat} {spare : Nat → Bool} {held : Bool} {dd : DataW H} {ps : List MemPlace} {ts : List TypeId} {ds : List (DataW H)} {j : Nat}
    (hsz : (DataW.weightsEach Try.prog ts ds).all (· ≤ reachBytes) = true) (ht : ts[j]? = some 52) (hdd : ds[j]? = some dd) {a : Option Addr} {len cap : Nat} (h : DataW.Trod enc Try.prog W base spare held 52 (.slice a len cap) dd ps) :
    ∃ l : List UInt8, VR W (All W) (.sl 1 (bys l)) (.slice a len cap) ∧ l.length < 1000000000000000 := by
  obtain ⟨fuel, hf⟩ := h
  obtain ⟨l, -, hv, hq⟩ := (dv_slice (B := 1) Try.underlying52 (by kernel_rfl) (by decide) (by kernel_rfl) (dv_int Try.underlying5)).2 hf
  have z := hq fun n hn => by
    have z := List.all_eq_true.1 hsz _ (DataW.weights_mem_each ht hdd n hn)
    simpa using z
  have z1 := z.1
  unfold reachBytes at z1
  refine ⟨l.map by8, ?_, by rw [List.length_map]; omega⟩
  have e : bys (l.map by8) = l.map (CV.int .u8) := by
    unfold bys
    rw [List.map_map]
    refine List.map_congr_left fun c hc => ?_
    have := u8_wf (z.2 c hc)
    exact (u8_of this.1 this.2).symm
  rw [e]
  exact hv 0 (by decide)
end Go.Proofs.Ytcpdnpaedkcebaa.V
