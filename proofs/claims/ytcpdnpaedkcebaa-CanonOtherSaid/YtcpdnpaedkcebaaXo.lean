/- Contracts by hand: canon.Check as a whole. -/
import Derived.Test.YtcpdnpaedkcebaaXn
namespace Go.Proofs.Ytcpdnpaedkcebaa.V
open Go Go.RowKit
set_option linter.unusedVariables false
set_option linter.unusedSimpArgs false
set_option maxRecDepth 100000
theorem rightR_7 {r : Rec} (h : rightR r = 0) (h7 : r.kind = 7) : r.to.length = 2 := by
  unfold rightR at h
  rw [h7] at h
  simp [famK] at h
  have h := h.2
  unfold fitsR at h
  simp [h7] at h
  have h := h.2
  unfold soundR at h
  simp at h
  omega
theorem checkP_zero {l : List Rec} (h : (checkP l).2 = 0) : l.length ≤ 4096 ∧ ∀ r ∈ l, rightR r = 0 := by
  unfold checkP at h
  by_cases h4 : 4096 < l.length
  · rw [if_pos h4] at h; simp at h
  · rw [if_neg h4] at h
    refine ⟨by omega, ?_⟩
    cases hx : rightsP l 0 with
    | none => exact rightsP_none l 0 hx
    | some x =>
      rw [hx] at h
      exfalso
      have : ∀ (l : List Rec) (i : Int) (x : Int × Int), rightsP l i = some x → x.2 ≠ 0 := by
        intro l
        induction l with
        | nil => intro i x h; cases h
        | cons r l ih =>
          intro i x h
          unfold rightsP at h
          by_cases hr : rightR r ≠ 0
          · rw [if_pos hr] at h
            injection h with h
            subst h
            exact hr
          · rw [if_neg hr] at h
            exact ih _ _ h
      exact this l 0 x hx h
theorem cw26 (l : List Rec) (hl : ∀ r ∈ l, r.ok) (hto : ∀ r ∈ l, r.to.length ≤ 35184372088832) : CW Try.prog 26 [.cv (.sl 8 (recs l))] ⟨[.cv (.int .i64 (canonP l).1), .cv (.int .i64 (canonP l).2)], []⟩ := by
  refine CW.hand (c := codeOf Try.f26) rs26 [] Try.func26 (by kernel_rfl) (by decide +kernel) (by decide +kernel) (by show 1 ≤ _; rw [n26]; decide) (by show 1 ≤ 8; decide) trivial (fun C ι S a w hn hO' hR => ?_)
  have fin : ∀ {e : Exit} {ι1 : Nat → Loc} {S1 : Nat → Prop} {σ1 : Slots} {H1 : LH} {a1 : Act} {w1 : World} {p : Int × Int}, (e = .normal ∨ e = .ret) → p = canonP l → R C ι1 S1 σ1 H1 a1 w1 → Slots.get σ1 2 = .c (.int .i64 p.1) → Slots.get σ1 3 = .c (.int .i64 p.2) →
      (e = .normal ∨ e = .ret) ∧ ∃ ι' S' σ' H', R C ι' S' σ' H' a1 w1 ∧ retW σ' H' rs26 [.cv (.sl 8 (recs l))] [] ⟨[.cv (.int .i64 (canonP l).1), .cv (.int .i64 (canonP l).2)], []⟩ := by
    intro e ι1 S1 σ1 H1 a1 w1 p he hp h h2 h3
    subst hp
    exact ⟨he, ι1, S1, σ1, H1, h, ret2 rfl h2 h3⟩
  have hR : R C ι S [(0, .c (.sl 8 (recs l)))] [] a w := hR
  generalize hQ : (fun (e : Exit) (a1 : Act) (w1 : World) => (e = .normal ∨ e = .ret) ∧ ∃ ι' S' σ' H', R C ι' S' σ' H' a1 w1 ∧ retW σ' H' rs26 [.cv (.sl 8 (recs l))] [] ⟨[.cv (.int .i64 (canonP l).1), .cv (.int .i64 (canonP l).2)], []⟩) = Q
  have fin : ∀ {ι1 : Nat → Loc} {S1 : Nat → Prop} {σ1 : Slots} {H1 : LH} {a1 : Act} {w1 : World} {p : Int × Int}, p = canonP l → R C ι1 S1 σ1 H1 a1 w1 → Slots.get σ1 2 = .c (.int .i64 p.1) → Slots.get σ1 3 = .c (.int .i64 p.2) → Q .ret a1 w1 := by
    subst hQ; exact fun hp h h2 h3 => fin (.inr rfl) hp h h2 h3
  clear hQ
  rw [split26]
  refine wp_seq (code_sound (C := C) ya0 _ (by rw [hn]; exact chk_ya0) hR (rn_ok _ (fun _ _ _ h => h) (wya0 l (fun e σ H => e = .norm ∧ Has σ [(0, .c (.sl 8 (recs l)))] ∧ H = []) fun σ h => ⟨rfl, h, rfl⟩)) fun e ι1 S1 σ1 H1 a1 w1 hq h1 => ?_)
  obtain ⟨rfl, hs1, rfl⟩ := hq
  have h1 := R.weak h1 hs1
  refine wp_seq (code_sound (C := C) ya1 _ (by rw [hn]; exact chk_ya1) h1 (rn_ok _ (fun _ _ _ h => h) (wya1 l hl hto (fun e σ H => (e = .ret ∧ (checkP l).2 ≠ 0 ∧ Has σ [(2, .c (.int .i64 (checkP l).1)), (3, .c (.int .i64 (checkP l).2))]) ∨ (e = .norm ∧ (checkP l).2 = 0 ∧ Has σ [(0, .c (.sl 8 (recs l)))] ∧ H = [])) (fun h4 σ H h => .inl ⟨rfl, h4, h⟩) fun h4 σ h => .inr ⟨rfl, h4, h, rfl⟩)) fun e ι2 S2 σ2 H2 a2 w2 hq h2 => ?_)
  rcases hq with ⟨rfl, h4, hs2⟩ | ⟨rfl, h4, hs2, rfl⟩
  · exact fin (p := checkP l) (by unfold canonP; rw [if_pos h4]) h2 hs2.1 hs2.2.1
  have h2 := R.weak h2 hs2
  obtain ⟨hlen, hright⟩ := checkP_zero h4
  have ec : canonP l = match wrongsP l [] l 0 with | some x => x | none => if plainsP l abc.data.toList = true ∧ plainsP l digits.data.toList = true then (0, 0) else (l.length, 70) := by unfold canonP; rw [if_neg (by simpa using h4)]; cases wrongsP l [] l 0 <;> rfl
  refine wp_seq (rgn4 hn h2 fun m a4 w4 h6 F6 => ?_)
  refine wp_seq (wp_seq (code_sound (C := C.now w4 ι2 S2 []) ya5 _ (by show chkC _ C.n _ _ = true; rw [hn]; exact chk_ya5) h6.rebase (rn_ok _ (fun _ _ _ h => h) (wya5 l (.map (some m)) (fun e σ H => e = .norm ∧ Has σ (sA l (.map (some m)) 0) ∧ H = []) fun σ h => ⟨rfl, h, rfl⟩)) fun e ι7 S7 σ7 H7 a7 w7 hq h7 => ?_))
  obtain ⟨rfl, hs7, rfl⟩ := hq
  have F7 := F6.step h7
  have h7 := R.weak (R.unbase h6.base h7 no_ids0) hs7
  refine wp_block (LoopFrom.loop ?_)
  -- the letters
  have last : wrongsP l [] l 0 = none → ∀ (ι : Nat → Loc) (S : Nat → Prop) (a : Act) (w : World), R C ι S [(0, .c (.sl 8 (recs l)))] [] a w →
      Code.wp Try.prog (.seq (.seq (seqA (seqA (seqB (seqB (seqB (seqB (codeOf Try.f26))))))) (.block 2 (.loop (loopC (blkC (seqB (seqA (seqB (seqB (seqB (seqB (codeOf Try.f26)))))))))))) (seqB (seqB (seqB (seqB (seqB (codeOf Try.f26))))))) Q a w := by
    intro hw ι S a w hR
    rw [hw] at ec
    refine wp_seq (wp_seq (code_sound (C := C) ya17 _ (by rw [hn]; exact chk_ya17) hR (rn_ok _ (fun _ _ _ h => h) (wya17 l (fun e σ H => e = .norm ∧ Has σ (sS l 0) ∧ H = hS) fun σ h => ⟨rfl, h, rfl⟩)) fun e ι1 S1 σ1 H1 a1 w1 hq h1 => ?_))
    obtain ⟨rfl, hs1, rfl⟩ := hq
    have h1 := R.weak h1 hs1
    refine wp_block (LoopFrom.loop ?_)
    have main : ∀ (n k : Nat) (ι : Nat → Loc) (S : Nat → Prop) (a : Act) (w : World), 2 - k < n → k ≤ 2 → (∀ j, j < k → plainsP l (strK j).data.toList = true) → R C ι S (sS l k) hS a w →
        LoopFrom Try.prog (loopC (blkC (seqB (seqA (seqB (seqB (seqB (seqB (codeOf Try.f26))))))))) (Exit.inBlock 2 (Exit.then (Code.wp Try.prog (seqB (seqB (seqB (seqB (seqB (codeOf Try.f26)))))) Q) Q)) a w := by
      intro n
      induction n with
      | zero => intro k _ _ _ _ h; omega
      | succ n ih =>
        intro k ι S a w hkn hk hpl hR
        refine LoopFrom.round ?_
        rw [split26c]
        refine wp_seq (code_sound (C := C) ya18 _ (by rw [hn]; exact chk_ya18) hR (rn_ok _ (fun _ _ _ h => h) (wya18 l k (fun e σ H => e = .norm ∧ Has σ ((63, .c (.bool (decide ((k : Int) < 2)))) :: sS l k) ∧ H = hS) fun σ h => ⟨rfl, h, rfl⟩)) fun e ι1 S1 σ1 H1 a1 w1 hq h1 => ?_)
        obtain ⟨rfl, hs1, rfl⟩ := hq
        have h1 := R.weak h1 hs1
        refine wp_seq (code_sound (C := C) yacm _ (by rw [hn]; exact chk_yacm) h1 (rn_ok _ (fun _ _ _ h => h) (wyacm l k (fun e σ H => (e = .norm ∧ k < 2 ∧ Has σ (sS l k) ∧ H = hS) ∨ (e = .exit 2 ∧ 2 ≤ k ∧ Has σ (sS l k) ∧ H = hS)) (fun hi σ h => .inl ⟨rfl, hi, h, rfl⟩) fun hi σ h => .inr ⟨rfl, hi, h, rfl⟩)) fun e ι2 S2 σ2 H2 a2 w2 hq h2 => ?_)
        rcases hq with ⟨rfl, hlt, hs2, rfl⟩ | ⟨rfl, hge, hs2, rfl⟩
        rotate_left
        · have h2 := R.drop (l := []) h2 trivial
          show Code.wp Try.prog (seqB (seqB (seqB (seqB (seqB (codeOf Try.f26)))))) Q a2 w2
          refine code_sound (C := C) yae _ (by rw [hn]; exact chk_yae) h2 (rn_ok _ (fun _ _ _ h => h) (wyae (fun e σ H => e = .ret ∧ Has σ [(2, .c (.int .i64 0)), (3, .c (.int .i64 0))]) fun σ h => ⟨rfl, h⟩)) fun e ι3 S3 σ3 H3 a3 w3 hq h3 => ?_
          obtain ⟨rfl, hs3⟩ := hq
          refine fin (p := (0, 0)) ?_ h3 hs3.1 hs3.2.1
          rw [ec]
          exact (if_pos ⟨hpl 0 (by omega), hpl 1 (by omega)⟩).symm
        have h2 := R.weak h2 hs2
        refine wp_seq (wp_block (wp_seq (code_sound (C := C) ya19 _ (by rw [hn]; exact chk_ya19) h2 (rn_ok _ (fun _ _ _ h => h) (wya19 l k hlt (fun e σ H => e = .norm ∧ Has σ ((12, .c (.str (strK k))) :: sS l k) ∧ H = hS) fun σ h => ⟨rfl, h, rfl⟩)) fun e ι3 S3 σ3 H3 a3 w3 hq h3 => ?_)))
        obtain ⟨rfl, hs3, rfl⟩ := hq
        have h3 := R.weak h3 hs3
        refine wp_seq (rgn20 hn h3 fun it ι4 S4 a4 w4 h4 F4 => ?_)
        refine wp_block (LoopFrom.loop ?_)
        refine loop26 hl (by omega) hn (fun hp ι5 S5 a5 w5 h5 => ?_) (fun hp ι5 S5 a5 w5 h5 => ?_) _ 0 ι4 S4 a4 w4 (Nat.lt_succ_self _) (Nat.zero_le _) rfl h4 F4
        · show Code.wp Try.prog (seqB (seqB (seqB (loopC (blkC (seqB (seqA (seqB (seqB (seqB (seqB (codeOf Try.f26)))))))))))) _ a5 w5
          refine code_sound (C := C) ya26 _ (by rw [hn]; exact chk_ya26) h5 (rn_ok _ (fun _ _ _ h => h) (wya26 l k hlt (fun e σ H => e = .norm ∧ Has σ (sS l (k + 1)) ∧ H = hS) fun σ h => ⟨rfl, h, rfl⟩)) fun e ι6 S6 σ6 H6 a6 w6 hq h6 => ?_
          obtain ⟨rfl, hs6, rfl⟩ := hq
          refine ih (k + 1) ι6 S6 a6 w6 (by omega) hlt (fun j hj => ?_) (R.weak h6 hs6)
          rcases Nat.lt_or_ge j k with h | h
          · exact hpl j h
          · have : j = k := by omega
            rw [this]; exact hp
        · show Q .ret a5 w5
          refine fin (p := (l.length, 70)) ?_ h5 rfl rfl
          rw [ec]
          refine (if_neg ?_).symm
          rintro ⟨q0, q1⟩
          match k, hlt with
          | 0, _ => exact absurd (q0.symm.trans hp) (by simp)
          | 1, _ => exact absurd (q1.symm.trans hp) (by simp)
    exact main _ 0 ι1 S1 a1 w1 (Nat.lt_succ_self _) (by omega) (fun j hj => by omega) h1
  have main : ∀ (k i : Nat) (p : List (Int × Int)) (ι : Nat → Loc) (S : Nat → Prop) (a : Act) (w : World), l.length - i < k → i ≤ l.length → wrongsP l p (l.drop i) i = wrongsP l [] l 0 → R C ι S (sA l (.map (some m)) i) [] a w → Seen C ι S [] w m p →
      LoopFrom Try.prog (loopC (blkC (seqB (seqA (seqB (seqB (seqB (codeOf Try.f26)))))))) (Exit.inBlock 0 (Exit.then (Code.wp Try.prog (.seq (.seq (seqA (seqA (seqB (seqB (seqB (seqB (codeOf Try.f26))))))) (.block 2 (.loop (loopC (blkC (seqB (seqA (seqB (seqB (seqB (seqB (codeOf Try.f26)))))))))))) (seqB (seqB (seqB (seqB (seqB (codeOf Try.f26))))))) Q) Q)) a w := by
    intro k
    induction k with
    | zero => intro i _ _ _ _ _ h; omega
    | succ k ih =>
      intro i p ι S a w hk hi htw hR hF
      refine LoopFrom.round ?_
      rw [split26b]
      refine wp_seq (code_sound (C := C.now w ι S []) ya6 _ (by show chkC _ C.n _ _ = true; rw [hn]; exact chk_ya6) hR.rebase (rn_ok _ (fun _ _ _ h => h) (wya6 l (.map (some m)) i (fun e σ H => e = .norm ∧ Has σ ((29, .c (.bool (decide ((i : Int) < l.length)))) :: sA l (.map (some m)) i) ∧ H = []) fun σ h => ⟨rfl, h, rfl⟩)) fun e ι1 S1 σ1 H1 a1 w1 hq h1 => ?_)
      obtain ⟨rfl, hs1, rfl⟩ := hq
      have F1 := hF.step h1
      have h1 := R.weak (R.unbase hR.base h1 no_ids0) hs1
      refine wp_seq (code_sound (C := C.now w1 ι1 S1 []) yac _ (by show chkC _ C.n _ _ = true; rw [hn]; exact chk_yac) h1.rebase (rn_ok _ (fun _ _ _ h => h) (wyac l (.map (some m)) i (fun e σ H => (e = .norm ∧ i < l.length ∧ Has σ (sA l (.map (some m)) i) ∧ H = []) ∨ (e = .exit 0 ∧ l.length ≤ i ∧ Has σ (sA l (.map (some m)) i) ∧ H = [])) (fun hi σ h => .inl ⟨rfl, hi, h, rfl⟩) fun hi σ h => .inr ⟨rfl, hi, h, rfl⟩)) fun e ι2 S2 σ2 H2 a2 w2 hq h2 => ?_)
      rcases hq with ⟨rfl, hlt, hs2, rfl⟩ | ⟨rfl, hge, hs2, rfl⟩
      rotate_left
      · have h2 := R.weak (l := [(0, .c (.sl 8 (recs l)))]) (R.unbase h1.base h2 no_ids0) ⟨hs2.1, trivial⟩
        have : i = l.length := by omega
        rw [this, List.drop_length, wrongsP] at htw
        exact last htw.symm ι2 S2 a2 w2 h2
      have F2 := F1.step h2
      have h2 := R.weak (R.unbase h1.base h2 no_ids0) hs2
      obtain ⟨r, er, hm, hd⟩ := recs_at hlt
      rw [hd, wrongsP] at htw
      refine wp_seq (wp_block (wp_seq (code_sound (C := C.now w2 ι2 S2 []) ya7 _ (by show chkC _ C.n _ _ = true; rw [hn]; exact chk_ya7) h2.rebase (rn_ok _ (fun _ _ _ h => h) (wya7 l (.map (some m)) i r hlt er (fun e σ H => e = .norm ∧ Has σ (sB l (.map (some m)) i) ∧ H = [(704, robj r)]) fun σ h => ⟨rfl, h, rfl⟩)) fun e ι3 S3 σ3 H3 a3 w3 hq h3 => ?_)))
      obtain ⟨rfl, hs3, rfl⟩ := hq
      have F3 := F2.step h3
      have h3 := R.weak (R.unbase h2.base h3 no_idsA) hs3
      refine wp_seq (code_sound (C := C.now w3 ι3 S3 [(704, robj r)]) ya8 _ (by show chkC _ C.n _ _ = true; rw [hn]; exact chk_ya8) h3.rebase (rn_ok _ (fun _ _ _ h => h) (wya8 l (.map (some m)) i r hm (rightR_7 (hright r hm)) hl (by omega) hto (fun e σ H => (e = .ret ∧ wrongP l r ≠ 0 ∧ Has σ [(2, .c (.int .i64 i)), (3, .c (.int .i64 (wrongP l r)))]) ∨ (e = .norm ∧ wrongP l r = 0 ∧ Has σ (sB l (.map (some m)) i) ∧ H = [(704, robj r)])) (fun hi σ H h => .inl ⟨rfl, hi, h⟩) fun hi σ h => .inr ⟨rfl, hi, h, rfl⟩)) fun e ι4 S4 σ4 H4 a4 w4 hq h4 => ?_)
      rcases hq with ⟨rfl, hwr, hs4⟩ | ⟨rfl, hwr, hs4, rfl⟩
      · have h4 := R.unbase h3.base (R.drop (l := [(2, .int .i64 i), (3, .int .i64 (wrongP l r))]) h4 hs4) no_ids0
        show Q .ret a4 w4
        refine fin (p := (i, wrongP l r)) ?_ h4 rfl rfl
        rw [if_pos hwr] at htw
        rw [ec, ← htw]
      rw [if_neg (by simpa using hwr)] at htw
      have F4 := F3.step h4
      have h4 := R.weak (R.unbase h3.base h4 no_idsA) hs4
      refine wp_seq (code_sound (C := C.now w4 ι4 S4 [(704, robj r)]) ya11 _ (by show chkC _ C.n _ _ = true; rw [hn]; exact chk_ya11) h4.rebase (rn_ok _ (fun _ _ _ h => h) (wya11 l (.map (some m)) i r (fun e σ H => e = .norm ∧ Has σ ((42, .c (.bool (decide (r.kind = 7)))) :: sB l (.map (some m)) i) ∧ H = [(704, robj r)]) fun σ h => ⟨rfl, h, rfl⟩)) fun e ι5 S5 σ5 H5 a5 w5 hq h5 => ?_)
      obtain ⟨rfl, hs5, rfl⟩ := hq
      have F5 := F4.step h5
      have h5 := R.weak (R.unbase h4.base h5 no_idsA) hs5
      have next : ∀ (p : List (Int × Int)) (ι : Nat → Loc) (S : Nat → Prop) (a : Act) (w : World), wrongsP l p (l.drop (i + 1)) (i + 1 : Nat) = wrongsP l [] l 0 → R C ι S (sA l (.map (some m)) i) [] a w → Seen C ι S [] w m p →
          Code.wp Try.prog (seqB (seqB (seqB (loopC (blkC (seqB (seqA (seqB (seqB (seqB (codeOf Try.f26))))))))))) (fun e a w => match e with
            | .normal => LoopFrom Try.prog (loopC (blkC (seqB (seqA (seqB (seqB (seqB (codeOf Try.f26)))))))) (Exit.inBlock 0 (Exit.then (Code.wp Try.prog (.seq (.seq (seqA (seqA (seqB (seqB (seqB (seqB (codeOf Try.f26))))))) (.block 2 (.loop (loopC (blkC (seqB (seqA (seqB (seqB (seqB (seqB (codeOf Try.f26)))))))))))) (seqB (seqB (seqB (seqB (seqB (codeOf Try.f26))))))) Q) Q)) a w
            | e => (Exit.inBlock 0 (Exit.then (Code.wp Try.prog (.seq (.seq (seqA (seqA (seqB (seqB (seqB (seqB (codeOf Try.f26))))))) (.block 2 (.loop (loopC (blkC (seqB (seqA (seqB (seqB (seqB (seqB (codeOf Try.f26)))))))))))) (seqB (seqB (seqB (seqB (seqB (codeOf Try.f26))))))) Q) Q)) e a w) a w := by
        intro p ι S a w htw hR hF
        refine code_sound (C := C.now w ι S []) ya16 _ (by show chkC _ C.n _ _ = true; rw [hn]; exact chk_ya16) hR.rebase (rn_ok _ (fun _ _ _ h => h) (wya16 l (.map (some m)) i hlt (by omega) (fun e σ H => e = .norm ∧ Has σ (sA l (.map (some m)) (i + 1)) ∧ H = []) fun σ h => ⟨rfl, h, rfl⟩)) fun e ι9 S9 σ9 H9 a9 w9 hq h9 => ?_
        obtain ⟨rfl, hs9, rfl⟩ := hq
        exact ih (i + 1) p ι9 S9 a9 w9 (by omega) hlt htw (R.weak (R.unbase hR.base h9 no_ids0) hs9) (hF.step h9)
      rw [← split26b]
      refine wp_cond_split (t := decide (r.kind = 7)) ?_ (fun h7 => ?_) (fun h7 => ?_)
      · have := h5.sl 42
        exact avr_bool (v := .c (.bool (decide (r.kind = 7)))) this
      · have h7 : r.kind = 7 := by simpa using h7
        rw [if_pos h7] at htw
        obtain ⟨x, y, hxy⟩ : ∃ a b, r.to = [a, b] := by
          match ho : r.to, rightR_7 (hright r hm) h7 with
          | [a, b], _ => exact ⟨a, b, rfl⟩
        rw [hxy] at htw
        have h5 := R.weak (l := sB l (.map (some m)) i) h5 ⟨rfl, rfl, rfl, rfl, rfl, rfl, rfl, trivial⟩
        refine wp_seq (code_sound (C := C.now w5 ι5 S5 [(704, robj r)]) ya12 _ (by show chkC _ C.n _ _ = true; rw [hn]; exact chk_ya12) h5.rebase (rn_ok _ (fun _ _ _ h => h) (wya12 l (.map (some m)) i r x y hxy (fun e σ H => e = .norm ∧ Has σ (sC l (.map (some m)) i) ∧ H = hB r x y) fun σ h => ⟨rfl, h, rfl⟩)) fun e ι6 S6 σ6 H6 a6 w6 hq h6 => ?_)
        obtain ⟨rfl, hs6, rfl⟩ := hq
        have F6 := F5.step h6
        have h6 := R.weak (R.unbase h5.base h6 no_idsB) hs6
        refine wp_seq (wp_seq (rgn13 hn h6 F6 fun ι7 S7 a7 w7 h7 F7 => ?_))
        refine code_sound (C := C.now w7 ι7 S7 (hB r x y)) yat _ (by show chkC _ C.n _ _ = true; rw [hn]; exact chk_yat) h7.rebase (rn_ok _ (fun _ _ _ h => h) (wyat l (.map (some m)) i r x y _ (fun e σ H => (e = .ret ∧ (0 < (if (x, y) ∈ p then 1 else 0 : Int)) ∧ Has σ [(2, .c (.int .i64 i)), (3, .c (.int .i64 74))]) ∨ (e = .norm ∧ ¬ (0 < (if (x, y) ∈ p then 1 else 0 : Int)) ∧ Has σ (sC l (.map (some m)) i) ∧ H = hB r x y)) (fun hi σ H h => .inl ⟨rfl, hi, h⟩) fun hi σ h => .inr ⟨rfl, hi, h, rfl⟩)) fun e ι8 S8 σ8 H8 a8 w8 hq h8 => ?_
        rcases hq with ⟨rfl, hin, hs8⟩ | ⟨rfl, hin, hs8, rfl⟩
        · have hin : (x, y) ∈ p := by
            by_cases h : (x, y) ∈ p
            · exact h
            · rw [if_neg h] at hin; omega
          have h8 := R.unbase h7.base (R.drop (l := [(2, .int .i64 i), (3, .int .i64 74)]) h8 hs8) no_ids0
          show Q .ret a8 w8
          refine fin (p := (i, 74)) ?_ h8 rfl rfl
          simp only [if_pos hin] at htw
          rw [ec, ← htw]
        have hin : ¬ (x, y) ∈ p := fun h => by rw [if_pos h] at hin; omega
        simp only [if_neg hin] at htw
        have F8 := F7.step h8
        have h8 := R.weak (R.unbase h7.base h8 no_idsB) hs8
        refine rgn15 hn h8 F8 fun ι9 S9 a9 w9 h9 F9 => ?_
        exact next _ ι9 S9 a9 w9 htw h9 F9
      · have h7 : ¬ r.kind = 7 := by simpa using h7
        rw [if_neg h7] at htw
        refine wp_skip ?_
        exact next p ι5 S5 a5 w5 htw (R.drop (l := [(0, .sl 8 (recs l)), (6, .raw (.map (some m))), (26, .sl 8 (recs l)), (27, .int .i64 l.length), (28, .int .i64 i)]) h5 ⟨rfl, rfl, rfl, rfl, rfl, trivial⟩) F5.nil
  exact main _ 0 [] ι7 S7 a7 w7 (Nat.lt_succ_self _) (Nat.zero_le _) rfl h7 F7
end Go.Proofs.Ytcpdnpaedkcebaa.V
