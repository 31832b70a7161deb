/- Contracts: canon's walk down, that returns or gives up. -/
import Derived.Test.YtcpdnpaedkcebaaXe
namespace Go.Proofs.Ytcpdnpaedkcebaa.V
open Go Go.RowKit
set_option linter.unusedVariables false
set_option linter.unusedSimpArgs false
set_option maxRecDepth 100000
/- (*endonym/canon.walk).down -/
def l48_0 : IC := (.seq (.reg [⟨(some 41), 0, none, .bin .lss (.t 40) (.t 39)⟩]) (.seq (.cond (.t 41) .skip (.exit 0)) (.seq (.block 1 (.seq (.reg [⟨(some 42), 0, none, .ia (.t 38) (.t 40) 1⟩,
  ⟨(some 43), 0, none, .ld (.t 42) none⟩,
  ⟨(some 6), 0, none, .mv (.t 43)⟩]) (.seq (.reg [⟨(some 44), 0, none, .mv (.t 6)⟩,
  ⟨(some 45), 0, none, .mv (.t 1)⟩,
  ⟨(some 46), 0, none, .bin .eql (.t 44) (.t 45)⟩]) (.cond (.t 46) (.pan 33 .i64 72) .skip)))) (.reg [⟨(some 48), 0, none, .bin .add (.t 40) (.c (.int .i64 1))⟩,
  ⟨(some 40), 0, none, .mv (.t 48)⟩]))))
def l48_1 : IC := (.seq (.reg [⟨(some 69), 0, none, .bin .lss (.t 68) (.t 67)⟩]) (.seq (.cond (.t 69) .skip (.exit 2)) (.seq (.block 3 (.seq (.reg [⟨(some 70), 0, none, .ia (.t 66) (.t 68) 1⟩,
  ⟨(some 71), 0, none, .ld (.t 70) none⟩,
  ⟨(some 8), 0, none, .mv (.t 71)⟩]) (.regc [⟨(some 72), 0, none, .mv (.t 0)⟩, ⟨(some 73), 0, none, .mv (.t 8)⟩] (some 74) 15 (.c (.fn 48)) [((.t 72), .ptr [none, some 1, some 1]), ((.t 73), .plain)]))) (.reg [⟨(some 75), 0, none, .bin .add (.t 68) (.c (.int .i64 1))⟩,
  ⟨(some 68), 0, none, .mv (.t 75)⟩]))))
def n48_1 : Norm := ⟨[(0, .plain), (66, .own 1 1000066), (67, .plain), (68, .plain)], [(3000000, [.plain, .own 1 1000101, .own 1 1000102])]⟩
def b48 : IC := (.seq (.reg [⟨(some 9), 0, none, .mv (.t 0)⟩,
  ⟨(some 10), 0, none, .nck (.t 9)⟩,
  ⟨(some 11), 0, none, .fa (.t 10) 0⟩,
  ⟨(some 12), 0, none, .ld (.t 11) none⟩,
  ⟨(some 13), 0, none, .mv (.t 1)⟩,
  ⟨(some 14), 1, none, .call (.c (.fn 15)) [((.t 12), .view 8), ((.t 13), .plain)]⟩,
  ⟨(some 4), 0, none, .mv (.t 14)⟩]) (.seq (.seq (.reg [⟨(some 15), 0, none, .mv (.t 4)⟩,
  ⟨(some 16), 0, none, .len false (.t 15)⟩,
  ⟨(some 17), 0, none, .bin .eql (.t 16) (.c (.int .i64 0))⟩]) (.cond (.t 17) (.seq (.seq (.reg [⟨(some 18), 0, none, .mv (.t 0)⟩,
  ⟨(some 19), 0, none, .nck (.t 18)⟩,
  ⟨(some 20), 0, none, .fa (.t 19) 1⟩,
  ⟨(some 21), 0, none, .ld (.t 20) none⟩,
  ⟨(some 22), 0, none, .len false (.t 21)⟩,
  ⟨(some 23), 0, none, .bin .eql (.t 22) (.c (.int .i64 32))⟩]) (.cond (.t 23) (.pan 33 .i64 2) .skip)) (.seq (.reg [⟨(some 25), 0, none, .mv (.t 0)⟩,
  ⟨(some 26), 0, none, .mv (.t 0)⟩,
  ⟨(some 27), 0, none, .nck (.t 26)⟩,
  ⟨(some 28), 0, none, .fa (.t 27) 1⟩,
  ⟨(some 29), 0, none, .ld (.t 28) none⟩,
  ⟨(some 30), 0, none, .mv (.t 1)⟩,
  ⟨(some 31), 11, none, .bsl 1 [(.t 30)]⟩,
  ⟨(some 32), 12, none, .app (.t 29) (.t 31) 1 4 false⟩,
  ⟨(some 33), 0, none, .nck (.t 25)⟩,
  ⟨(some 34), 0, none, .fa (.t 33) 1⟩,
  ⟨none, 0, none, .st (.t 34) (.t 32) none⟩]) .ret)) .skip)) (.seq (.seq (.reg [⟨(some 35), 0, none, .mv (.t 0)⟩,
  ⟨(some 36), 0, none, .nck (.t 35)⟩,
  ⟨(some 37), 0, none, .fa (.t 36) 2⟩,
  ⟨(some 38), 0, none, .ld (.t 37) none⟩,
  ⟨(some 39), 0, none, .len false (.t 38)⟩,
  ⟨(some 40), 0, none, .mv (.c (.int .i64 0))⟩]) (.block 0 (.loop0 [0, 1, 4, 38, 39, 40] l48_0))) (.seq (.seq (.reg [⟨(some 49), 0, none, .mv (.t 0)⟩,
  ⟨(some 50), 0, none, .nck (.t 49)⟩,
  ⟨(some 51), 0, none, .fa (.t 50) 2⟩,
  ⟨(some 52), 0, none, .ld (.t 51) none⟩,
  ⟨(some 53), 0, none, .len false (.t 52)⟩,
  ⟨(some 54), 0, none, .bin .geq (.t 53) (.c (.int .i64 16))⟩]) (.cond (.t 54) (.pan 33 .i64 73) .skip)) (.seq (.reg [⟨(some 56), 0, none, .mv (.t 0)⟩,
  ⟨(some 57), 0, none, .mv (.t 0)⟩,
  ⟨(some 58), 0, none, .nck (.t 57)⟩,
  ⟨(some 59), 0, none, .fa (.t 58) 2⟩,
  ⟨(some 60), 0, none, .ld (.t 59) none⟩,
  ⟨(some 61), 0, none, .mv (.t 1)⟩,
  ⟨(some 62), 13, none, .bsl 1 [(.t 61)]⟩,
  ⟨(some 63), 14, none, .app (.t 60) (.t 62) 1 4 false⟩,
  ⟨(some 64), 0, none, .nck (.t 56)⟩,
  ⟨(some 65), 0, none, .fa (.t 64) 2⟩,
  ⟨none, 0, none, .st (.t 65) (.t 63) none⟩]) (.seq (.seq (.reg [⟨(some 66), 0, none, .mv (.t 4)⟩,
  ⟨(some 67), 0, none, .len false (.t 66)⟩,
  ⟨(some 68), 0, none, .mv (.c (.int .i64 0))⟩]) (.block 2 (.loop n48_1 l48_1))) (.trunc 0 2 25 (.draw (.take 0 ⟨(some 76), 0, none, .mv (.t 0)⟩ (.take 1 ⟨(some 77), 0, none, .mv (.t 0)⟩ (.take 2 ⟨(some 78), 0, none, .nck (.t 77)⟩ (.take 3 ⟨(some 79), 0, none, .fa (.t 78) 2⟩ (.take 4 ⟨(some 80), 0, none, .ld (.t 79) none⟩ (.take 5 ⟨(some 81), 0, none, .mv (.t 0)⟩ (.take 6 ⟨(some 82), 0, none, .nck (.t 81)⟩ (.take 7 ⟨(some 83), 0, none, .fa (.t 82) 2⟩ (.take 8 ⟨(some 84), 0, none, .ld (.t 83) none⟩ (.take 9 ⟨(some 85), 0, none, .len false (.t 84)⟩ (.take 10 ⟨(some 86), 0, none, .bin .sub (.t 85) (.c (.int .i64 1))⟩ (.take 11 ⟨(some 87), 0, none, .slc (.t 80) none (some (.t 86)) none 1⟩ (.take 12 ⟨(some 88), 0, none, .nck (.t 76)⟩ (.take 13 ⟨(some 89), 0, none, .fa (.t 88) 2⟩ (.br 14 ⟨none, 0, none, .st (.t 89) (.t 87) none⟩ [false, true, false, false, false, false, false, false, false, false, false, false, false, false] .done .no)))))))))))))))))))))))
def rs48 : List (Nat × Option Nat × Mode) := []
theorem chk48 : chkC Try.prog Try.f48.ntmps b48 (Try.f48.body.getD .skip) = true := by decide +kernel
theorem top48 {args : List Arg} {out : Out} (ha : args.length.ble Try.f48.ntmps = true) (h8 : args.length.ble 8 = true) (mss : List (List (Option Nat))) (hb : backOK args out.back)
    (hw : rnC Try.prog b48 (topQ rs48 args mss out) (slotsOf (argsAV argBase args 0) 0) (argsOb argBase args 0)) : CW Try.prog 48 args out :=
  CW.of Try.func48 rs48 mss (by decide +kernel) (by decide +kernel) (by decide +kernel) ha h8 chk48 hb hw

def walkObj (l : List Rec) (out path : List Int) : Arg := .obj [.cv (.sl 8 (recs l)), .own 1 (runes out), .own 1 (runes path)]
def DownEnd (l : List Rec) (c : Int) (out path x : List Int) (H : LH) : Prop := retW [] H [] [walkObj l out path, .cv (.int .i32 c)] [[none, some 1, some 1]] ⟨[], [[.cv (.sl 8 (recs l)), .own 1 (runes x), .own 1 (runes path)]]⟩
theorem downEnd {l : List Rec} {c : Int} {out path x : List Int} {H : LH} {i j : Nat} (hij : i ≠ j) (hi : i ≠ 3000000) (hj : j ≠ 3000000)
    (h1 : LH.get H 3000000 = some (.obj [.c (.sl 8 (recs l)), .osl i 0 x.length, .osl j 0 path.length])) (h2 : LH.get H i = some (.row 1 (runes x))) (h3 : LH.get H j = some (.row 1 (runes path))) : DownEnd l c out path x H := by
  unfold DownEnd retW
  have g2 : LH.get (LH.set H 3000000 .dead) i = some (.row 1 (runes x)) := by rw [LH.get_set, if_neg hi]; exact h2
  have g3 : LH.get (LH.set (LH.set H 3000000 .dead) i .dead) j = some (.row 1 (runes path)) := by rw [LH.get_set, if_neg (Ne.symm hij), LH.get_set, if_neg hj]; exact h3
  simp only [retVals, argsW, walkObj, backL, argBase, Nat.mul_zero, Nat.add_zero, h1, argW, List.length_cons, List.length_nil, cellsW, g2, g3, runes_len, ungW, true_and, List.append_nil, List.nil_append, backArgs, List.map_nil]
  exact ⟨by decide, by simp⟩
theorem w48 (l : List Rec) (hl : ∀ r ∈ l, r.ok) (hn : l.length < 9223372036854775808) (hto : ∀ r ∈ l, r.to.length ≤ 35184372088832) (n : Nat) (c : Int) (way out : List Int) (hc : i32ok c) (hw : way.length + n = 16) (ho : out.length ≤ 32)
    (ih : ∀ m, n = m + 1 → ∀ t o, i32ok t → o.length ≤ 32 → (∀ x, walkN l m t (way ++ [c]) o = .ok x → CW Try.prog 48 [walkObj l o (way ++ [c]), .cv (.int .i32 t)] ⟨[], [[.cv (.sl 8 (recs l)), .own 1 (runes x), .own 1 (runes (way ++ [c]))]]⟩) ∧
      ∀ e, walkN l m t (way ++ [c]) o = .error e → CWp Try.prog 48 [walkObj l o (way ++ [c]), .cv (.int .i32 t)] 33 .i64 e)
    (Q : Ex → Slots → LH → Prop) (hok : ∀ x, walkN l n c way out = .ok x → ∀ σ H, DownEnd l c out way x H → Q .norm σ H ∧ Q .ret σ H) (herr : ∀ e, walkN l n c way out = .error e → ∀ σ H, Q (.pan 33 .i64 e) σ H) :
    rnC Try.prog b48 Q [(0, .ref 3000000 0), (1, .c (.int .i32 c))] [(3000000, .obj [.c (.sl 8 (recs l)), .osl 3000002 0 (runes out).length, .osl 3000003 0 (runes way).length]), (3000002, .row 1 (runes out)), (3000003, .row 1 (runes way))] := by
  have hop : (openL l c).length ≤ 35184372088832 := by
    unfold openL
    split
    · simp
    · split
      · rename_i r hr; exact hto r (hit_mem hr)
      · simp
  have hoo : ∀ t ∈ openL l c, i32ok t := openL_ok hl hc
  unfold b48
  simp only [go_sem, ↓reduceIte, Nat.reduceEqDiff, Nat.reduceMul, Nat.reduceAdd, Nat.reduceDiv, Nat.reduceSub, Nat.reduceLT, Nat.reduceLeDiff, Int.reduceLE, Int.reduceLT, Int.reduceToNat, Int.reduceEq]
  refine callK_O 1 (runes (openL l c)) (fun _ => cw15 l c hl hn hto hc) (by simp only [go_sem, ↓reduceIte, Nat.reduceEqDiff, Nat.reduceMul, Nat.reduceAdd, Nat.reduceDiv, Nat.reduceSub, Nat.reduceLT, Nat.reduceLeDiff, Int.reduceLE, Int.reduceLT, Int.reduceToNat, Int.reduceEq]) rfl rfl ?_
  simp only [go_sem, ↓reduceIte, Nat.reduceEqDiff, Nat.reduceMul, Nat.reduceAdd, Nat.reduceDiv, Nat.reduceSub, Nat.reduceLT, Nat.reduceLeDiff, Int.reduceLE, Int.reduceLT, Int.reduceToNat, Int.reduceEq]
  repeat (refine ⟨by (first | omega | (intro h1 h2; exact ⟨h1, h2⟩) | (intro h1; omega) | (intro h1; exact h1) | trivial), ?_⟩)
  refine ⟨fun h0 => ⟨fun h1 => ?_, fun h1 => ?_⟩, fun h0 => ?_⟩
  · exact herr 2 (by rw [walkN_unfold, if_pos h0, if_pos (by omega)]) _ _
  · repeat (refine ⟨by (first | omega | (intro h1 h2; exact ⟨h1, h2⟩) | (intro h1; omega) | (intro h1; exact h1) | trivial), ?_⟩)
    refine (hok (out ++ [c]) (by rw [walkN_unfold, if_pos h0, if_neg (by omega)]) _ _ ?_).2
    exact downEnd (i := 768) (j := 3000003) (by decide) (by decide) (by decide) (by simp only [List.length_append]; rfl) (by simp only [LH.get, runes_take, runes_app]; rfl) rfl
  refine loopZR.by (α := Nat) (fun k => [(0, .ref 3000000 0), (1, .c (.int .i32 c)), (4, .osl 64 0 (openL l c).length), (38, .osl 3000003 0 way.length), (39, .c (.int .i64 way.length)), (40, .c (.int .i64 k))])
    (fun _ => [(3000000, .obj [.c (.sl 8 (recs l)), .osl 3000002 0 out.length, .osl 3000003 0 way.length]), (3000002, .row 1 (runes out)), (3000003, .row 1 (runes way)), (64, .row 1 (runes (openL l c)))]) (fun k => way.length - k)
    (fun k => k ≤ way.length ∧ (c ∈ way.drop k ↔ c ∈ way)) 0 ⟨Nat.zero_le _, by simp⟩ ?_ ?_
  · intro Z hZ
    simp only [go_sem, ↓reduceIte, Nat.reduceEqDiff, Nat.reduceMul, Nat.reduceAdd, Nat.reduceDiv, Nat.reduceSub, Nat.reduceLT, Nat.reduceLeDiff, Int.reduceLE, Int.reduceLT, Int.reduceToNat, Int.reduceEq]
    exact hZ
  intro k hk Z hZ
  unfold l48_0
  rcases Nat.lt_or_ge k way.length with hlt | hge
  · obtain ⟨p, e, hm, hd⟩ := runes_at hlt
    simp only [go_sem, ↓reduceIte, Nat.reduceEqDiff, Nat.reduceMul, Nat.reduceAdd, Nat.reduceDiv, Nat.reduceSub, Nat.reduceLT, Nat.reduceLeDiff, Int.reduceLE, Int.reduceLT, Int.reduceToNat, Int.reduceEq, e]
    refine ⟨fun _ => ?_, fun h => by omega⟩
    repeat (refine ⟨by (first | omega | (intro h1 h2; exact ⟨h1, h2⟩) | (intro h1; omega) | (intro h1; exact h1) | trivial), ?_⟩)
    rw [succ64 hlt (by omega)]
    refine ⟨fun h1 => ?_, fun h1 => ?_⟩
    · exact herr 72 (by rw [walkN_unfold, if_neg h0, if_pos (by rw [← h1]; exact hm)]) _ _
    · refine hZ (k + 1) ⟨hlt, ?_⟩ (by omega)
      rw [← hk.2, hd, List.mem_cons]
      exact ⟨.inr, fun h => h.resolve_left (Ne.symm h1)⟩
  have hway : ¬ c ∈ way := by rw [← hk.2, List.drop_eq_nil_of_le hge]; simp
  simp only [go_sem, ↓reduceIte, Nat.reduceEqDiff, Nat.reduceMul, Nat.reduceAdd, Nat.reduceDiv, Nat.reduceSub, Nat.reduceLT, Nat.reduceLeDiff, Int.reduceLE, Int.reduceLT, Int.reduceToNat, Int.reduceEq]
  refine ⟨fun h => by omega, fun _ => ?_⟩
  refine ⟨fun h16 => ?_, fun h16 => ?_⟩
  · have hn0 : n = 0 := by omega
    exact herr 73 (by rw [walkN_unfold, if_neg h0, if_neg hway, hn0]) _ _
  obtain ⟨m, rfl⟩ : ∃ m, n = m + 1 := ⟨n - 1, by omega⟩
  have e : walkN l (m + 1) c way out = (openL l c).foldlM (fun out t => walkN l m t (way ++ [c]) out) out := by rw [walkN_unfold, if_neg h0, if_neg hway]
  rw [e] at hok herr
  repeat (refine ⟨by (first | omega | (intro h1 h2; exact ⟨h1, h2⟩) | (intro h1; omega) | (intro h1; exact h1) | trivial), ?_⟩)
  clear hk hZ hge e
  have ht : List.take way.length (runes way) = runes way := runes_take way
  have hr : runes way ++ [CV.int .i32 c] = runes (way ++ [c]) := runes_app way c
  have hto2 : List.take out.length (runes out) = runes out := runes_take out
  refine loopR.by (α := Nat × List Int) (fun p => [(0, .ref 3000000 0), (66, .osl 1000066 0 (openL l c).length), (67, .c (.int .i64 (openL l c).length)), (68, .c (.int .i64 p.1))]) (fun p => [(1000066, .row 1 (runes (openL l c))), (3000000, .obj [.c (.sl 8 (recs l)), .osl 1000101 0 p.2.length, .osl 1000102 0 (way.length + 1)]), (1000101, .row 1 (runes p.2)), (1000102, .row 1 (runes (way ++ [c])))]) (fun p => (openL l c).length - p.1)
    (fun p => p.1 ≤ (openL l c).length ∧ p.2.length ≤ 32 ∧ ((openL l c).drop p.1).foldlM (fun out t => walkN l m t (way ++ [c]) out) p.2 = (openL l c).foldlM (fun out t => walkN l m t (way ++ [c]) out) out) (0, out) ⟨Nat.zero_le _, ho, rfl⟩ ?_ ?_
  · intro Z hZ
    simp only [go_sem, ↓reduceIte, Nat.reduceEqDiff, Nat.reduceMul, Nat.reduceAdd, Nat.reduceDiv, Nat.reduceSub, Nat.reduceLT, Nat.reduceLeDiff, Int.reduceLE, Int.reduceLT, Int.reduceToNat, Int.reduceEq, n48_1, ht, hr, hto2]
    exact ⟨by simp, hZ⟩
  intro p hk Z hZ
  obtain ⟨k, o⟩ := p
  obtain ⟨hk1, hk2, hk3⟩ := hk
  simp only at hk1 hk2 hk3
  unfold l48_1
  have htw : List.take (way.length + 1) (runes (way ++ [c])) = runes (way ++ [c]) := List.take_of_length_le (by simp [runes])
  have hlw : (way ++ [c]).length = way.length + 1 := by simp
  rcases Nat.lt_or_ge k (openL l c).length with hlt | hge
  · obtain ⟨t, e, hm, hd⟩ := runes_at hlt
    rw [hd, List.foldlM_cons] at hk3
    simp only [go_sem, ↓reduceIte, Nat.reduceEqDiff, Nat.reduceMul, Nat.reduceAdd, Nat.reduceDiv, Nat.reduceSub, Nat.reduceLT, Nat.reduceLeDiff, Int.reduceLE, Int.reduceLT, Int.reduceToNat, Int.reduceEq, n48_1, e, htw]
    refine ⟨fun _ => ⟨by omega, ?_⟩, fun h => by omega⟩
    obtain ⟨ih1, ih2⟩ := ih m rfl t o (hoo t hm) hk2
    cases hx : walkN l m t (way ++ [c]) o with
    | error er =>
      rw [hx] at hk3
      exact .inr ⟨by simp only [go_sem, ↓reduceIte, Nat.reduceEqDiff, Nat.reduceMul, Nat.reduceAdd, Nat.reduceDiv, Nat.reduceSub, Nat.reduceLT, Nat.reduceLeDiff, Int.reduceLE, Int.reduceLT, Int.reduceToNat, Int.reduceEq], 33, .i64, er, ih2 er hx, herr er hk3.symm _ _⟩
    | ok x =>
      have hl32 := walkN_len l m t _ o x hk2 hx
      rw [hx] at hk3
      left
      refine callK_i ⟨[], [[.cv (.sl 8 (recs l)), .own 1 (runes x), .own 1 (runes (way ++ [c]))]]⟩ (fun _ => ih1 x hx) ⟨by simp only [go_sem, ↓reduceIte, Nat.reduceEqDiff, Nat.reduceMul, Nat.reduceAdd, Nat.reduceDiv, Nat.reduceSub, Nat.reduceLT, Nat.reduceLeDiff, Int.reduceLE, Int.reduceLT, Int.reduceToNat, Int.reduceEq], .inl rfl, ⟨by simp only [go_sem, ↓reduceIte, Nat.reduceEqDiff, Nat.reduceMul, Nat.reduceAdd, Nat.reduceDiv, Nat.reduceSub, Nat.reduceLT, Nat.reduceLeDiff, Int.reduceLE, Int.reduceLT, Int.reduceToNat, Int.reduceEq], by simp, by simp, by simp⟩, ?_⟩
      simp only [go_sem, ↓reduceIte, Nat.reduceEqDiff, Nat.reduceMul, Nat.reduceAdd, Nat.reduceDiv, Nat.reduceSub, Nat.reduceLT, Nat.reduceLeDiff, Int.reduceLE, Int.reduceLT, Int.reduceToNat, Int.reduceEq, hlw]
      rw [succ64 hlt (by omega)]
      exact ⟨by simp, hZ (k + 1, x) ⟨hlt, hl32, hk3⟩ (by simp only; omega)⟩
  · simp only [go_sem, ↓reduceIte, Nat.reduceEqDiff, Nat.reduceMul, Nat.reduceAdd, Nat.reduceDiv, Nat.reduceSub, Nat.reduceLT, Nat.reduceLeDiff, Int.reduceLE, Int.reduceLT, Int.reduceToNat, Int.reduceEq, n48_1]
    refine ⟨fun h => by omega, fun _ => ?_⟩
    rw [List.drop_eq_nil_of_le hge] at hk3
    have hw1 : IntKind.i64.wrap (((way.length + 1 : Nat) : Int) - 1) = (way.length : Int) := by rw [wrap_i64]; omega
    rw [hw1]
    refine ⟨by omega, (hok o hk3.symm _ _ ?_).1⟩
    refine downEnd (i := 1000101) (j := 1600) (by decide) (by decide) (by decide) rfl rfl ?_
    have h1 : List.take ((way.length : Int).toNat - 0) (runes (way ++ [c])) = runes way := by simp [runes]
    rw [h1]; rfl
theorem cwDown (l : List Rec) (hl : ∀ r ∈ l, r.ok) (hn : l.length < 9223372036854775808) (hto : ∀ r ∈ l, r.to.length ≤ 35184372088832) : ∀ (n : Nat) (c : Int) (way out : List Int), i32ok c → way.length + n = 16 → out.length ≤ 32 →
    (∀ x, walkN l n c way out = .ok x → CW Try.prog 48 [walkObj l out way, .cv (.int .i32 c)] ⟨[], [[.cv (.sl 8 (recs l)), .own 1 (runes x), .own 1 (runes way)]]⟩) ∧
      ∀ e, walkN l n c way out = .error e → CWp Try.prog 48 [walkObj l out way, .cv (.int .i32 c)] 33 .i64 e := by
  intro n
  induction n with
  | zero =>
    intro c way out hc hw ho
    refine ⟨fun x hx => ?_, fun e he => ?_⟩
    · refine top48 rfl rfl [[none, some 1, some 1]] ⟨rfl, trivial⟩ (w48 l hl hn hto 0 c way out hc hw ho (fun m e => by cases e) _ (fun y hy σ H hd => ?_) (fun e he => by rw [hx] at he; cases he))
      rw [hx] at hy; cases hy
      exact ⟨hd, hd⟩
    · refine CWp.of Try.func48 (by decide +kernel) (by decide +kernel) rfl chk48 (w48 l hl hn hto 0 c way out hc hw ho (fun m e => by cases e) _ (fun y hy => by rw [he] at hy; cases hy) (fun e' he' σ H => ?_))
      rw [he] at he'; cases he'
      exact ⟨rfl, rfl, rfl⟩
  | succ n ih =>
    intro c way out hc hw ho
    have ih' : ∀ m, n + 1 = m + 1 → ∀ t o, i32ok t → o.length ≤ 32 → (∀ x, walkN l m t (way ++ [c]) o = .ok x → CW Try.prog 48 [walkObj l o (way ++ [c]), .cv (.int .i32 t)] ⟨[], [[.cv (.sl 8 (recs l)), .own 1 (runes x), .own 1 (runes (way ++ [c]))]]⟩) ∧
      ∀ e, walkN l m t (way ++ [c]) o = .error e → CWp Try.prog 48 [walkObj l o (way ++ [c]), .cv (.int .i32 t)] 33 .i64 e := fun m e t o ht ho' => by
      cases e
      exact ih t (way ++ [c]) o ht (by simp; omega) ho'
    refine ⟨fun x hx => ?_, fun e he => ?_⟩
    · refine top48 rfl rfl [[none, some 1, some 1]] ⟨rfl, trivial⟩ (w48 l hl hn hto (n + 1) c way out hc hw ho ih' _ (fun y hy σ H hd => ?_) (fun e he => by rw [hx] at he; cases he))
      rw [hx] at hy; cases hy
      exact ⟨hd, hd⟩
    · refine CWp.of Try.func48 (by decide +kernel) (by decide +kernel) rfl chk48 (w48 l hl hn hto (n + 1) c way out hc hw ho ih' _ (fun y hy => by rw [he] at hy; cases hy) (fun e' he' σ H => ?_))
      rw [he] at he'; cases he'
      exact ⟨rfl, rfl, rfl⟩
end Go.Proofs.Ytcpdnpaedkcebaa.V
