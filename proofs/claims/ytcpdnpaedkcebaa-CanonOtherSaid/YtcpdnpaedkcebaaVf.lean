/- A small calculus over the model, six: nil tests, slices of slices and strings, built values, strings of bytes. -/
import Derived.Test.YtcpdnpaedkcebaaVe
namespace Go.Proofs.Ytcpdnpaedkcebaa.V
open Go Go.RowKit
set_option linter.unusedVariables false
set_option linter.unusedSimpArgs false

section
variable {P : Program} {C : Ctx} {ι : Nat → Loc} {S : Nat → Prop} {σ : Slots} {H : LH} {a : Act} {w : World} {o : Oper} {K : AV → List (Nat × LObj) → Prop} {g : Prop} {u : Nat}

theorem res_nck (h : R C ι S σ H a w) {x : Operand} {x' : Opd} (ho : o.op = .nilCheck x) (h1 : chkOpd x x' = true)
    (hw : opW P g σ H u (.nck x') K) (hg : g) : Res P C σ H a w o K := by
  obtain ⟨v1, hv1, hk⟩ := ung hw hg (ev h h1)
  have fin : ∀ {ad : Addr}, a.eval x = .pointer (some ad) → K v1 [] → Res P C σ H a w o K := fun e hK =>
    Res.pure h (by simp only [execOp, ho, e]; rfl) hK (e ▸ hv1)
  split at hk
  · rename_i i p
    split at hk
    · rename_i cs hget
      exact fin (refOK_obj (avr_ref hv1) hget).2 hk
    · exact hk.elim
  · obtain ⟨b, p, e, _⟩ := avr_vptr hv1
    exact fin e hk
  · rename_i i j f
    split at hk
    · rename_i hget; exact fin (eptrOK_row (avr_eptr hv1) (.inl hget)).2.2 hk
    · rename_i hget; exact fin (eptrOK_row (avr_eptr hv1) (.inr hget)).2.2 hk
    · exact hk.elim
  · exact hk.elim

theorem run_isnil {t : TypeId} (hu : uSlice P t (fun _ => true) = true) (op : BinOp) (hop : op = .eql ∨ op = .neq) (ex ey : Operand) (p : Option Addr) (l c : Nat) :
    (do eqGuard op t ex ey (.slice p l c) (.slice none 0 0); binOp op t (.slice p l c) (.slice none 0 0) : Sem Value).run P w =
      .ok (.bool (if op = .eql then p.isNone else !p.isNone)) w := by
  unfold uSlice at hu
  split at hu
  · rename_i e hd
    have hq' : ∀ d, (Op.equalIn (d + 1) t (.slice p l c) (.slice none 0 0)).run P w = .ok p.isNone w := fun d => by
      cases p <;> simp [Op.equalIn, run_underlying hd, pure, Sem.run]
    have hq : (Op.equal t (.slice p l c) (.slice none 0 0)).run P w = .ok p.isNone w := hq' 9999
    rcases hop with rfl | rfl
    · simp [eqGuard, binOp, hq, pure, Sem.run]
    · simp [eqGuard, binOp, hq, pure, Sem.run]
  · cases hu

theorem res_isnil (h : R C ι S σ H a w) {x y : Operand} {x' : Opd} {op : BinOp} {neg : Bool} {t t2 : TypeId} (ho : o.op = .binOp op t x y t2) (h1 : chkOpd x x' = true)
    (h2 : chkOpd y (.c .nilsl) = true) (hop : op = if neg then .neq else .eql) (ht : uSlice P t (fun _ => true) = true)
    (hw : opW P g σ H u (.isnil x' neg) K) (hg : g) : Res P C σ H a w o K := by
  obtain ⟨v1, hv1, hk⟩ := ung hw hg (ev h h1)
  have ey : a.eval y = .slice none 0 0 := avr_nilsl (ev h h2)
  have hop' : op = .eql ∨ op = .neq := by cases neg <;> simp_all
  have fin : ∀ {p : Option Addr} {l c : Nat} {b : Bool}, a.eval x = .slice p l c → b = (if neg then !p.isNone else p.isNone) → K (.c (.bool b)) [] → Res P C σ H a w o K := by
    intro p l c b e hb hK
    refine Res.pure h (v := .bool b) ?_ hK (.c _ _ (.bool _))
    simp only [execOp, ho, e, ey]
    rw [hb]
    have := run_isnil (P := P) (w := w) ht op hop' x y p l c
    rw [runV this]
    cases neg <;> simp [hop]
  split at hk
  · exact fin (avr_nilsl hv1) (by cases neg <;> rfl) hk
  · rename_i e xs
    obtain ⟨hne, hk⟩ := hk
    obtain ⟨b, p, cap, e1, _⟩ := vr_sl_pos (avr_c hv1) (List.length_pos_iff.2 (hne hg))
    exact fin e1 (by cases neg <;> rfl) hk
  · rename_i i off len
    have hO := avr_osl hv1
    have key : ∀ (e : Nat) (xs : List CV), (LH.get H i = some (.row e xs) ∨ LH.get H i = some (.vrow e xs)) → ((g → len ≠ 0) ∧ K (.c (.bool neg)) []) → Res P C σ H a w o K := by
      rintro e xs hget ⟨hne, hk⟩
      obtain ⟨_, e1⟩ := sliceAt_pos (oslOK_row hO hget).2 (Nat.pos_of_ne_zero (hne hg))
      exact fin e1 (by cases neg <;> rfl) hk
    split at hk
    · rename_i hget; exact key _ _ (.inl hget) hk
    · rename_i hget; exact key _ _ (.inr hget) hk
    · exact hk.elim
  · exact hk.elim

/-- A bound that may be there or not. -/
def isBool (P : Program) (t : TypeId) : Bool :=
  match P.underlying t with
  | some .bool => true
  | _ => false
theorem res_beq (h : R C ι S σ H a w) {x y : Operand} {x' y' : Opd} {t t2 : TypeId} (ho : o.op = .binOp .eql t x y t2) (h1 : chkOpd x x' = true)
    (h2 : chkOpd y y' = true) (ht : isBool P t = true) (hw : opW P g σ H u (.beq x' y') K) (hg : g) : Res P C σ H a w o K := by
  obtain ⟨v1, hv1, hk⟩ := ung hw hg (ev h h1)
  obtain ⟨v2, hv2, hk⟩ := ung hk hg (ev h h2)
  split at hk
  · rename_i p q _
    have ex := avr_bool (v := .c (.bool p)) hv1
    have ey := avr_bool (v := .c (.bool q)) hv2
    refine Res.pure h (v := .bool (p == q)) ?_ hk (.c _ _ (.bool _))
    simp only [execOp, ho, ex, ey]
    refine runV ?_
    unfold isBool at ht
    split at ht
    · rename_i hd
      have hq' : ∀ d, (Op.equalIn (d + 1) t (.bool p) (.bool q)).run P w = .ok (p == q) w := fun d => by
        simp [Op.equalIn, run_underlying hd, pure, Sem.run]
      have hq : (Op.equal t (.bool p) (.bool q)).run P w = .ok (p == q) w := hq' 9999
      simp [eqGuard, binOp, hq, pure, Sem.run]
    · cases ht
  · exact hk.elim

def chkOptd : Option Operand → Option Opd → Bool
  | none, none => true
  | some x, some y => chkOpd x y
  | _, _ => false

theorem res_bne (h : R C ι S σ H a w) {x y : Operand} {x' y' : Opd} {t t2 : TypeId} (ho : o.op = .binOp .neq t x y t2) (h1 : chkOpd x x' = true)
    (h2 : chkOpd y y' = true) (ht : isBool P t = true) (hw : opW P g σ H u (.bne x' y') K) (hg : g) : Res P C σ H a w o K := by
  obtain ⟨v1, hv1, hk⟩ := ung hw hg (ev h h1)
  obtain ⟨v2, hv2, hk⟩ := ung hk hg (ev h h2)
  split at hk
  · rename_i p q _
    have ex := avr_bool (v := .c (.bool p)) hv1
    have ey := avr_bool (v := .c (.bool q)) hv2
    refine Res.pure h (v := .bool (p != q)) ?_ hk (.c _ _ (.bool _))
    simp only [execOp, ho, ex, ey]
    refine runV ?_
    unfold isBool at ht
    split at ht
    · rename_i hd
      have hq' : ∀ d, (Op.equalIn (d + 1) t (.bool p) (.bool q)).run P w = .ok (p == q) w := fun d => by
        simp [Op.equalIn, run_underlying hd, pure, Sem.run]
      have hq : (Op.equal t (.bool p) (.bool q)).run P w = .ok (p == q) w := hq' 9999
      simp [eqGuard, binOp, hq, pure, Sem.run, bne]
    · cases ht
  · exact hk.elim

theorem optI_spec (h : R C ι S σ H a w) {x : Option Operand} {x' : Option Opd} (hc : chkOptd x x' = true) {F : Option Int → Prop} (hw : optI g σ x' F) (hg : g) :
    ∃ n, F n ∧ ((x = none ∧ n = none) ∨ ∃ y k m, x = some y ∧ n = some m ∧ a.eval y = .int k m) := by
  cases x' with
  | none =>
    cases x with
    | none => exact ⟨none, hw, .inl ⟨rfl, rfl⟩⟩
    | some _ => cases hc
  | some y =>
    cases x with
    | none => cases hc
    | some z =>
      obtain ⟨v1, hv1, hk⟩ := ung hw hg (ev h hc)
      split at hk
      · exact ⟨_, hk, .inr ⟨z, _, _, rfl, rfl, avr_int hv1⟩⟩
      · exact hk.elim

/-- What bounds come to, as the model reckons them. -/
theorem run_bounds {isS : Bool} {len cap : Nat} {lo hi mx : Option Value} {l h m : Option Int}
    (hl : (lo = none ∧ l = none) ∨ ∃ k n, lo = some (.int k n) ∧ l = some n) (hh : (hi = none ∧ h = none) ∨ ∃ k n, hi = some (.int k n) ∧ h = some n)
    (hm : (mx = none ∧ m = none) ∨ ∃ k n, mx = some (.int k n) ∧ m = some n) (hmh : m.isSome = true → h.isSome = true)
    (hb : 0 ≤ l.getD 0 ∧ l.getD 0 ≤ h.getD len ∧ h.getD len ≤ m.getD (h.getD len) ∧ h.getD len ≤ len ∧ m.getD len ≤ len) (hc : len ≤ cap) :
    (Instr.sliceBounds isS len cap lo hi mx).run P w = .ok ((l.getD 0).toNat, (h.getD len).toNat, (m.getD cap).toNat) w := by
  obtain ⟨b1, b2, b3, b4, b5⟩ := hb
  rcases hl with ⟨rfl, rfl⟩ | ⟨k, n, rfl, rfl⟩ <;> rcases hh with ⟨rfl, rfl⟩ | ⟨k2, n2, rfl, rfl⟩ <;> rcases hm with ⟨rfl, rfl⟩ | ⟨k3, n3, rfl, rfl⟩ <;>
    simp only [Option.getD_some, Option.getD_none] at b1 b2 b3 b4 b5 ⊢ <;>
    first
      | (have hx := hmh rfl; simp at hx; done)
      | (simp (disch := omega) [Instr.sliceBounds, run_sliceBound, pure, Sem.run])

theorem run_slice {t e : TypeId} {sz : Nat} (hu : P.underlying t = some (.slice e)) (hs : szOf P e = some sz) (p : Option Addr) (len cap : Nat) {lo hi mx : Option Value} {l h m : Nat}
    (hb : (Instr.sliceBounds true len cap lo hi mx).run P w = .ok (l, h, m) w) :
    (Instr.sliceAt t (.slice p len cap) lo hi mx).run P w = .ok (.slice (if m = l then p else p.map (·.add (l * sz))) (h - l) (m - l)) w := by
  unfold szOf at hs
  obtain ⟨inf, hinf, hs1⟩ := Option.map_eq_some_iff.1 hs
  simp [Instr.sliceAt, Instr.slice, run_underlying hu, hb, sizeOf, typeInfo, hinf, hs1, pure, Sem.run]

theorem opt_ev {x : Option Operand} {n : Option Int} (h : (x = none ∧ n = none) ∨ ∃ y k m, x = some y ∧ n = some m ∧ a.eval y = .int k m) :
    (x.map a.eval = none ∧ n = none) ∨ ∃ k m, x.map a.eval = some (.int k m) ∧ n = some m := by
  rcases h with ⟨rfl, rfl⟩ | ⟨y, k, m, rfl, rfl, e⟩
  · exact .inl ⟨rfl, rfl⟩
  · exact .inr ⟨k, m, by simp [e], rfl⟩

theorem boundsW_spec {len : Nat} {lo hi mx : Option Int} {F : Nat → Nat → Prop} (h : boundsW g len lo hi mx F) (hg : g) :
    (0 ≤ lo.getD 0 ∧ lo.getD 0 ≤ hi.getD len ∧ hi.getD len ≤ mx.getD (hi.getD len) ∧ hi.getD len ≤ len ∧ mx.getD len ≤ len) ∧ F (lo.getD 0).toNat (hi.getD len).toNat :=
  ⟨h.1 hg, h.2⟩

theorem vr_cut {e : Nat} {xs : List CV} {p : Option Addr} {cap l h m : Nat} (hv : VR w S (.sl e xs) (.slice p xs.length cap)) (hle : l ≤ h) (hh : h ≤ xs.length) (hm : h ≤ m) :
    VR w S (.sl e ((xs.drop l).take (h - l))) (.slice (if m = l then p else p.map (·.add (l * e))) (h - l) (m - l)) := by
  by_cases hz : h = l
  · subst hz
    simp only [Nat.sub_self, List.take_zero]
    by_cases hml : m = h
    · simp only [hml, Nat.sub_self, if_true]; exact .slnil _ _ _
    · generalize hq : Value.slice p xs.length cap = z at hv
      cases hv with
      | slnil =>
        injection hq with h1 h2 h3
        subst h1
        exact .slnil _ _ _
      | sl _ _ b o cap' us hcap hl hc hu =>
        injection hq with h1 h2 h3
        subst h1
        rw [if_neg hml]
        simp only [Option.map_some, addr_add]
        exact .sl e [] b _ _ us (by simp) (fun x hx => by cases hx) (fun i j hi => by simp at hi) (fun i j hi => by simp at hi)
  · generalize hq : Value.slice p xs.length cap = z at hv
    cases hv with
    | slnil => simp at hh; omega
    | sl _ _ b o cap' us hcap hl hc hu =>
      injection hq with h1 h2 h3
      subst h1
      subst h3
      have hml : m ≠ l := by omega
      rw [if_neg hml]
      simp only [Option.map_some, addr_add]
      have hlen : ((xs.drop l).take (h - l)).length = h - l := by simp; omega
      have key : VR w S (.sl e ((xs.drop l).take (h - l))) (.slice (some ⟨b, o + l * e, none⟩) ((xs.drop l).take (h - l)).length (m - l)) := by
        refine .sl e _ b _ _ (fun i j => us (l + i) j) (by rw [hlen]; omega) (fun x hx => hl x (List.mem_of_mem_drop (List.mem_of_mem_take hx))) (fun i j hi hj => ?_) (fun i j hi hj => ?_)
        · have := hc (l + i) j (by omega) hj
          refine ⟨this.1, ?_⟩
          rw [← this.2]
          congr 2
          rw [Nat.add_mul]; omega
        · have := hu (l + i) j (by omega) hj
          rw [getD_drop_take _ _ (by omega)]
          exact this
      rw [hlen] at key
      exact key

theorem sliceAt_cut {L : Loc} {e off len l h m : Nat} {p : Option Addr} {c : Nat} (hs : SliceAt L e off len (.slice p len c)) (hle : l ≤ h) (hh : h ≤ len) (hm : m = c) (hcc : len ≤ c) :
    SliceAt L e (off + l) (h - l) (.slice (if m = l then p else p.map (·.add (l * e))) (h - l) (m - l)) := by
  subst hm
  unfold SliceAt at hs ⊢
  split at hs
  · rename_i hn
    rw [if_pos hn]
    obtain ⟨rfl, h0, p', hp'⟩ := hs
    injection hp' with h1 h2 h3
    have : l = 0 := by omega
    have : h = 0 := by omega
    subst l; subst h; subst h3
    exact ⟨rfl, rfl, _, rfl⟩
  · rename_i hn
    rw [if_neg hn]
    rcases hs with hs | ⟨h0, p', hp'⟩
    · injection hs with h1 h2 h3
      by_cases hml : m = l
      · right
        have : h = l := by omega
        subst this
        rw [if_pos hml]
        exact ⟨Nat.sub_self _, p, by simp [hml]⟩
      · left
        rw [if_neg hml, h1]
        simp only [Option.map_some, addr_add]
        rw [h3, Nat.sub_sub, Nat.add_mul, Nat.add_assoc]
    · injection hp' with h1 h2 h3
      right
      have : l = 0 := by omega
      have : h = 0 := by omega
      subst l; subst h; subst h3
      exact ⟨rfl, _, rfl⟩

theorem sliceAt_cap {L : Loc} {e off len : Nat} {xs : List CV} {x : Value} (hs : SliceAt L e off len x) (hr : L.isnil = false → xs.length ≤ L.cap) (hle : off + len ≤ xs.length) :
    ∃ p c, x = .slice p len c ∧ len ≤ c := by
  unfold SliceAt at hs
  split at hs
  · obtain ⟨_, h0, p, rfl⟩ := hs; exact ⟨p, 0, by rw [h0], by omega⟩
  · rename_i hn
    have := hr (by simpa using hn)
    rcases hs with rfl | ⟨h0, p, rfl⟩
    · exact ⟨_, _, rfl, by omega⟩
    · exact ⟨p, 0, by rw [h0], by omega⟩

theorem row_cap (h : R C ι S σ H a w) {i e : Nat} {xs : List CV} (hget : LH.get H i = some (.row e xs) ∨ LH.get H i = some (.vrow e xs)) (hn : (ι i).isnil = false) : xs.length ≤ (ι i).cap := by
  rcases hget with hget | hget
  · have hr := h.hr.row _ _ _ hget
    unfold RowR at hr
    rw [if_neg (by simp [hn])] at hr
    exact hr.1
  · have hr := h.hr.vrow _ _ _ hget
    unfold VRowR at hr
    rw [if_neg (by simp [hn])] at hr
    generalize hz : Value.slice (some ⟨(ι i).block, (ι i).off, none⟩) xs.length (ι i).cap = z at hr
    cases hr with
    | slnil => simp
    | sl _ _ b p cap us h1 => 
      injection hz with _ _ hz3
      omega

theorem vr_len {e : Nat} {xs : List CV} {x : Value} (hv : VR w S (.sl e xs) x) : ∃ p c, x = .slice p xs.length c ∧ xs.length ≤ c := by
  cases hv with
  | slnil _ p c => exact ⟨p, c, rfl, by simp⟩
  | sl _ _ b o cap us hcap => exact ⟨_, _, rfl, hcap⟩

theorem res_slc (h : R C ι S σ H a w) {x : Operand} {lo hi mx : Option Operand} {x' : Opd} {lo' hi' mx' : Option Opd} {t e : TypeId} {sz : Nat} (ho : o.op = .slice t x lo hi mx)
    (h1 : chkOpd x x' = true) (hl : chkOptd lo lo' = true) (hh : chkOptd hi hi' = true) (hm : chkOptd mx mx' = true) (hmh : mx.isSome = true → hi.isSome = true)
    (hu : P.underlying t = some (.slice e)) (hs : szOf P e = some sz)
    (hw : opW P g σ H u (.slc x' lo' hi' mx' sz) K) (hg : g) : Res P C σ H a w o K := by
  obtain ⟨v1, hv1, hk1⟩ := ung hw hg (ev h h1)
  obtain ⟨nl, hk2, el⟩ := optI_spec h hl hk1 hg
  obtain ⟨nh, hk3, eh⟩ := optI_spec h hh hk2 hg
  obtain ⟨nm, hk, em⟩ := optI_spec h hm hk3 hg
  clear hk1 hk2 hk3 hw
  have hmh' : nm.isSome = true → nh.isSome = true := by
    intro hs
    rcases em with ⟨_, rfl⟩ | ⟨y, k, m, rfl, rfl, _⟩
    · cases hs
    · rcases eh with ⟨rfl, _⟩ | ⟨_, _, _, rfl, rfl, _⟩
      · exact absurd (hmh rfl) (by simp)
      · rfl
  have run : ∀ {p : Option Addr} {len c : Nat}, a.eval x = .slice p len c → (0 ≤ nl.getD 0 ∧ nl.getD 0 ≤ nh.getD len ∧ nh.getD len ≤ nm.getD (nh.getD len) ∧ nh.getD len ≤ len ∧ nm.getD len ≤ len) → len ≤ c →
      (execOp a.eval o).run P w = .ok (.value (.slice (if (nm.getD c).toNat = (nl.getD 0).toNat then p else p.map (·.add ((nl.getD 0).toNat * sz))) ((nh.getD len).toNat - (nl.getD 0).toNat) ((nm.getD c).toNat - (nl.getD 0).toNat))) w := by
    intro p len c ex hb hc
    have hr := run_bounds (P := P) (w := w) (isS := true) (opt_ev el) (opt_ev eh) (opt_ev em) hmh' hb hc
    simp only [execOp, ho, ex]
    exact runV (run_slice hu hs p len c hr)
  split at hk
  · rename_i id off len
    have hO := avr_osl hv1
    have key : ∀ (e' : Nat) (xs : List CV), (LH.get H id = some (.row e' xs) ∨ LH.get H id = some (.vrow e' xs)) → (e' = sz ∧ nm = none ∧ boundsW g len nl nh nm fun l h => K (.osl id (off + l) (h - l)) []) → Res P C σ H a w o K := by
      rintro e' xs hget ⟨rfl, hnm, hk⟩
      subst hnm
      obtain ⟨hb, hk⟩ := boundsW_spec hk hg
      obtain ⟨hle, hsl⟩ := oslOK_row hO hget
      obtain ⟨p, c, ex, hc⟩ := sliceAt_cap hsl (row_cap h hget) hle
      rw [ex] at hsl
      refine Res.pure h (run ex hb hc) hk (.osl _ _ _ _ ?_)
      have hcut := sliceAt_cut (l := (nl.getD 0).toNat) (h := (nh.getD len).toNat) (m := c) hsl (by omega) (by omega) rfl hc
      simp only [Option.getD_none, Int.toNat_natCast]
      unfold OslOK
      rcases hget with hget | hget <;> (rw [hget]; exact ⟨by omega, hcut⟩)
    split at hk
    · rename_i hget; exact key _ _ (.inl hget) hk
    · rename_i hget; exact key _ _ (.inr hget) hk
    · exact hk.elim
  · rename_i e' xs
    obtain ⟨rfl, hk⟩ := hk
    obtain ⟨hb, hk⟩ := boundsW_spec hk hg
    have hv := avr_c hv1
    obtain ⟨p, c, ex, hc⟩ := vr_len hv
    rw [ex] at hv
    have hmc : nh.getD xs.length ≤ nm.getD c := by
      cases nm with
      | none => simp only [Option.getD_none] at hb ⊢; omega
      | some m => simp only [Option.getD_some] at hb ⊢; omega
    refine Res.pure h (run ex hb hc) hk (.c _ _ (vr_cut hv (by omega) (by omega) (by omega)))
  · obtain ⟨hb, hk⟩ := boundsW_spec hk hg
    have ex := avr_nilsl hv1
    refine Res.pure h (run ex hb (Nat.le_refl _)) hk (.c _ _ ?_)
    have h1 : (nl.getD 0).toNat = 0 := by simp only [Int.natCast_zero] at hb; omega
    have h2 : (nh.getD ((0 : Nat) : Int)).toNat = 0 := by simp only [Int.natCast_zero] at hb ⊢; omega
    have h3 : (nm.getD ((0 : Nat) : Int)).toNat = 0 := by
      cases nm with
      | none => rfl
      | some m => simp only [Option.getD_some, Int.natCast_zero] at hb ⊢; omega
    rw [h1, h2, h3]
    exact .nilsl
  · exact hk.elim

theorem run_ssl {t : TypeId} (hu : P.underlying t = some .string) (s : ByteArray) {lo hi : Option Value} {l h m : Nat}
    (hb : (Instr.sliceBounds false s.size s.size lo hi none).run P w = .ok (l, h, m) w) :
    (Instr.sliceAt t (.string s) lo hi none).run P w = .ok (.string (s.extract l h)) w := by
  simp [Instr.sliceAt, Instr.slice, run_underlying hu, hb, pure, Sem.run]

theorem res_ssl (h : R C ι S σ H a w) {x : Operand} {lo hi : Option Operand} {x' : Opd} {lo' hi' : Option Opd} {t : TypeId} (ho : o.op = .slice t x lo hi none)
    (h1 : chkOpd x x' = true) (hl : chkOptd lo lo' = true) (hh : chkOptd hi hi' = true) (hu : P.underlying t = some .string)
    (hw : opW P g σ H u (.ssl x' lo' hi') K) (hg : g) : Res P C σ H a w o K := by
  obtain ⟨v1, hv1, hk1⟩ := ung hw hg (ev h h1)
  obtain ⟨nl, hk2, el⟩ := optI_spec h hl hk1 hg
  obtain ⟨nh, hk, eh⟩ := optI_spec h hh hk2 hg
  clear hk1 hk2 hw
  split at hk
  · obtain ⟨hb, hk⟩ := boundsW_spec hk hg
    have ex := avr_str hv1
    refine Res.pure h ?_ hk (.c _ _ (.str _))
    have hr := run_bounds (P := P) (w := w) (isS := false) (mx := none) (m := none) (opt_ev el) (opt_ev eh) (.inl ⟨rfl, rfl⟩) (by simp) hb (Nat.le_refl _)
    simp only [execOp, ho, ex, Option.map_none]
    exact runV (run_ssl hu _ hr)
  · exact hk.elim

theorem constOK_vr {v : Value} {c : CV} (hc : constOK v c = true) : VR w S c v := by
  unfold constOK at hc
  split at hc
  · simp at hc; subst hc; exact .bool _
  · simp at hc; obtain ⟨rfl, rfl⟩ := hc; exact .int _ _
  · simp at hc; subst hc; exact .flt _
  · rename_i s t
    obtain ⟨s⟩ := s
    obtain ⟨t⟩ := t
    simp at hc; subst hc; exact .str _
  · exact .nilsl
  · exact .slnil _ _ _
  · exact .nilfn
  · cases hc
theorem constOK_one {v : Value} {c : CV} (hc : constOK v c = true) : c.one = true := by
  unfold constOK at hc
  split at hc <;> first | rfl | cases hc

def zerosOK : List Value → List CV → Bool
  | [], [] => true
  | v :: l, c :: l' => constOK v c && zerosOK l l'
  | _, _ => false
theorem zerosOK_spec : ∀ (l : List Value) (z : List CV), zerosOK l z = true → l.length = z.length ∧ (∀ i, i < z.length → VR w S (z.getD i .undef) (l.getD i Go.undef)) ∧ ∀ c ∈ z, c.one = true
  | [], [], _ => ⟨rfl, fun i hi => by simp at hi, fun c hc => by cases hc⟩
  | v :: l, c :: z, h => by
    simp only [zerosOK, Bool.and_eq_true] at h
    obtain ⟨h1, h2, h3⟩ := zerosOK_spec l z h.2
    refine ⟨by simp [h1], fun i hi => ?_, fun x hx => ?_⟩
    · cases i with
      | zero => exact constOK_vr h.1
      | succ i => exact h2 i (by simpa using hi)
    · rcases List.mem_cons.1 hx with rfl | hx
      · exact constOK_one h.1
      · exact h3 x hx
  | [], _ :: _, h => by cases h
  | _ :: _, [], h => by cases h

def partsOK (place : Nat → Option (Nat × Nat)) : List (Nat × Operand) → List (Nat × Opd) → Bool
  | [], [] => true
  | (i, x) :: l, (off, y) :: l' => (place i == some (off, 1)) && chkOpd x y && partsOK place l l'
  | _, _ => false

def chkBld (P : Program) (t : TypeId) (z : List CV) (ps : List (Nat × Operand)) (ps' : List (Nat × Opd)) : Bool :=
  match P.info? t, P.underlying t with
  | some it, some (.array _ e) =>
    match it.zero, P.info? e with
    | some zv, some ie => zerosOK zv.cells.toList z && partsOK (fun i => some (i * ie.size, ie.size)) ps ps'
    | _, _ => false
  | some it, some (.struct fields) =>
    match it.zero, fields.toList.mapM (fun f => (P.info? f.type).map fun i => (f.offset, i.size)) with
    | some zv, some places => zerosOK zv.cells.toList z && partsOK (places.toArray[·]?) ps ps'
    | _, _ => false
  | _, _ => false

theorem fill_spec (h : R C ι S σ H a w) (hg : g) {place : Nat → Option (Nat × Nat)} : ∀ (ps : List (Nat × Operand)) (ps' : List (Nat × Opd)) (z : List CV) (cells : Array Value) (F : List CV → Prop),
    partsOK place ps ps' = true → bldW σ g z ps' F → cells.size = z.length → (∀ i, i < z.length → VR w S (z.getD i .undef) (cells.getD i Go.undef)) →
    ∃ cs cells', F cs ∧ Instr.fill place cells (ps.map fun x => (x.1, a.eval x.2)) = some cells' ∧ cells'.size = cs.length ∧ ∀ i, i < cs.length → VR w S (cs.getD i .undef) (cells'.getD i Go.undef)
  | [], [], z, cells, F, _, hF, hs, hv => ⟨z, cells, hF, rfl, hs, hv⟩
  | (i, x) :: ps, (off, y) :: ps', z, cells, F, hp, hF, hs, hv => by
    simp only [partsOK, Bool.and_eq_true, beq_iff_eq] at hp
    obtain ⟨⟨hpl, hcx⟩, hrest⟩ := hp
    obtain ⟨v, hv1, hk⟩ := ung hF hg (ev h hcx)
    split at hk
    · rename_i v
      obtain ⟨⟨hlt, h1⟩, hk⟩ := hk
      obtain ⟨hcell, _⟩ := (avr_c hv1).oneCell h1
      obtain ⟨cs, cells', hF', hfill, hsz, hvv⟩ := fill_spec h hg ps ps' (z.set off v) (cells.setIfInBounds off (a.eval x)) F hrest hk (by simp [hs]) (fun j hj => by
        simp only [List.length_set] at hj
        by_cases e : j = off
        · subst e
          have : j < cells.size := by omega
          simp [hj, this, List.getD_eq_getElem?_getD]; exact avr_c hv1
        · have := hv j hj
          simpa [List.getD_eq_getElem?_getD, List.getElem?_set, Ne.symm e, Array.getD_eq_getD_getElem?, Array.getElem?_setIfInBounds_ne (Ne.symm e)] using this)
      refine ⟨cs, cells', hF', ?_, hsz, hvv⟩
      have hlt' : off < cells.size := by omega
      simp only [List.map_cons]
      unfold Instr.fill
      simp only [hpl, hcell]
      rw [if_neg (by simp; omega)]
      simpa using hfill
    · exact hk.elim

theorem res_bld (h : R C ι S σ H a w) {t : TypeId} {parts : Array (Nat × Operand)} {z : List CV} {ps' : List (Nat × Opd)} (ho : o.op = .build t parts) (hc : chkBld P t z parts.toList ps' = true)
    (hw : opW P g σ H u (.bld z ps') K) (hg : g) : Res P C σ H a w o K := by
  have fin : ∀ (place : Nat → Option (Nat × Nat)) (zv : Value), zerosOK zv.cells.toList z = true → partsOK place parts.toList ps' = true →
      (∀ l, P.built t l = Instr.fill place zv.cells l) → Res P C σ H a w o K := by
    intro place zv hz hp hb
    obtain ⟨z1, z2, _⟩ := zerosOK_spec (w := w) (S := S) _ _ hz
    obtain ⟨cs, cells', hK, hfill, hsz, hv⟩ := fill_spec h hg _ _ z zv.cells _ hp hw (by simpa using z1) (fun i hi => by
      have := z2 i hi
      simpa [List.getD_eq_getElem?_getD, Array.getD_eq_getD_getElem?] using this)
    refine Res.pure h (v := .agg cells') ?_ hK (.c _ _ (.agg cs cells' hsz hv))
    simp only [execOp, ho]
    refine runV (run_build w t _ cells' ?_)
    rw [hb, ← hfill]
    simp
  unfold chkBld at hc
  split at hc
  · rename_i it n e hit hu
    split at hc
    · rename_i zv ie hz hie
      simp only [Bool.and_eq_true] at hc
      exact fin _ zv hc.1 hc.2 (fun l => by simp [Program.built, hit, hu, hz, hie])
    · cases hc
  · rename_i it fields hit hu
    split at hc
    · rename_i zv places hz hpl
      simp only [Bool.and_eq_true] at hc
      exact fin _ zv hc.1 hc.2 (fun l => by simp only [Program.built, hit, hu, hz, hpl])
    · cases hc
  · cases hc

/-- What a slice's elements are, and where they lie. -/
theorem elems_spec (h : R C ι S σ H a w) {v : AV} {x : Value} {esz : Nat} {F : List CV → Prop} (hv : AVR ι H S w v x) (hw : elemsW H false esz v F) :
    ∃ xs, F xs ∧ ((xs = [] ∧ ∃ p c, x = .slice p 0 c) ∨ ∃ b o c, x = .slice (some ⟨b, o, none⟩) xs.length c ∧ (∀ y ∈ xs, y.wf esz) ∧
      ∀ i j, i < xs.length → j < esz → ∃ y, w.cell? ⟨b, o + (i * esz + j), none⟩ = some y ∧ VR w S ((xs.getD i .undef).cells.getD j .undef) y) := by
  unfold elemsW at hw
  split at hw
  · exact ⟨[], hw, .inl ⟨rfl, _, _, avr_nilsl hv⟩⟩
  · rename_i s xs
    obtain ⟨rfl, hw⟩ := hw
    refine ⟨xs, hw, ?_⟩
    have hv := avr_c hv
    by_cases hp : 0 < xs.length
    · obtain ⟨b, p, cap, e, _, hwf, hc⟩ := vr_sl_pos hv hp
      exact .inr ⟨b, p, cap, e, hwf, fun i j hi hj => let ⟨y, hy⟩ := hc i j hi hj; ⟨y, hy.2⟩⟩
    · have hx : xs = [] := List.eq_nil_of_length_eq_zero (by omega)
      obtain ⟨p, c, e, _⟩ := vr_len hv
      subst hx
      exact .inl ⟨rfl, p, c, e⟩
  · exact absurd hw.1.1 (by simp)
  · rename_i i off len
    have hO := avr_osl hv
    have key : ∀ (e : Nat) (xs : List CV), (LH.get H i = some (.row e xs) ∨ LH.get H i = some (.vrow e xs)) → (e = esz ∧ F ((xs.drop off).take len)) → ∃ ys, F ys ∧ ((ys = [] ∧ ∃ p c, x = .slice p 0 c) ∨ ∃ b o c, x = .slice (some ⟨b, o, none⟩) ys.length c ∧ (∀ y ∈ ys, y.wf esz) ∧
      ∀ i j, i < ys.length → j < esz → ∃ y, w.cell? ⟨b, o + (i * esz + j), none⟩ = some y ∧ VR w S ((ys.getD i .undef).cells.getD j .undef) y) := by
      rintro e xs hget ⟨rfl, hF⟩
      obtain ⟨hle, hsl⟩ := oslOK_row hO hget
      have hlen : ((xs.drop off).take len).length = len := by simp; omega
      refine ⟨_, hF, ?_⟩
      by_cases hp : 0 < len
      · obtain ⟨hn, ex⟩ := sliceAt_pos hsl hp
        refine .inr ⟨(ι i).block, (ι i).off + off * e, _, by rw [hlen]; exact ex, ?_⟩
        have hcell : (∀ p q, p < xs.length → q < e → ∃ x, w.cell? ⟨(ι i).block, (ι i).off + (p * e + q), none⟩ = some x ∧ VR w S ((xs.getD p .undef).cells.getD q .undef) x) ∧ ∀ y ∈ xs, y.wf e := by
          rcases hget with hget | hget
          · have hr := h.hr.row _ _ _ hget
            unfold RowR at hr
            rw [if_neg (by simp [hn])] at hr
            exact ⟨fun p q hp hq => hr.2.2.2 p q hp hq, hr.2.1⟩
          · have hr := h.hr.vrow _ _ _ hget
            unfold VRowR at hr
            rw [if_neg (by simp [hn])] at hr
            generalize hz : Value.slice (some ⟨(ι i).block, (ι i).off, none⟩) xs.length (ι i).cap = z at hr
            obtain ⟨b, p, cap, e2, _, hwf, hc⟩ := vr_sl_pos hr (by omega)
            rw [e2] at hz
            injection hz with hz1 hz2 hz3
            injection hz1 with hz1
            injection hz1 with hb hp _
            subst hb; subst hp
            exact ⟨fun p q hp hq => let ⟨x, hx⟩ := hc p q hp hq; ⟨x, hx.2⟩, hwf⟩
        refine ⟨fun y hy => hcell.2 y (List.mem_of_mem_drop (List.mem_of_mem_take hy)), fun p q hp hq => ?_⟩
        obtain ⟨y, hy, hyv⟩ := hcell.1 (off + p) q (by omega) hq
        refine ⟨y, ?_, ?_⟩
        · rw [← hy]; congr 2; rw [Nat.add_mul]; omega
        · rw [getD_drop_take _ _ (by omega)]; exact hyv
      · have h0 : len = 0 := by omega
        subst h0
        obtain ⟨p, c, ex⟩ := sliceLen hsl
        exact .inl ⟨by simp, p, c, ex⟩
    split at hw
    · rename_i hget; exact key _ _ (.inl hget) hw
    · rename_i hget; exact key _ _ (.inr hget) hw
    · exact hw.elim
  · exact hw.elim

theorem u8_list : ∀ (xs : List CV), (∀ x ∈ xs, isU8 x) → ∃ ns : List Int, xs = ns.map (.int .u8)
  | [], _ => ⟨[], rfl⟩
  | x :: xs, h => by
    obtain ⟨ns, rfl⟩ := u8_list xs (fun y hy => h y (List.mem_cons_of_mem _ hy))
    have hx := h x List.mem_cons_self
    unfold isU8 at hx
    split at hx
    · rename_i n; exact ⟨n :: ns, rfl⟩
    · exact hx.elim

theorem foldl_push : ∀ (ns : List Int) (s : ByteArray), ns.foldl (fun r n => r.push (UInt8.ofNat n.toNat)) s = ⟨s.data ++ (ns.map fun n => UInt8.ofNat n.toNat).toArray⟩
  | [], s => by simp
  | n :: ns, s => by
    rw [List.foldl_cons, foldl_push ns]
    simp [ByteArray.push]

theorem mkStr_u8 (ns : List Int) : mkStr (ns.map (.int .u8)) = ns.foldl (fun r n => r.push (UInt8.ofNat n.toNat)) ByteArray.empty := by
  rw [foldl_push]
  simp only [mkStr, List.map_map]
  have e : ByteArray.empty.data = #[] := rfl
  rw [e, Array.empty_append]
  rfl

theorem res_b2s (h : R C ι S σ H a w) {x : Operand} {x' : Opd} {s d e : TypeId} (ho : o.op = .convert s d x) (h1 : chkOpd x x' = true)
    (hs : P.underlying s = some (.slice e)) (he : P.underlying e = some (.int .u8)) (hd : P.underlying d = some .string)
    (hw : opW P g σ H u (.b2s x') K) (hg : g) : Res P C σ H a w o K := by
  obtain ⟨v1, hv1, hk⟩ := ung hw hg (ev h h1)
  obtain ⟨xs, ⟨hu8, hK⟩, hx⟩ := elems_spec h hv1 hk
  refine Res.pure h ?_ hK (.c _ _ (.str _))
  obtain ⟨ns, rfl⟩ := u8_list xs hu8
  rcases hx with ⟨hnil, p, c, ex⟩ | ⟨b, q, c, ex, hwf, hc⟩
  · have hn : ns = [] := by cases ns with | nil => rfl | cons => simp at hnil
    subst hn
    simp only [execOp, ho, ex]
    refine runV ?_
    rw [run_convert_bytes_string w s d e p 0 c hs he hd]
    cases p with
    | none => simp [Conv.bytesToString, mkStr, pure, Sem.run]; rfl
    | some p =>
      have := run_bytesToString (P := P) w p 0 c [] (by simp [loadCells, loadCellsFrom, pure, Sem.run])
      rw [this]; rfl
  · simp only [execOp, ho, ex]
    refine runV ?_
    rw [run_convert_bytes_string w s d e _ _ c hs he hd, run_bytesToString (P := P) w ⟨b, q, none⟩ _ c ns ?_, mkStr_u8]
    have hl := run_loadCells_list (P := P) w ⟨b, q, none⟩ (ns.map (Value.int .u8)) (fun j v hv => by
      have hj : j < ns.length := by have := (List.getElem?_eq_some_iff.1 hv).1; simpa using this
      obtain ⟨y, hy, hyv⟩ := hc j 0 (by simpa using hj) (by omega)
      rw [addr_add]
      have e1 : q + j = q + (j * 1 + 0) := by omega
      rw [e1, hy]
      simp only [List.getElem?_map, List.getElem?_eq_getElem hj, Option.map_some, Option.some.injEq] at hv
      subst hv
      have : (((ns.map (CV.int .u8)).getD j .undef).cells.getD 0 .undef) = .int .u8 ns[j] := by
        simp [List.getD_eq_getElem?_getD, hj, CV.cells]
      rw [this] at hyv
      cases hyv; rfl)
    simpa using hl

end
end Go.Proofs.Ytcpdnpaedkcebaa.V
