/- Lists of ranges: the fewest that say what a function says, laid one behind the other. -/
import Derived.Test.YtiaodapgankjnaaQx0
import Derived.Test.YtiaodapgankjnaaQx4
import Derived.Test.YtiaodapgankjnaaWMore
namespace Go.Proofs.Ytiaodapgankjnaa.TrieRng
open Go Go.RowKit Go.Proofs.Ytiaodapgankjnaa.Q Go.Proofs.YtiaodapgankjnaaW.PrintWords Go.Proofs.YtiaodapgankjnaaW.PrintLast Go.Proofs.YtiaodapgankjnaaW.PrintMore
set_option linter.unusedVariables false

/-- One range laid behind others. -/
def put (d : Int) (o : List S35) (r : S35) : List S35 :=
  if r.f2 = d then o else
  match o.getLast? with
  | some q => if q.f2 = r.f2 ∧ q.f1 + 1 = r.f0 then o.dropLast ++ [⟨q.f0, r.f1, q.f2⟩] else o ++ [r]
  | none => o ++ [r]
theorem put_nil (d : Int) (r : S35) : put d [] r = if r.f2 = d then [] else [r] := rfl
theorem put_snoc (d : Int) (o : List S35) (q r : S35) : put d (o ++ [q]) r = if r.f2 = d then o ++ [q] else if q.f2 = r.f2 ∧ q.f1 + 1 = r.f0 then o ++ [⟨q.f0, r.f1, q.f2⟩] else o ++ [q] ++ [r] := by
  simp [put]
theorem put_def (d : Int) (o : List S35) (r : S35) (h : r.f2 = d) : put d o r = o := by simp [put, h]
theorem snoc_cases {α : Type} (o : List α) : o = [] ∨ ∃ t q, o = t ++ [q] := by
  cases h : o.reverse with
  | nil => left; simpa using h
  | cons q t => right; exact ⟨t.reverse, q, by have := congrArg List.reverse h; simpa using this⟩
theorem put_put (d : Int) (o : List S35) (lo hi h2 v : Int) : put d (put d o ⟨lo, hi, v⟩) ⟨hi + 1, h2, v⟩ = put d o ⟨lo, h2, v⟩ := by
  by_cases hv : v = d
  · rw [put_def _ _ _ hv, put_def _ _ _ hv, put_def _ _ _ hv]
  rcases snoc_cases o with rfl | ⟨t, q, rfl⟩
  · rw [put_nil, put_nil, if_neg hv, if_neg hv]
    have := put_snoc d [] ⟨lo, hi, v⟩ ⟨hi + 1, h2, v⟩
    rw [List.nil_append] at this
    rw [this, if_neg hv, if_pos ⟨rfl, rfl⟩]; rfl
  · rw [put_snoc, put_snoc, if_neg hv, if_neg hv]
    by_cases hq : q.f2 = v ∧ q.f1 + 1 = lo
    · rw [if_pos hq, if_pos hq, put_snoc, if_neg hv, if_pos ⟨hq.1, rfl⟩]
    · rw [if_neg hq, if_neg hq, put_snoc, if_neg hv, if_pos ⟨rfl, rfl⟩]
/-- The ranges of what f says from a on. -/
def scan (f : Int → Int) (d a : Int) : Nat → List S35 → List S35
  | 0, o => o
  | n + 1, o => put d (scan f d a n o) ⟨a + n, a + n, f (a + n)⟩
theorem scan_add (f : Int → Int) (d a : Int) (n : Nat) (o : List S35) : ∀ m : Nat, scan f d a (n + m) o = scan f d (a + n) m (scan f d a n o)
  | 0 => rfl
  | m + 1 => by
    rw [← Nat.add_assoc, scan, scan, scan_add f d a n o m]
    have e : a + ((n + m : Nat) : Int) = a + n + m := by push_cast; omega
    rw [e]
theorem scan_congr {f g : Int → Int} {d a : Int} {o : List S35} : ∀ {n : Nat}, (∀ j : Nat, j < n → f (a + j) = g (a + j)) → scan f d a n o = scan g d a n o
  | 0, _ => rfl
  | n + 1, h => by rw [scan, scan, scan_congr (fun j hj => h j (by omega)), h n (by omega)]
theorem scan_def {f : Int → Int} {d a : Int} {o : List S35} : ∀ {n : Nat}, (∀ j : Nat, j < n → f (a + j) = d) → scan f d a n o = o
  | 0, _ => rfl
  | n + 1, h => by rw [scan, scan_def (fun j hj => h j (by omega)), put_def _ _ _ (h n (by omega))]
theorem scan_const {f : Int → Int} {d a v : Int} {o : List S35} : ∀ {n : Nat}, (∀ j : Nat, j < n + 1 → f (a + j) = v) → scan f d a (n + 1) o = put d o ⟨a, a + n, v⟩
  | 0, h => by
    rw [scan, scan, h 0 (by omega)]
    simp
  | n + 1, h => by
    rw [scan, scan_const (fun j hj => h j (by omega)), h (n + 1) (by omega)]
    have e : a + ((n + 1 : Nat) : Int) = a + n + 1 := by push_cast; omega
    rw [e, put_put]
/-- Ranges that stand in order from a on. -/
def Srt : Int → List S35 → Prop
  | _, [] => True
  | a, r :: t => a ≤ r.f0 ∧ r.f0 ≤ r.f1 ∧ r.f1 ≤ 1114111 ∧ 0 ≤ r.f2 ∧ r.f2 ≤ 65535 ∧ Srt (r.f1 + 1) t
theorem Srt.le : ∀ {a b : Int} {l : List S35}, Srt a l → b ≤ a → Srt b l
  | _, _, [], _, _ => trivial
  | _, _, _ :: _, h, hb => ⟨by have := h.1; omega, h.2⟩
theorem gv_cons (r : S35) (t : List S35) (d c : Int) : gv (r :: t) d c = if r.f0 ≤ c ∧ c ≤ r.f1 then r.f2 else gv t d c := rfl
theorem gv_low : ∀ {a c d : Int} {l : List S35}, Srt a l → c < a → gv l d c = d
  | _, _, _, [], _, _ => rfl
  | _, _, _, _ :: _, h, hc => by
    rw [gv_cons, if_neg (by have := h.1; omega)]
    exact gv_low h.2.2.2.2.2 (by have := h.1; have := h.2.1; omega)
theorem gv_high : ∀ {a c d : Int} {l : List S35}, Srt a l → 1114111 < c → gv l d c = d
  | _, _, _, [], _, _ => rfl
  | _, _, _, _ :: _, h, hc => by
    rw [gv_cons, if_neg (by have := h.2.2.1; omega)]
    exact gv_high h.2.2.2.2.2 hc
theorem gv_bound : ∀ {a d c : Int} {l : List S35}, Srt a l → 0 ≤ d → d ≤ 65535 → 0 ≤ gv l d c ∧ gv l d c ≤ 65535
  | _, _, _, [], _, h0, h1 => ⟨h0, h1⟩
  | _, _, _, _ :: _, h, h0, h1 => by
    rw [gv_cons]
    split
    · exact ⟨h.2.2.2.1, h.2.2.2.2.1⟩
    · exact gv_bound h.2.2.2.2.2 h0 h1
/-- To lay ranges in order is to go through the code points one by one. -/
theorem scan_gv (d N : Int) (hN : N = 1114112) : ∀ (l : List S35) (a : Int) (o : List S35), Srt a l → 0 ≤ a → a ≤ N → scan (gv l d) d a (N - a).toNat o = l.foldl (put d) o
  | [], a, o, _, _, _ => scan_def (fun _ _ => rfl)
  | r :: t, a, o, h, h0, h1 => by
    obtain ⟨h2, h3, h4, h5, h6, h7⟩ := h
    have e : (N - a).toNat = (r.f0 - a).toNat + (((r.f1 - r.f0).toNat + 1) + (N - (r.f1 + 1)).toNat) := by omega
    rw [e, scan_add, scan_add]
    have e1 : scan (gv (r :: t) d) d a (r.f0 - a).toNat o = o := scan_def (fun j hj => by
      rw [gv_cons, if_neg (by omega)]; exact gv_low h7 (by omega))
    have e0 : a + ((r.f0 - a).toNat : Int) = r.f0 := by omega
    have e2 : scan (gv (r :: t) d) d r.f0 ((r.f1 - r.f0).toNat + 1) o = put d o r := by
      rw [scan_const (v := r.f2) (fun j hj => by rw [gv_cons, if_pos (by omega)])]
      have e3 : r.f0 + ((r.f1 - r.f0).toNat : Int) = r.f1 := by omega
      rw [e3]
    rw [e1, e0, e2]
    have e4 : r.f0 + (((r.f1 - r.f0).toNat + 1 : Nat) : Int) = r.f1 + 1 := by push_cast; omega
    rw [e4, List.foldl_cons, ← scan_gv d N hN t (r.f1 + 1) (put d o r) h7 (by omega) (by omega)]
    exact scan_congr (fun j hj => by rw [gv_cons, if_neg (by omega)])
/-- The last place of ranges. -/
def top (a : Int) (l : List S35) : Int := (l.getLast?.map (·.f1 + 1)).getD a
theorem srt_snoc : ∀ {a : Int} {l : List S35} {r : S35}, Srt a (l ++ [r]) ↔ Srt a l ∧ (∀ q ∈ l, q.f1 < r.f0) ∧ a ≤ r.f0 ∧ r.f0 ≤ r.f1 ∧ r.f1 ≤ 1114111 ∧ 0 ≤ r.f2 ∧ r.f2 ≤ 65535
  | a, [], r => by simp [Srt]
  | a, q :: l, r => by
    simp only [List.cons_append, Srt, srt_snoc (a := q.f1 + 1) (l := l) (r := r), List.mem_cons, forall_eq_or_imp]
    constructor
    · rintro ⟨h1, h2, h3, h4, h5, h6, h7, h8, h9⟩
      exact ⟨⟨h1, h2, h3, h4, h5, h6⟩, ⟨by omega, h7⟩, by omega, h9⟩
    · rintro ⟨⟨h1, h2, h3, h4, h5, h6⟩, ⟨h7, h8⟩, h9, h10⟩
      exact ⟨h1, h2, h3, h4, h5, h6, h8, by omega, h10⟩
theorem srt_mem : ∀ {a : Int} {l : List S35} {q : S35}, Srt a l → q ∈ l → a ≤ q.f0 ∧ q.f0 ≤ q.f1 ∧ q.f1 ≤ 1114111 ∧ 0 ≤ q.f2 ∧ q.f2 ≤ 65535
  | _, _ :: _, _, h, hq => by
    rcases List.mem_cons.1 hq with rfl | hq
    · exact ⟨h.1, h.2.1, h.2.2.1, h.2.2.2.1, h.2.2.2.2.1⟩
    · have := srt_mem h.2.2.2.2.2 hq
      have h1 := h.1
      have h2 := h.2.1
      exact ⟨by omega, this.2⟩
theorem gv_snoc (d c : Int) (r : S35) : ∀ (l : List S35), (∀ q ∈ l, q.f1 < r.f0) → gv (l ++ [r]) d c = if r.f0 ≤ c ∧ c ≤ r.f1 then r.f2 else gv l d c
  | [], _ => rfl
  | q :: l, h => by
    have h1 := h q (by simp)
    rw [List.cons_append, gv_cons, gv_snoc d c r l (fun p hp => h p (by simp [hp])), gv_cons]
    by_cases h2 : q.f0 ≤ c ∧ c ≤ q.f1
    · rw [if_pos h2, if_neg (by omega), if_pos h2]
    · rw [if_neg h2, if_neg h2]
theorem gv_none' {d c : Int} : ∀ {l : List S35}, (∀ q ∈ l, q.f1 < c) → gv l d c = d
  | [], _ => rfl
  | q :: l, h => by
    have h1 := h q (by simp)
    rw [gv_cons, if_neg (by omega)]
    exact gv_none' (fun p hp => h p (by simp [hp]))
theorem put_srt {d a : Int} {o : List S35} {r : S35} (h : Srt a o) (hq : ∀ q ∈ o, q.f1 < r.f0) (h1 : a ≤ r.f0) (h2 : r.f0 ≤ r.f1) (h3 : r.f1 ≤ 1114111) (h4 : 0 ≤ r.f2) (h5 : r.f2 ≤ 65535) :
    Srt a (put d o r) ∧ (∀ q ∈ put d o r, q.f1 ≤ r.f1) ∧ ∀ c, gv (put d o r) d c = if r.f0 ≤ c ∧ c ≤ r.f1 then r.f2 else gv o d c := by
  by_cases hd : r.f2 = d
  · rw [put_def _ _ _ hd]
    refine ⟨h, fun q hm => by have := hq q hm; omega, fun c => ?_⟩
    by_cases hc : r.f0 ≤ c ∧ c ≤ r.f1
    · rw [if_pos hc, gv_none' (fun q hm => by have := hq q hm; omega), hd]
    · rw [if_neg hc]
  rcases snoc_cases o with rfl | ⟨t, q, rfl⟩
  · rw [put_nil, if_neg hd]
    exact ⟨⟨h1, h2, h3, h4, h5, trivial⟩, by simp, fun c => rfl⟩
  · rw [put_snoc, if_neg hd]
    obtain ⟨g1, g2, g3, g4, g5, g6, g7⟩ := srt_snoc.1 h
    have hql := hq q (by simp)
    by_cases hj : q.f2 = r.f2 ∧ q.f1 + 1 = r.f0
    · rw [if_pos hj]
      refine ⟨srt_snoc.2 ⟨g1, g2, g3, (by show q.f0 ≤ r.f1; omega), h3, g6, g7⟩, fun p hp => ?_, fun c => ?_⟩
      · rcases List.mem_append.1 hp with hp | hp
        · have := hq p (by simp [hp]); omega
        · rw [List.mem_singleton] at hp; subst hp; exact Int.le_refl _
      · rw [gv_snoc d c q t g2, gv_snoc d c ⟨q.f0, r.f1, q.f2⟩ t g2]
        show (if q.f0 ≤ c ∧ c ≤ r.f1 then q.f2 else gv t d c) = _
        by_cases hc : r.f0 ≤ c ∧ c ≤ r.f1
        · rw [if_pos hc, if_pos (by omega), hj.1]
        · rw [if_neg hc]
          by_cases hc2 : q.f0 ≤ c ∧ c ≤ q.f1
          · rw [if_pos hc2, if_pos (by omega)]
          · rw [if_neg hc2, if_neg (by omega)]
    · rw [if_neg hj]
      refine ⟨srt_snoc.2 ⟨h, hq, h1, h2, h3, h4, h5⟩, fun p hp => ?_, fun c => gv_snoc d c r _ hq⟩
      rcases List.mem_append.1 hp with hp | hp
      · have := hq p hp; omega
      · rw [List.mem_singleton] at hp; subst hp; exact Int.le_refl _
/-- The ranges of f say what f says. -/
theorem scan_is {f : Int → Int} {d : Int} (hf : ∀ c, 0 ≤ f c ∧ f c ≤ 65535) : ∀ n : Nat, n ≤ 1114112 → Srt 0 (scan f d 0 n []) ∧ (∀ q ∈ scan f d 0 n [], q.f1 < n) ∧ ∀ c, gv (scan f d 0 n []) d c = if 0 ≤ c ∧ c < n then f c else d
  | 0, _ => ⟨trivial, by simp [scan], fun c => by rw [if_neg (by omega)]; rfl⟩
  | n + 1, hn => by
    obtain ⟨h1, h2, h3⟩ := scan_is hf n (by omega)
    have h4 := hf (0 + n)
    obtain ⟨g1, g2, g3⟩ := put_srt (d := d) (r := ⟨0 + n, 0 + n, f (0 + n)⟩) h1 (fun q hq => by have := h2 q hq; show q.f1 < 0 + (n : Int); omega) (by show (0 : Int) ≤ 0 + n; omega) (Int.le_refl _) (by show 0 + (n : Int) ≤ 1114111; omega) h4.1 h4.2
    rw [scan]
    refine ⟨g1, fun q hq => ?_, fun c => ?_⟩
    · have := g2 q hq
      have e : (({ f0 := 0 + (n : Int), f1 := 0 + n, f2 := f (0 + n) } : S35).f1) = n := by simp
      rw [e] at this
      omega
    · rw [g3, h3]
      show (if 0 + (n : Int) ≤ c ∧ c ≤ 0 + (n : Int) then f (0 + n) else if 0 ≤ c ∧ c < n then f c else d) = _
      by_cases hc : c = n
      · subst hc
        rw [if_pos (by omega), if_pos (by omega), Int.zero_add]
      · rw [if_neg (by omega)]
        by_cases hc2 : 0 ≤ c ∧ c < n
        · rw [if_pos hc2, if_pos (by omega)]
        · rw [if_neg hc2, if_neg (by omega)]
end Go.Proofs.Ytiaodapgankjnaa.TrieRng
