/- A small calculus over the model: whole bodies reckoned out. -/
import Derived.Test.YtcpdnpaedkcebaaVt
namespace Go.Proofs.Ytcpdnpaedkcebaa.V
open Go Go.RowKit
set_option linter.unusedVariables false
set_option linter.unusedSimpArgs false

/-- A call, its arguments reckoned out. -/
def callK (P : Program) (g : Prop) (f : FuncId) (H : List (Nat × LObj)) (u : Nat) (K : AV → List (Nat × LObj) → Prop) (b : Bar K) (args : List Arg) (m : List (Nat × Option Nat)) (V : List Nat) (H' : List (Nat × LObj)) : Prop :=
    ∃ out : Out, (g → CW P f args out) ∧ (∀ i ∈ V, isLive H' i) ∧ (V = [] ∨ (∀ r ∈ out.res, r.scalar) ∧ ∀ b ∈ out.back, ∀ r ∈ b, r.scalar) ∧
      (freshC H u ∧ args.length ≤ 8 ∧ out.res.length ≤ 60 ∧ ∀ b ∈ out.back, b.length ≤ 15) ∧
      K (impRes u out.res) (backW u m (backArgs args out.back) 0 ++ impOb u out.res 0 ++ deadOf m)
def goA (P : Program) (g : Prop) (f : FuncId) (H : List (Nat × LObj)) (u : Nat) (K : AV → List (Nat × LObj) → Prop) (b : Bar K) : RA → Prop
  | some (c, args, m, V, H') => c ∧ callK P g f H u K b args m V H'
  | none => False
theorem goA_some {P : Program} {g : Prop} {f : FuncId} {H : List (Nat × LObj)} {u : Nat} {K : AV → List (Nat × LObj) → Prop} {b : Bar K} {c : Prop} {args : List Arg} {m : List (Nat × Option Nat)} {V : List Nat} {H' : LH} :
    goA P g f H u K b (some (c, args, m, V, H')) = (c ∧ callK P g f H u K b args m V H') := (rfl)

def rnF (P : Program) (g : Prop) (σ : Slots) (H : LH) (u : Nat) (as : List (Opd × Mode)) (K : AV → List (Nat × LObj) → Prop) (b : Bar K) : AV → Prop
  | .c (.fn f) => goA P g f H u K b (argsE g argBase (as.map fun x => (val σ x.1, x.2)) H 0)
  | _ => False
theorem rnF_fn {P : Program} {g : Prop} {σ : Slots} {H : LH} {u : Nat} {as : List (Opd × Mode)} {K : AV → List (Nat × LObj) → Prop} {b : Bar K} {f : FuncId} :
    rnF P g σ H u as K b (.c (.fn f)) = goA P g f H u K b (argsE g argBase (as.map fun x => (val σ x.1, x.2)) H 0) := (rfl)
def rnG (P : Program) (σ : Slots) (H : LH) (u : Nat) (f : Opd) (as : List (Opd × Mode)) (w : Bool) (K : AV → List (Nat × LObj) → Prop) (b : Bar K) : AV → Prop
  | .c (.bool t) => rnF P ((t == w) = true) σ H u as (fun v ws => ws = [] ∧ K (flat (t == w) v) []) ⟨⟩ (val σ f)
  | .grd t' (.c (.bool t)) => rnF P ((t' && (t == w)) = true) σ H u as (fun v ws => ws = [] ∧ K (flat (t' && (t == w)) v) []) ⟨⟩ (val σ f)
  | _ => False
theorem rnG_c {P : Program} {σ : Slots} {H : LH} {u : Nat} {f : Opd} {as : List (Opd × Mode)} {w t : Bool} {K : AV → List (Nat × LObj) → Prop} {b : Bar K} :
    rnG P σ H u f as w K b (.c (.bool t)) = rnF P ((t == w) = true) σ H u as (fun v ws => ws = [] ∧ K (flat (t == w) v) []) ⟨⟩ (val σ f) := (rfl)
theorem rnG_g {P : Program} {σ : Slots} {H : LH} {u : Nat} {f : Opd} {as : List (Opd × Mode)} {w t t' : Bool} {K : AV → List (Nat × LObj) → Prop} {b : Bar K} :
    rnG P σ H u f as w K b (.grd t' (.c (.bool t))) = rnF P ((t' && (t == w)) = true) σ H u as (fun v ws => ws = [] ∧ K (flat (t' && (t == w)) v) []) ⟨⟩ (val σ f) := (rfl)
def rnS (P : Program) (σ : Slots) (H : LH) (K : AV → List (Nat × LObj) → Prop) (b : Bar K) : IOp → Prop
  | ⟨_, u, none, .call f as⟩ => rnF P True σ H u as K b (val σ f)
  | ⟨_, u, some (t, w), .call f as⟩ => rnG P σ H u f as w K b (Slots.get σ t)
  | i => go3 K b (evS P σ H i)
section
variable {P : Program} {σ : Slots} {H : LH} {K : AV → List (Nat × LObj) → Prop} {b : Bar K} {g : Prop} {u : Nat}
theorem rnS_call {d : Option Nat} {f : Opd} {as : List (Opd × Mode)} : rnS P σ H K b ⟨d, u, none, .call f as⟩ = rnF P True σ H u as K b (val σ f) := (rfl)
theorem rnS_callg {d : Option Nat} {f : Opd} {as : List (Opd × Mode)} {t : Nat} {w : Bool} : rnS P σ H K b ⟨d, u, some (t, w), .call f as⟩ = rnG P σ H u f as w K b (Slots.get σ t) := (rfl)
theorem rnS_mv {d : Option Nat} {gd : Option (Nat × Bool)} {x0 : Opd} : rnS P σ H K b ⟨d, u, gd, .mv x0⟩ = go3 K b (evS P σ H ⟨d, u, gd, .mv x0⟩) := by cases gd <;> rfl
theorem rnS_pick {d : Option Nat} {gd : Option (Nat × Bool)} {x0 : Opd} {x1 : Opd} {x2 : Opd} : rnS P σ H K b ⟨d, u, gd, .pick x0 x1 x2⟩ = go3 K b (evS P σ H ⟨d, u, gd, .pick x0 x1 x2⟩) := by cases gd <;> rfl
theorem rnS_bin {d : Option Nat} {gd : Option (Nat × Bool)} {x0 : BinOp} {x1 : Opd} {x2 : Opd} : rnS P σ H K b ⟨d, u, gd, .bin x0 x1 x2⟩ = go3 K b (evS P σ H ⟨d, u, gd, .bin x0 x1 x2⟩) := by cases gd <;> rfl
theorem rnS_beq {d : Option Nat} {gd : Option (Nat × Bool)} {x0 : Opd} {x1 : Opd} : rnS P σ H K b ⟨d, u, gd, .beq x0 x1⟩ = go3 K b (evS P σ H ⟨d, u, gd, .beq x0 x1⟩) := by cases gd <;> rfl
theorem rnS_bne {d : Option Nat} {gd : Option (Nat × Bool)} {x0 : Opd} {x1 : Opd} : rnS P σ H K b ⟨d, u, gd, .bne x0 x1⟩ = go3 K b (evS P σ H ⟨d, u, gd, .bne x0 x1⟩) := by cases gd <;> rfl
theorem rnS_mks {d : Option Nat} {gd : Option (Nat × Bool)} {x0 : Nat} {x1 : CV} : rnS P σ H K b ⟨d, u, gd, .mks x0 x1⟩ = go3 K b (evS P σ H ⟨d, u, gd, .mks x0 x1⟩) := by cases gd <;> rfl
theorem rnS_not {d : Option Nat} {gd : Option (Nat × Bool)} {x0 : Opd} : rnS P σ H K b ⟨d, u, gd, .not x0⟩ = go3 K b (evS P σ H ⟨d, u, gd, .not x0⟩) := by cases gd <;> rfl
theorem rnS_cpl {d : Option Nat} {gd : Option (Nat × Bool)} {x0 : Opd} : rnS P σ H K b ⟨d, u, gd, .cpl x0⟩ = go3 K b (evS P σ H ⟨d, u, gd, .cpl x0⟩) := by cases gd <;> rfl
theorem rnS_conv {d : Option Nat} {gd : Option (Nat × Bool)} {x0 : IntKind} {x1 : Opd} : rnS P σ H K b ⟨d, u, gd, .conv x0 x1⟩ = go3 K b (evS P σ H ⟨d, u, gd, .conv x0 x1⟩) := by cases gd <;> rfl
theorem rnS_b2s {d : Option Nat} {gd : Option (Nat × Bool)} {x0 : Opd} : rnS P σ H K b ⟨d, u, gd, .b2s x0⟩ = go3 K b (evS P σ H ⟨d, u, gd, .b2s x0⟩) := by cases gd <;> rfl
theorem rnS_s2b {d : Option Nat} {gd : Option (Nat × Bool)} {x0 : Opd} : rnS P σ H K b ⟨d, u, gd, .s2b x0⟩ = go3 K b (evS P σ H ⟨d, u, gd, .s2b x0⟩) := by cases gd <;> rfl
theorem rnS_len {d : Option Nat} {gd : Option (Nat × Bool)} {x0 : Bool} {x1 : Opd} : rnS P σ H K b ⟨d, u, gd, .len x0 x1⟩ = go3 K b (evS P σ H ⟨d, u, gd, .len x0 x1⟩) := by cases gd <;> rfl
theorem rnS_mn {d : Option Nat} {gd : Option (Nat × Bool)} {x0 : Opd} {x1 : Opd} : rnS P σ H K b ⟨d, u, gd, .mn x0 x1⟩ = go3 K b (evS P σ H ⟨d, u, gd, .mn x0 x1⟩) := by cases gd <;> rfl
theorem rnS_mx {d : Option Nat} {gd : Option (Nat × Bool)} {x0 : Opd} {x1 : Opd} : rnS P σ H K b ⟨d, u, gd, .mx x0 x1⟩ = go3 K b (evS P σ H ⟨d, u, gd, .mx x0 x1⟩) := by cases gd <;> rfl
theorem rnS_ext {d : Option Nat} {gd : Option (Nat × Bool)} {x0 : Opd} {x1 : Nat} : rnS P σ H K b ⟨d, u, gd, .ext x0 x1⟩ = go3 K b (evS P σ H ⟨d, u, gd, .ext x0 x1⟩) := by cases gd <;> rfl
theorem rnS_sidx {d : Option Nat} {gd : Option (Nat × Bool)} {x0 : Opd} {x1 : Opd} : rnS P σ H K b ⟨d, u, gd, .sidx x0 x1⟩ = go3 K b (evS P σ H ⟨d, u, gd, .sidx x0 x1⟩) := by cases gd <;> rfl
theorem rnS_aidx {d : Option Nat} {gd : Option (Nat × Bool)} {x0 : Nat} {x1 : Opd} {x2 : Opd} : rnS P σ H K b ⟨d, u, gd, .aidx x0 x1 x2⟩ = go3 K b (evS P σ H ⟨d, u, gd, .aidx x0 x1 x2⟩) := by cases gd <;> rfl
theorem rnS_fa {d : Option Nat} {gd : Option (Nat × Bool)} {x0 : Opd} {x1 : Nat} : rnS P σ H K b ⟨d, u, gd, .fa x0 x1⟩ = go3 K b (evS P σ H ⟨d, u, gd, .fa x0 x1⟩) := by cases gd <;> rfl
theorem rnS_ia {d : Option Nat} {gd : Option (Nat × Bool)} {x0 : Opd} {x1 : Opd} {x2 : Nat} : rnS P σ H K b ⟨d, u, gd, .ia x0 x1 x2⟩ = go3 K b (evS P σ H ⟨d, u, gd, .ia x0 x1 x2⟩) := by cases gd <;> rfl
theorem rnS_ld {d : Option Nat} {gd : Option (Nat × Bool)} {x0 : Opd} {x1 : Option Nat} : rnS P σ H K b ⟨d, u, gd, .ld x0 x1⟩ = go3 K b (evS P σ H ⟨d, u, gd, .ld x0 x1⟩) := by cases gd <;> rfl
theorem rnS_st {d : Option Nat} {gd : Option (Nat × Bool)} {x0 : Opd} {x1 : Opd} {x2 : Option Nat} : rnS P σ H K b ⟨d, u, gd, .st x0 x1 x2⟩ = go3 K b (evS P σ H ⟨d, u, gd, .st x0 x1 x2⟩) := by cases gd <;> rfl
theorem rnS_nck {d : Option Nat} {gd : Option (Nat × Bool)} {x0 : Opd} : rnS P σ H K b ⟨d, u, gd, .nck x0⟩ = go3 K b (evS P σ H ⟨d, u, gd, .nck x0⟩) := by cases gd <;> rfl
theorem rnS_alloc {d : Option Nat} {gd : Option (Nat × Bool)} {x0 : List CV} : rnS P σ H K b ⟨d, u, gd, .alloc x0⟩ = go3 K b (evS P σ H ⟨d, u, gd, .alloc x0⟩) := by cases gd <;> rfl
theorem rnS_box {d : Option Nat} {gd : Option (Nat × Bool)} {x0 : Opd} : rnS P σ H K b ⟨d, u, gd, .box x0⟩ = go3 K b (evS P σ H ⟨d, u, gd, .box x0⟩) := by cases gd <;> rfl
theorem rnS_bld {d : Option Nat} {gd : Option (Nat × Bool)} {x0 : List CV} {x1 : List (Nat × Opd)} : rnS P σ H K b ⟨d, u, gd, .bld x0 x1⟩ = go3 K b (evS P σ H ⟨d, u, gd, .bld x0 x1⟩) := by cases gd <;> rfl
theorem rnS_bsl {d : Option Nat} {gd : Option (Nat × Bool)} {x0 : Nat} {x1 : List Opd} : rnS P σ H K b ⟨d, u, gd, .bsl x0 x1⟩ = go3 K b (evS P σ H ⟨d, u, gd, .bsl x0 x1⟩) := by cases gd <;> rfl
theorem rnS_slc {d : Option Nat} {gd : Option (Nat × Bool)} {x0 : Opd} {x1 : Option Opd} {x2 : Option Opd} {x3 : Option Opd} {x4 : Nat} : rnS P σ H K b ⟨d, u, gd, .slc x0 x1 x2 x3 x4⟩ = go3 K b (evS P σ H ⟨d, u, gd, .slc x0 x1 x2 x3 x4⟩) := by cases gd <;> rfl
theorem rnS_ssl {d : Option Nat} {gd : Option (Nat × Bool)} {x0 : Opd} {x1 : Option Opd} {x2 : Option Opd} : rnS P σ H K b ⟨d, u, gd, .ssl x0 x1 x2⟩ = go3 K b (evS P σ H ⟨d, u, gd, .ssl x0 x1 x2⟩) := by cases gd <;> rfl
theorem rnS_app {d : Option Nat} {gd : Option (Nat × Bool)} {x0 : Opd} {x1 : Opd} {x2 : Nat} {x3 : Nat} {x4 : Bool} : rnS P σ H K b ⟨d, u, gd, .app x0 x1 x2 x3 x4⟩ = go3 K b (evS P σ H ⟨d, u, gd, .app x0 x1 x2 x3 x4⟩) := by cases gd <;> rfl
theorem rnS_isnil {d : Option Nat} {gd : Option (Nat × Bool)} {x0 : Opd} {x1 : Bool} : rnS P σ H K b ⟨d, u, gd, .isnil x0 x1⟩ = go3 K b (evS P σ H ⟨d, u, gd, .isnil x0 x1⟩) := by cases gd <;> rfl

theorem rnF_ok {as : List (Opd × Mode)} {f : Opd} {K' : AV → List (Nat × LObj) → Prop} (h : rnF P g σ H u as K b (val σ f)) (m : ∀ v ws, K v ws → K' v ws) : opW P g σ H u (.call f as) K' := by
  simp only [opW]
  unfold rnF at h
  split at h
  · rename_i fn hf
    simp only [hf]
    generalize he : argsE g argBase (as.map fun x => (val σ x.1, x.2)) H 0 = o at h
    cases o with
    | none => exact h.elim
    | some x =>
      obtain ⟨c, args, mm, V, H'⟩ := x
      obtain ⟨hc, out, h1, h2, h3, h4, h5⟩ := h
      exact argsE_ok he hc ⟨out, h1, h2, h3, h4, m _ _ h5⟩
  · exact h.elim

theorem rnS_ok {i : IOp} {K' : AV → List (Nat × LObj) → Prop} (h : rnS P σ H K b i) (m : ∀ v ws, K v ws → K' v ws) : stepW P σ H i K' := by
  unfold rnS at h
  split at h
  · exact rnF_ok h m
  · rename_i t w f as
    simp only [stepW]
    unfold rnG at h
    split at h
    · rename_i h1
      simp only [h1]
      exact .inl (rnF_ok h fun v ws hk => ⟨hk.1, m _ _ hk.2⟩)
    · rename_i h1
      simp only [h1]
      exact .inl (rnF_ok h fun v ws hk => ⟨hk.1, m _ _ hk.2⟩)
    · exact h.elim
  · generalize he : evS P σ H i = o at h
    cases o with
    | none => exact h.elim
    | some x => obtain ⟨c, v, ws⟩ := x; exact evS_ok he h.1 (m _ _ h.2)
end

def rnOps (P : Program) (K : Slots → LH → Prop) : List IOp → Slots → LH → Prop
  | [], σ, H => K σ H
  | i :: l, σ, H => rnS P σ H (fun v ws => rnOps P K l (Slots.put σ i.d v) (LH.sets H ws)) ⟨⟩ i
theorem rnOps_nil {P : Program} {K : Slots → LH → Prop} {σ : Slots} {H : LH} : rnOps P K [] σ H = K σ H := (rfl)
theorem rnOps_cons {P : Program} {K : Slots → LH → Prop} {σ : Slots} {H : LH} {i : IOp} {l : List IOp} : rnOps P K (i :: l) σ H = rnS P σ H (fun v ws => rnOps P K l (Slots.put σ i.d v) (LH.sets H ws)) ⟨⟩ i := (rfl)
theorem rnOps_ok {P : Program} {K K' : Slots → LH → Prop} (m : ∀ σ H, K σ H → K' σ H) : ∀ (l : List IOp) {σ : Slots} {H : LH}, rnOps P K l σ H → opsW P l σ H K'
  | [], σ, H, h => m _ _ h
  | i :: l, σ, H, h => rnS_ok h fun v ws hk => rnOps_ok m l hk

def pendR (P : Program) (σ : Slots) (H : LH) : List (Nat × IOp × AV) → Prop
  | [] => True
  | (_, i, v) :: l => (rnS P σ H (fun v' ws => ws = [] ∧ v' = v) ⟨⟩ i) ∧ pendR P σ H l
theorem pendR_nil {P : Program} {σ : Slots} {H : LH} : pendR P σ H [] = True := (rfl)
theorem pendR_cons {P : Program} {σ : Slots} {H : LH} {k : Nat} {i : IOp} {v : AV} {l : List (Nat × IOp × AV)} : pendR P σ H ((k, i, v) :: l) = ((rnS P σ H (fun v' ws => ws = [] ∧ v' = v) ⟨⟩ i) ∧ pendR P σ H l) := (rfl)
theorem pendR_ok {P : Program} {σ : Slots} {H : LH} : ∀ {l : List (Nat × IOp × AV)}, pendR P σ H l → pendW P σ H l
  | [], _ => trivial
  | (_, i, v) :: l, h => ⟨rnS_ok h.1 fun _ _ hk => hk, pendR_ok h.2⟩
def rnD (P : Program) (K : Slots → LH → Prop) : DT → List (Nat × IOp × AV) → Slots → LH → Prop
  | .done, _, σ, H => K σ H
  | .no, _, _, _ => True
  | .take k i t, pd, σ, H => rnS P σ H (fun v ws => ws = [] ∧ rnD P K t ((k, i, v) :: pd) (Slots.put σ i.d v) H) ⟨⟩ i
  | .br _ i ms t r, pd, σ, H => (rnS P σ H (fun v ws => pendR P (Slots.put σ i.d v) (LH.sets H ws) (sel ms pd) ∧ rnD P K t (sel ms pd) (Slots.put σ i.d v) (LH.sets H ws)) ⟨⟩ i) ∧ rnD P K r pd σ H
section
variable {P : Program} {K : Slots → LH → Prop} {pd : List (Nat × IOp × AV)} {σ : Slots} {H : LH}
theorem rnD_done : rnD P K .done pd σ H = K σ H := (rfl)
theorem rnD_no : rnD P K .no pd σ H = True := (rfl)
theorem rnD_take {k : Nat} {i : IOp} {t : DT} : rnD P K (.take k i t) pd σ H = rnS P σ H (fun v ws => ws = [] ∧ rnD P K t ((k, i, v) :: pd) (Slots.put σ i.d v) H) ⟨⟩ i := (rfl)
theorem rnD_br {k : Nat} {i : IOp} {ms : List Bool} {t r : DT} : rnD P K (.br k i ms t r) pd σ H =
  ((rnS P σ H (fun v ws => pendR P (Slots.put σ i.d v) (LH.sets H ws) (sel ms pd) ∧ rnD P K t (sel ms pd) (Slots.put σ i.d v) (LH.sets H ws)) ⟨⟩ i) ∧ rnD P K r pd σ H) := (rfl)
theorem rnD_ok {K' : Slots → LH → Prop} (m : ∀ σ H, K σ H → K' σ H) : ∀ (t : DT) {pd : List (Nat × IOp × AV)} {σ : Slots} {H : LH}, rnD P K t pd σ H → drawW P K' t pd σ H
  | .done, _, _, _, h => m _ _ h
  | .no, _, _, _, _ => trivial
  | .take k i t, pd, σ, H, h => rnS_ok h fun v ws hk => ⟨hk.1, rnD_ok m t hk.2⟩
  | .br k i ms t r, pd, σ, H, h => ⟨rnS_ok h.1 fun v ws hk => ⟨pendR_ok hk.1, rnD_ok m t hk.2⟩, rnD_ok m r h.2⟩
end

def condK (p q : Prop) (b : Bar p) (b' : Bar q) : AV → Prop
  | .c (.bool t) => (t = true → p) ∧ (t = false → q)
  | _ => False
theorem condK_bool {p q : Prop} {b : Bar p} {b' : Bar q} {t : Bool} : condK p q b b' (.c (.bool t)) = ((t = true → p) ∧ (t = false → q)) := (rfl)
def lpR (n : Norm) (X : Slots → LH → Prop) (Q : Ex → Slots → LH → Prop) : Ex → Slots → LH → Prop
  | .norm => fun σ H => goN X ⟨⟩ (normE σ H n)
  | .exit i => Q (.exit i)
  | .ret => Q .ret
  | .pan t k m => Q (.pan t k m)
def loopR (B : (Ex → Slots → LH → Prop) → Slots → LH → Prop) (n : Norm) (Q : Ex → Slots → LH → Prop) (b : Bar B) (b' : Bar n) (b'' : Bar Q) (σ : Slots) (H : LH) : Prop :=
  ∀ X : Slots → LH → Prop, (∀ σ H, B (lpR n X Q) σ H → X σ H) → goN X ⟨⟩ (normE σ H n)
def lpZ (ts : List Nat) (X : Slots → LH → Prop) (Q : Ex → Slots → LH → Prop) : Ex → Slots → LH → Prop
  | .norm => fun σ H => X (keepS σ ts) H
  | .exit i => Q (.exit i)
  | .ret => Q .ret
  | .pan t k m => Q (.pan t k m)
def loopZR (B : (Ex → Slots → LH → Prop) → Slots → LH → Prop) (ts : List Nat) (Q : Ex → Slots → LH → Prop) (b : Bar B) (b' : Bar ts) (b'' : Bar Q) (σ : Slots) (H : LH) : Prop :=
  ∀ X : Slots → LH → Prop, (∀ σ H, B (lpZ ts X Q) σ H → X σ H) → X (keepS σ ts) H
def pubR : AV → LH → Option LH
  | .osl i _ _, H => match LH.get H i with
    | some (.row e xs) => some (LH.set H i (.vrow e xs))
    | _ => none
  | _, _ => none
def pcRow (H : LH) (i k off len r : Nat) (cs : List AV) : Option LObj → Option (Prop × LH)
  | some (.row e xs) => some ((k < cs.length ∧ r ≠ i), LH.set (LH.set H r (.vrow e xs)) i (.obj (cs.set k (.c (.sl e ((xs.drop off).take len))))))
  | _ => none
def pcCell (H : LH) (i k : Nat) (cs : List AV) : AV → Option (Prop × LH)
  | .osl r off len => pcRow H i k off len r cs (LH.get H r)
  | _ => none
def pcObj (H : LH) (i k : Nat) : Option LObj → Option (Prop × LH)
  | some (.obj cs) => pcCell H i k cs (cs.getD k (.c .undef))
  | _ => none
def pubE (H : LH) : AV → Option (Prop × LH)
  | .osl i _ _ => match LH.get H i with
    | some (.row e xs) => some (True, LH.set H i (.vrow e xs))
    | _ => none
  | _ => none
def pubcE (H : LH) (k : Nat) : AV → Option (Prop × LH)
  | .ref i _ => pcObj H i k (LH.get H i)
  | _ => none
def tcRow (H : LH) (i k u off len r : Nat) (cs : List AV) : Option LObj → Option (Prop × LH)
  | some (.row e xs) => some ((k < cs.length ∧ r ≠ i ∧ off = 0 ∧ fresh H u), LH.set (LH.set (LH.set H r .dead) (64 * u) (.row e (xs.take len))) i (.obj (cs.set k (.osl (64 * u) 0 len))))
  | _ => none
def tcCell (H : LH) (i k u : Nat) (cs : List AV) : AV → Option (Prop × LH)
  | .osl r off len => tcRow H i k u off len r cs (LH.get H r)
  | .c .nilsl => some (True, H)
  | _ => none
def tcObj (H : LH) (i k u : Nat) : Option LObj → Option (Prop × LH)
  | some (.obj cs) => tcCell H i k u cs (cs.getD k (.c .undef))
  | _ => none
def truncE (H : LH) (k u : Nat) : AV → Option (Prop × LH)
  | .ref i _ => tcObj H i k u (LH.get H i)
  | _ => none
/-- A call that returns or gives up, its arguments reckoned out. -/
def callXR (P : Program) (f : FuncId) (H : List (Nat × LObj)) (u : Nat) (K : AV → List (Nat × LObj) → Prop) (F : TypeId → IntKind → Int → LH → Prop) (b : Bar K) (b' : Bar F) (args : List Arg) (m : List (Nat × Option Nat)) (V : List Nat) (H' : List (Nat × LObj)) : Prop :=
  callK P True f H u K b args m V H' ∨ ((∀ i ∈ V, isLive H' i) ∧ ∃ t k n, CWp P f args t k n ∧ F t k n H')
def goX (P : Program) (f : FuncId) (H : List (Nat × LObj)) (u : Nat) (K : AV → List (Nat × LObj) → Prop) (F : TypeId → IntKind → Int → LH → Prop) (b : Bar K) (b' : Bar F) : RA → Prop
  | some (c, args, m, V, H') => c ∧ callXR P f H u K F b b' args m V H'
  | none => False
def rnX (P : Program) (σ : Slots) (H : LH) (u : Nat) (as : List (Opd × Mode)) (K : AV → List (Nat × LObj) → Prop) (F : TypeId → IntKind → Int → LH → Prop) (b : Bar K) (b' : Bar F) : AV → Prop
  | .c (.fn f) => goX P f H u K F b b' (argsE True argBase (as.map fun x => (val σ x.1, x.2)) H 0)
  | _ => False
section
variable {P : Program} {f : FuncId} {σ : Slots} {H : LH} {u : Nat} {as : List (Opd × Mode)} {K : AV → List (Nat × LObj) → Prop} {F : TypeId → IntKind → Int → LH → Prop} {b : Bar K} {b' : Bar F}
theorem rnX_fn : rnX P σ H u as K F b b' (.c (.fn f)) = goX P f H u K F b b' (argsE True argBase (as.map fun x => (val σ x.1, x.2)) H 0) := (rfl)
theorem goX_some {c : Prop} {args : List Arg} {m : List (Nat × Option Nat)} {V : List Nat} {H' : LH} : goX P f H u K F b b' (some (c, args, m, V, H')) = (c ∧ callXR P f H u K F b b' args m V H') := (rfl)
theorem rnX_ok {f : Opd} {K' : AV → List (Nat × LObj) → Prop} {F' : TypeId → IntKind → Int → LH → Prop} (h : rnX P σ H u as K F b b' (val σ f)) (m : ∀ v ws, K v ws → K' v ws) (m' : ∀ t k n H, F t k n H → F' t k n H) : callX P σ H u f as K' F' := by
  unfold rnX at h
  split at h
  · rename_i fn hf
    generalize he : argsE True argBase (as.map fun x => (val σ x.1, x.2)) H 0 = o at h
    cases o with
    | none => exact h.elim
    | some x =>
      obtain ⟨c, args, mm, V, H'⟩ := x
      obtain ⟨hc, h⟩ := h
      rcases h with h | ⟨h1, t, k, n, h2, h3⟩
      · left
        refine rnF_ok (K := K) (b := ⟨⟩) ?_ m
        rw [hf]
        show goA P True fn H u K ⟨⟩ (argsE True argBase (as.map fun x => (val σ x.1, x.2)) H 0)
        rw [he]
        exact ⟨hc, h⟩
      · right
        exact ⟨fn, hf, argsE_ok he hc ⟨h1, t, k, n, h2, m' _ _ _ _ h3⟩⟩
  · exact h.elim
end
def goP (K : LH → Prop) (b : Bar K) : Option (Prop × LH) → Prop
  | some (c, H) => c ∧ K H
  | none => False
theorem goP_some {K : LH → Prop} {b : Bar K} {c : Prop} {H : LH} : goP K b (some (c, H)) = (c ∧ K H) := (rfl)

def trR (t k u : Nat) (Q : Ex → Slots → LH → Prop) : Ex → Slots → LH → Prop
  | .norm => fun σ H => goP (Q .norm σ) ⟨⟩ (truncE H k u (Slots.get σ t))
  | .exit i => Q (.exit i)
  | .ret => Q .ret
  | .pan t k m => Q (.pan t k m)

def rnC (P : Program) : IC → (Ex → Slots → LH → Prop) → Slots → LH → Prop
  | .skip, Q, σ, H => Q .norm σ H
  | .reg ops, Q, σ, H => rnOps P (Q .norm) ops σ H
  | .draw t, Q, σ, H => rnD P (Q .norm) t [] σ H
  | .seq a b, Q, σ, H => rnC P a (fun e σ H => match e with | .norm => rnC P b Q σ H | .exit i => Q (.exit i) σ H | .ret => Q .ret σ H | .pan t k n => Q (.pan t k n) σ H) σ H
  | .cond x a b, Q, σ, H => condK (rnC P a Q (setB σ x true) H) (rnC P b Q (setB σ x false) H) ⟨⟩ ⟨⟩ (val σ x)
  | .block id a, Q, σ, H => rnC P a (fun e σ H => match e with | .exit i => (if i = id then Q .norm σ H else Q (.exit i) σ H) | .norm => Q .norm σ H | .ret => Q .ret σ H | .pan t k n => Q (.pan t k n) σ H) σ H
  | .loop n a, Q, σ, H => loopR (rnC P a) n Q ⟨⟩ ⟨⟩ ⟨⟩ σ H
  | .exit id, Q, σ, H => Q (.exit id) σ H
  | .ret, Q, σ, H => Q .ret σ H
  | .keep n a, Q, σ, H => goN (rnC P a Q) ⟨⟩ (normE σ H n)
  | .pub t a, Q, σ, H => goP (rnC P a Q σ) ⟨⟩ (pubE H (Slots.get σ t))
  | .pubc t k a, Q, σ, H => goP (rnC P a Q σ) ⟨⟩ (pubcE H k (Slots.get σ t))
  | .trunc t k u a, Q, σ, H => rnC P a (trR t k u Q) σ H
  | .loop0 ts a, Q, σ, H => loopZR (rnC P a) ts Q ⟨⟩ ⟨⟩ ⟨⟩ σ H
  | .pan t k n, Q, _, H => Q (.pan t k n) [] H
  | .regc ops d u f as, Q, σ, H => rnOps P (fun σ H => rnX P σ H u as (fun v ws => Q .norm (Slots.put σ d v) (LH.sets H ws)) (fun t k n H' => Q (.pan t k n) σ H') ⟨⟩ ⟨⟩ (val σ f)) ops σ H

theorem goP_pub {H : LH} {K K' : LH → Prop} {b : Bar K} {v : AV} (h : goP K b (pubE H v)) (m : ∀ H, K H → K' H) : pubW H v K' := by
  unfold pubE at h
  unfold pubW
  split at h
  · split at h
    · rename_i hg; simp only [hg]; exact m _ h.2
    · exact h.elim
  · exact h.elim
theorem goP_pubc {H : LH} {K K' : LH → Prop} {b : Bar K} {v : AV} {k : Nat} (h : goP K b (pubcE H k v)) (m : ∀ H, K H → K' H) : pubcW H v k K' := by
  unfold pubcE at h
  unfold pubcW
  split at h
  · unfold pcObj at h
    split at h
    · rename_i hg
      simp only [hg]
      unfold pcCell at h
      split at h
      · rename_i hcell
        unfold pcRow at h
        split at h
        · rename_i hr; simp only [hcell, hr]; exact ⟨h.1, m _ h.2⟩
        · exact h.elim
      · exact h.elim
    · exact h.elim
  · exact h.elim

theorem goP_trunc {H : LH} {K K' : LH → Prop} {b : Bar K} {v : AV} {k u : Nat} (h : goP K b (truncE H k u v)) (m : ∀ H, K H → K' H) : truncW H v k u K' := by
  unfold truncE at h
  unfold truncW
  split at h
  · unfold tcObj at h
    split at h
    · rename_i hg
      simp only [hg]
      unfold tcCell at h
      split at h
      · rename_i hcell
        unfold tcRow at h
        split at h
        · rename_i hr; simp only [hcell, hr]; exact ⟨h.1, m _ h.2⟩
        · exact h.elim
      · rename_i hcell
        simp only [hcell]
        exact m _ h.2
      · exact h.elim
    · exact h.elim
  · exact h.elim

theorem rn_ok {P : Program} : ∀ (ic : IC) {Q Q' : Ex → Slots → LH → Prop} (m : ∀ e σ H, Q e σ H → Q' e σ H) {σ : Slots} {H : LH}, rnC P ic Q σ H → wpC P ic Q' σ H := by
  intro ic
  induction ic with
  | skip => intro Q Q' m σ H h; exact m _ _ _ h
  | reg ops => intro Q Q' m σ H h; exact rnOps_ok (m .norm) ops h
  | draw t => intro Q Q' m σ H h; exact rnD_ok (m .norm) t h
  | seq a b iha ihb =>
    intro Q Q' m σ H h
    refine iha (fun e σ H hk => ?_) h
    cases e with
    | norm => exact ihb m hk
    | exit i => exact m _ _ _ hk
    | ret => exact m _ _ _ hk
    | pan t k n => exact m _ _ _ hk
  | cond x a b iha ihb =>
    intro Q Q' m σ H h
    simp only [rnC] at h
    simp only [wpC]
    unfold condK at h
    split at h
    · rename_i t ht
      simp only [ht]
      exact ⟨fun e => iha m (h.1 e), fun e => ihb m (h.2 e)⟩
    · exact h.elim
  | block id a iha =>
    intro Q Q' m σ H h
    refine iha (fun e σ H hk => ?_) h
    cases e with
    | norm => exact m _ _ _ hk
    | exit i =>
      simp only at hk ⊢
      split at hk
      · rename_i e; rw [if_pos e]; exact m _ _ _ hk
      · rename_i e; rw [if_neg e]; exact m _ _ _ hk
    | ret => exact m _ _ _ hk
    | pan t k n => exact m _ _ _ hk
  | loop n a iha =>
    intro Q Q' m σ H h
    intro X hX
    refine goN_ok (h X fun σ H hb => hX σ H (iha (fun e σ H hk => ?_) hb)) fun _ _ hx => hx
    cases e with
    | norm => exact goN_ok (b := ⟨⟩) hk fun _ _ hx => hx
    | exit i => exact m _ _ _ hk
    | ret => exact m _ _ _ hk
    | pan t k n => exact m _ _ _ hk
  | exit id => intro Q Q' m σ H h; exact m _ _ _ h
  | ret => intro Q Q' m σ H h; exact m _ _ _ h
  | keep n a iha => intro Q Q' m σ H h; exact goN_ok h fun _ _ hk => iha m hk
  | pub t a iha => intro Q Q' m σ H h; exact goP_pub h fun _ hk => iha m hk
  | pubc t k a iha => intro Q Q' m σ H h; exact goP_pubc h fun _ hk => iha m hk
  | loop0 ts a iha =>
    intro Q Q' m σ H h
    intro X hX
    refine h X fun σ H hb => hX σ H (iha (fun e σ H hk => ?_) hb)
    cases e with
    | norm => exact hk
    | exit i => exact m _ _ _ hk
    | ret => exact m _ _ _ hk
    | pan t k n => exact m _ _ _ hk
  | trunc t k u a iha =>
    intro Q Q' m σ H h
    refine iha (fun e σ H hk => ?_) h
    cases e with
    | norm => exact goP_trunc (b := ⟨⟩) hk fun _ hk => m _ _ _ hk
    | exit i => exact m _ _ _ hk
    | ret => exact m _ _ _ hk
    | pan t k n => exact m _ _ _ hk
  | pan t k n => intro Q Q' m σ H h; exact m _ _ _ h
  | regc ops d u f as => intro Q Q' m σ H h; exact rnOps_ok (fun σ H hx => rnX_ok hx (fun _ _ hk => m _ _ _ hk) fun _ _ _ _ hk => m _ _ _ hk) ops h

end Go.Proofs.Ytcpdnpaedkcebaa.V
