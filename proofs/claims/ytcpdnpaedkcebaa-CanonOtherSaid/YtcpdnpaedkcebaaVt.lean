/- A small calculus over the model: code reckoned out. -/
import Derived.Test.YtcpdnpaedkcebaaVs
namespace Go.Proofs.Ytcpdnpaedkcebaa.V
open Go Go.RowKit
set_option linter.unusedVariables false
set_option linter.unusedSimpArgs false

abbrev RA := Option (Prop × List Arg × List (Nat × Option Nat) × List Nat × LH)
abbrev RC := Option (Prop × List OC × List (Nat × Option Nat) × LH)
def cPre (d : Prop) (x : OC) (m : List (Nat × Option Nat)) : RC → RC
  | some (c, l, m', H) => some (d ∧ c, x :: l, m ++ m', H)
  | none => none
def cRow (base k off len i : Nat) (H : LH) (rest : LH → RC) : Option LObj → RC
  | some (.row e xs) => cPre (off = 0 ∧ len = xs.length) (.own e xs) [(base + 1 + k, some i)] (rest (LH.set H i .dead))
  | _ => none
def cellsE (base : Nat) : List (Option Nat) → List AV → LH → Nat → RC
  | [], [], H, _ => some (True, [], [], H)
  | none :: ms, .c x :: cs, H, k => cPre True (.cv x) [] (cellsE base ms cs H (k + 1))
  | some e :: ms, .c .nilsl :: cs, H, k => cPre True (.own e []) [(base + 1 + k, none)] (cellsE base ms cs H (k + 1))
  | some e :: ms, .osl i off len :: cs, H, k => cRow base k off len i H (fun H => cellsE base ms cs H (k + 1)) (LH.get H i)
  | _, _, _, _ => none
def aPlain (H : LH) : Prop × AV → RA
  | (c, .c x) => some (c, [.cv x], [], [], H)
  | _ => none
def aViewR (H : LH) (c : Prop) (i off len : Nat) : Option LObj → RA
  | some (.row e xs) => some (c, [.cv (.sl e ((xs.drop off).take len))], [], [i], H)
  | some (.vrow e xs) => some (c, [.cv (.sl e ((xs.drop off).take len))], [], [], H)
  | _ => none
def aView (H : LH) (esz : Nat) : Prop × AV → RA
  | (c, .c .nilsl) => some (c, [.cv (.sl esz [])], [], [], H)
  | (c, .c (.sl s xs)) => some (c, [.cv (.sl s xs)], [], [], H)
  | (c, .osl i off len) => aViewR H c i off len (LH.get H i)
  | _ => none
def aMoveR (H : LH) (id i off len : Nat) : Option LObj → RA
  | some (.row e xs) => some (off = 0 ∧ len = xs.length, [.own e xs], [(id, some i)], [], LH.set H i .dead)
  | _ => none
def aMove (H : LH) (id esz : Nat) : AV → RA
  | .c .nilsl => some (True, [.own esz []], [(id, none)], [], H)
  | .osl i off len => aMoveR H id i off len (LH.get H i)
  | _ => none
def aMutrR (H : LH) (id i off len : Nat) : Option LObj → RA
  | some (.row e xs) => some (off = 0 ∧ len = xs.length, [.mutr e xs], [(id, some i)], [], LH.set H i .dead)
  | _ => none
def aMutr (H : LH) (id : Nat) : AV → RA
  | .osl i off len => aMutrR H id i off len (LH.get H i)
  | _ => none
def aPtrC (d : Prop) (id i : Nat) : RC → RA
  | some (c, ocs, m, H) => some (d ∧ c, [.obj ocs], (id, some i) :: m, [], H)
  | none => none
def aPtrR (H : LH) (id i off : Nat) (ms : List (Option Nat)) : Option LObj → RA
  | some (.obj cs) => aPtrC (off = 0 ∧ cs.length ≤ 15) id i (cellsE id ms cs (LH.set H i .dead) 0)
  | _ => none
def aPtr (H : LH) (id : Nat) (ms : List (Option Nat)) : AV → RA
  | .ref i off => aPtrR H id i off ms (LH.get H i)
  | _ => none
def argE (g : Prop) (H : LH) (id : Nat) (v : AV) : Mode → RA
  | .plain => aPlain H (ungE g v)
  | .view esz => aView H esz (ungE g v)
  | .move esz => aMove H id esz v
  | .mutr => aMutr H id v
  | .ptr ms => aPtr H id ms v
def aJoin (c : Prop) (as : List Arg) (m : List (Nat × Option Nat)) (V : List Nat) : RA → RA
  | some (c', as', m', V', H) => some (c ∧ c', as ++ as', m ++ m', V ++ V', H)
  | none => none
def aThen (rest : LH → RA) : RA → RA
  | some (c, as, m, V, H) => aJoin c as m V (rest H)
  | none => none
def argsE (g : Prop) (base : Nat) : List (AV × Mode) → LH → Nat → RA
  | [], H, _ => some (True, [], [], [], H)
  | (v, md) :: l, H, j => aThen (fun H => argsE g base l H (j + 1)) (argE g H (base + 64 * j) v md)

section
variable {P : Program} {g : Prop}
theorem cellsE_ok {base : Nat} : ∀ {ms : List (Option Nat)} {cs : List AV} {H : LH} {k : Nat} {c : Prop} {l : List OC} {m : List (Nat × Option Nat)} {H' : LH} {F : List OC → List (Nat × Option Nat) → LH → Prop},
    cellsE base ms cs H k = some (c, l, m, H') → c → F l m H' → cellsW base H ms cs k F
  | [], [], H, k, c, l, m, H', F, h, hc, hF => by cases h; exact hF
  | none :: ms, .c x :: cs, H, k, c, l, m, H', F, h, hc, hF => by
    simp only [cellsE] at h
    generalize he : cellsE base ms cs H (k + 1) = o at h
    unfold cPre at h
    split at h <;> cases h
    exact cellsE_ok (ms := ms) (cs := cs) (F := fun l m H' => F (.cv x :: l) m H') he hc.2 hF
  | some e :: ms, .c .nilsl :: cs, H, k, c, l, m, H', F, h, hc, hF => by
    simp only [cellsE] at h
    generalize he : cellsE base ms cs H (k + 1) = o at h
    unfold cPre at h
    split at h <;> cases h
    exact cellsE_ok (ms := ms) (cs := cs) (F := fun l m H' => F (.own e [] :: l) ((base + 1 + k, none) :: m) H') he hc.2 hF
  | some e :: ms, .osl i off len :: cs, H, k, c, l, m, H', F, h, hc, hF => by
    simp only [cellsE] at h
    unfold cRow at h
    split at h
    · rename_i e' xs hg
      dsimp only at h
      generalize he : cellsE base ms cs (LH.set H i .dead) (k + 1) = o at h
      unfold cPre at h
      split at h <;> cases h
      simp only [cellsW, hg]
      exact ⟨hc.1, cellsE_ok (ms := ms) (cs := cs) (F := fun l m H' => F (.own e' xs :: l) ((base + 1 + k, some i) :: m) H') he hc.2 hF⟩
    · cases h
  | [], _ :: _, H, k, c, l, m, H', F, h, hc, hF => by simp [cellsE] at h
  | none :: _, [], H, k, c, l, m, H', F, h, hc, hF => by simp [cellsE] at h
  | some _ :: _, [], H, k, c, l, m, H', F, h, hc, hF => by simp [cellsE] at h
  | none :: _, .ref _ _ :: _, H, k, c, l, m, H', F, h, hc, hF => by simp [cellsE] at h
  | none :: _, .osl _ _ _ :: _, H, k, c, l, m, H', F, h, hc, hF => by simp [cellsE] at h
  | none :: _, .eptr _ _ _ :: _, H, k, c, l, m, H', F, h, hc, hF => by simp [cellsE] at h
  | none :: _, .vptr _ :: _, H, k, c, l, m, H', F, h, hc, hF => by simp [cellsE] at h
  | none :: _, .tup _ :: _, H, k, c, l, m, H', F, h, hc, hF => by simp [cellsE] at h
  | none :: _, .grd _ _ :: _, H, k, c, l, m, H', F, h, hc, hF => by simp [cellsE] at h
  | some _ :: _, .ref _ _ :: _, H, k, c, l, m, H', F, h, hc, hF => by simp [cellsE] at h
  | some _ :: _, .eptr _ _ _ :: _, H, k, c, l, m, H', F, h, hc, hF => by simp [cellsE] at h
  | some _ :: _, .vptr _ :: _, H, k, c, l, m, H', F, h, hc, hF => by simp [cellsE] at h
  | some _ :: _, .tup _ :: _, H, k, c, l, m, H', F, h, hc, hF => by simp [cellsE] at h
  | some _ :: _, .grd _ _ :: _, H, k, c, l, m, H', F, h, hc, hF => by simp [cellsE] at h
  | some _ :: _, .c (.bool _) :: _, H, k, c, l, m, H', F, h, hc, hF => by simp [cellsE] at h
  | some _ :: _, .c (.int _ _) :: _, H, k, c, l, m, H', F, h, hc, hF => by simp [cellsE] at h
  | some _ :: _, .c (.flt _) :: _, H, k, c, l, m, H', F, h, hc, hF => by simp [cellsE] at h
  | some _ :: _, .c (.str _) :: _, H, k, c, l, m, H', F, h, hc, hF => by simp [cellsE] at h
  | some _ :: _, .c (.sl _ _) :: _, H, k, c, l, m, H', F, h, hc, hF => by simp [cellsE] at h
  | some _ :: _, .c (.agg _) :: _, H, k, c, l, m, H', F, h, hc, hF => by simp [cellsE] at h
  | some _ :: _, .c (.fn _) :: _, H, k, c, l, m, H', F, h, hc, hF => by simp [cellsE] at h
  | some _ :: _, .c .nilfn :: _, H, k, c, l, m, H', F, h, hc, hF => by simp [cellsE] at h
  | some _ :: _, .c .undef :: _, H, k, c, l, m, H', F, h, hc, hF => by simp [cellsE] at h

theorem argE_ok {H : LH} {id : Nat} {v : AV} {md : Mode} {c : Prop} {as : List Arg} {m : List (Nat × Option Nat)} {V : List Nat} {H' : LH} {F : Arg → List (Nat × Option Nat) → List Nat → LH → Prop}
    (h : argE g H id v md = some (c, as, m, V, H')) (hc : c) (hF : ∀ a, as = [a] → F a m V H') : argW g H id v md F := by
  cases md with
  | plain =>
    simp only [argE] at h
    generalize hp : ungE g v = p at h
    unfold aPlain at h
    split at h <;> cases h
    exact ungE_ok (by rw [hp]; exact hc) (by rw [hp]; exact hF _ rfl)
  | view e =>
    simp only [argE] at h
    generalize hp : ungE g v = p at h
    unfold aView at h
    split at h
    · cases h; exact ungE_ok (by rw [hp]; exact hc) (by rw [hp]; exact hF _ rfl)
    · cases h; exact ungE_ok (by rw [hp]; exact hc) (by rw [hp]; exact hF _ rfl)
    · unfold aViewR at h
      split at h <;> cases h
      · rename_i hg; exact ungE_ok (by rw [hp]; exact hc) (by rw [hp]; simp only [hg]; exact hF _ rfl)
      · rename_i hg; exact ungE_ok (by rw [hp]; exact hc) (by rw [hp]; simp only [hg]; exact hF _ rfl)
    · cases h
  | move e =>
    simp only [argE] at h
    simp only [argW]
    unfold aMove at h
    split at h
    · cases h; exact hF _ rfl
    · unfold aMoveR at h
      split at h <;> cases h
      rename_i hg; simp only [hg]; exact ⟨hc, hF _ rfl⟩
    · cases h
  | mutr =>
    simp only [argE] at h
    simp only [argW]
    unfold aMutr at h
    split at h
    · unfold aMutrR at h
      split at h <;> cases h
      rename_i hg; simp only [hg]; exact ⟨hc, hF _ rfl⟩
    · cases h
  | ptr ms =>
    simp only [argE] at h
    simp only [argW]
    unfold aPtr at h
    split at h
    · unfold aPtrR at h
      split at h
      · rename_i cs hg
        generalize he : cellsE id ms cs _ 0 = o at h
        unfold aPtrC at h
        split at h <;> cases h
        simp only [hg]
        exact ⟨hc.1, cellsE_ok he hc.2 (hF _ rfl)⟩
      · cases h
    · cases h
theorem argE_one {H : LH} {id : Nat} {v : AV} {md : Mode} {c : Prop} {as : List Arg} {m : List (Nat × Option Nat)} {V : List Nat} {H' : LH}
    (h : argE g H id v md = some (c, as, m, V, H')) : ∃ a, as = [a] := by
  cases md <;> simp only [argE] at h
  · unfold aPlain at h; split at h <;> cases h; exact ⟨_, rfl⟩
  · unfold aView at h
    split at h
    · cases h; exact ⟨_, rfl⟩
    · cases h; exact ⟨_, rfl⟩
    · unfold aViewR at h; split at h <;> cases h <;> exact ⟨_, rfl⟩
    · cases h
  · unfold aMove at h
    split at h
    · cases h; exact ⟨_, rfl⟩
    · unfold aMoveR at h; split at h <;> cases h; exact ⟨_, rfl⟩
    · cases h
  · unfold aMutr at h
    split at h
    · unfold aMutrR at h; split at h <;> cases h; exact ⟨_, rfl⟩
    · cases h
  · unfold aPtr at h
    split at h
    · unfold aPtrR at h
      split at h
      · unfold aPtrC at h; split at h <;> cases h; exact ⟨_, rfl⟩
      · cases h
    · cases h
theorem argsE_ok {base : Nat} : ∀ {l : List (AV × Mode)} {H : LH} {j : Nat} {c : Prop} {as : List Arg} {m : List (Nat × Option Nat)} {V : List Nat} {H' : LH} {F : List Arg → List (Nat × Option Nat) → List Nat → LH → Prop},
    argsE g base l H j = some (c, as, m, V, H') → c → F as m V H' → argsW g base H l j F
  | [], H, j, c, as, m, V, H', F, h, hc, hF => by cases h; exact hF
  | (v, md) :: l, H, j, c, as, m, V, H', F, h, hc, hF => by
    simp only [argsE] at h
    generalize he : argE g H (base + 64 * j) v md = o at h
    unfold aThen at h
    split at h
    · rename_i c1 as1 m1 V1 H1
      dsimp only at h
      generalize he2 : argsE g base l H1 (j + 1) = o2 at h
      cases o2 with
      | none => cases h
      | some x =>
      obtain ⟨c2, as2, m2, V2, H2⟩ := x
      cases h
      obtain ⟨a, rfl⟩ := argE_one he
      exact argE_ok he hc.1 fun a' ha => by cases ha; exact argsE_ok (l := l) (F := fun as' m' V' H'' => F (a :: as') (m1 ++ m') (V1 ++ V') H'') he2 hc.2 hF
    · cases h
end

abbrev RK := Option (Prop × AV × List (Nat × Option Nat) × LH × LH)
abbrev RL := Option (Prop × List AV × List (Nat × Option Nat) × LH × LH)
abbrev RO := Option (Prop × List (Nat × Option Nat) × LH × LH)
abbrev RS := Option (Prop × Slots × List (Nat × Option Nat) × LH × LH)
def kin (i : Nat) : List (Nat × List KM) → Prop
  | [] => False
  | (k, _) :: l => k = i ∨ kin i l
def kPlain (obs : List (Nat × List KM)) (H : LH) : AV → RK
  | .c x => some (True, .c x, [], [], H)
  | .ref i off => some (kin i obs, .ref i off, [], [], H)
  | _ => none
def kOwnR (H : LH) (esz id i off len : Nat) : Option LObj → RK
  | some (.row e xs) => some ((960000 ≤ id ∧ id < argBase ∨ id = i) ∧ off = 0 ∧ len = xs.length ∧ e = esz, .osl id 0 xs.length, [(id, some i)], [(id, .row esz xs)], LH.set H i .dead)
  | _ => none
def kOwn (H : LH) (esz id : Nat) : AV → RK
  | .c .nilsl => some (960000 ≤ id ∧ id < argBase, .osl id 0 0, [(id, none)], [(id, .row esz [])], H)
  | .osl i off len => kOwnR H esz id i off len (LH.get H i)
  | _ => none
def keepE (obs : List (Nat × List KM)) (H : LH) (v : AV) : KM → RK
  | .plain => kPlain obs H v
  | .own esz id => kOwn H esz id v
def klPre (c : Prop) (v : AV) (m : List (Nat × Option Nat)) (n : LH) : RL → RL
  | some (c', l, m', n', H) => some (c ∧ c', v :: l, m ++ m', n ++ n', H)
  | none => none
def klThen (rest : LH → RL) : RK → RL
  | some (c, v, m, n, H) => klPre c v m n (rest H)
  | none => none
def keepCellsE : List KM → List AV → LH → RL
  | [], [], H => some (True, [], [], [], H)
  | md :: ms, v :: cs, H => klThen (fun H => keepCellsE ms cs H) (keepE [] H v md)
  | _, _, _ => none
def koPre (i : Nat) (c : Prop) (cs : List AV) (m : List (Nat × Option Nat)) (n : LH) : RO → RO
  | some (c', m', n', H) => some (c ∧ c', (i, some i) :: m ++ m', (i, .obj cs) :: n ++ n', H)
  | none => none
def koThen (i : Nat) (rest : LH → RO) : RL → RO
  | some (c, cs, m, n, H) => koPre i c cs m n (rest H)
  | none => none
def koR (i : Nat) (ms : List KM) (H : LH) (rest : LH → RO) : Option LObj → RO
  | some (.obj cs) => koThen i rest (keepCellsE ms cs (LH.set H i .dead))
  | _ => none
def keepObjsE : List (Nat × List KM) → LH → RO
  | [], H => some (True, [], [], H)
  | (i, ms) :: l, H => koR i ms H (fun H => keepObjsE l H) (LH.get H i)
def ksPre (t : Nat) (c : Prop) (v : AV) (m : List (Nat × Option Nat)) (n : LH) : RS → RS
  | some (c', σ, m', n', H) => some (c ∧ c', (t, v) :: σ, m ++ m', n ++ n', H)
  | none => none
def ksThen (t : Nat) (rest : LH → RS) : RK → RS
  | some (c, v, m, n, H) => ksPre t c v m n (rest H)
  | none => none
def keepSlotsE (obs : List (Nat × List KM)) (σ : Slots) : List (Nat × KM) → LH → RS
  | [], H => some (True, [], [], [], H)
  | (t, md) :: l, H => ksThen t (fun H => keepSlotsE obs σ l H) (keepE obs H (Slots.get σ t) md)
def nFin (c : Prop) (σ' : Slots) (m : List (Nat × Option Nat)) (n : LH) : RO → Option (Prop × Slots × LH)
  | some (c', m', n', _) => some (c ∧ c' ∧ ((m ++ m').map (·.1)).Nodup ∧ ((n ++ n').map (·.1)).Nodup, σ', n ++ n')
  | none => none
def nThen (obs : List (Nat × List KM)) : RS → Option (Prop × Slots × LH)
  | some (c, σ', m, n, H) => nFin c σ' m n (keepObjsE obs H)
  | none => none
def normE (σ : Slots) (H : LH) : Norm → Option (Prop × Slots × LH)
  | ⟨sl, ob⟩ => nThen ob (keepSlotsE ob σ sl H)

theorem kin_ok {i : Nat} : ∀ {obs : List (Nat × List KM)}, kin i obs → ∃ ms, (i, ms) ∈ obs
  | [], h => h.elim
  | (k, ms) :: l, h => by
    rcases h with rfl | h
    · exact ⟨ms, List.mem_cons_self⟩
    · obtain ⟨m, hm⟩ := kin_ok h; exact ⟨m, List.mem_cons_of_mem _ hm⟩
theorem keepE_ok {obs : List (Nat × List KM)} {H : LH} {v : AV} {md : KM} {c : Prop} {v' : AV} {m : List (Nat × Option Nat)} {n H' : LH} {F : AV → List (Nat × Option Nat) → LH → LH → Prop}
    (h : keepE obs H v md = some (c, v', m, n, H')) (hc : c) (hF : F v' m n H') : keepW obs H v md F := by
  cases md with
  | plain =>
    simp only [keepE] at h
    unfold kPlain at h
    split at h
    · cases h; exact hF
    · cases h; exact ⟨kin_ok hc, hF⟩
    · cases h
  | own esz id =>
    simp only [keepE] at h
    simp only [keepW]
    unfold kOwn at h
    split at h
    · cases h; exact ⟨hc, hF⟩
    · unfold kOwnR at h
      split at h <;> cases h
      rename_i hg; simp only [hg]; exact ⟨hc, hF⟩
    · cases h
theorem keepCellsE_ok : ∀ {ms : List KM} {cs : List AV} {H : LH} {c : Prop} {l : List AV} {m : List (Nat × Option Nat)} {n H' : LH} {F : List AV → List (Nat × Option Nat) → LH → LH → Prop},
    keepCellsE ms cs H = some (c, l, m, n, H') → c → F l m n H' → keepCellsW H ms cs F
  | [], [], H, c, l, m, n, H', F, h, hc, hF => by cases h; exact hF
  | md :: ms, v :: cs, H, c, l, m, n, H', F, h, hc, hF => by
    simp only [keepCellsE] at h
    unfold klThen at h
    split at h
    · rename_i c1 v1 m1 n1 H1 he
      dsimp only at h
      generalize he2 : keepCellsE ms cs H1 = o2 at h
      cases o2 with
      | none => cases h
      | some x =>
      obtain ⟨c2, l2, m2, n2, H2⟩ := x
      cases h
      exact keepE_ok he hc.1 (keepCellsE_ok (F := fun l m' n' H'' => F (v1 :: l) (m1 ++ m') (n1 ++ n') H'') he2 hc.2 hF)
    · cases h
  | [], _ :: _, H, c, l, m, n, H', F, h, hc, hF => by simp [keepCellsE] at h
  | _ :: _, [], H, c, l, m, n, H', F, h, hc, hF => by simp [keepCellsE] at h
theorem keepObjsE_ok : ∀ {l : List (Nat × List KM)} {H : LH} {c : Prop} {m : List (Nat × Option Nat)} {n H' : LH} {F : List (Nat × Option Nat) → LH → LH → Prop},
    keepObjsE l H = some (c, m, n, H') → c → F m n H' → keepObjsW H l F
  | [], H, c, m, n, H', F, h, hc, hF => by cases h; exact hF
  | (i, ms) :: l, H, c, m, n, H', F, h, hc, hF => by
    simp only [keepObjsE] at h
    unfold koR at h
    split at h
    · rename_i cs hg
      unfold koThen at h
      split at h
      · rename_i c1 cs1 m1 n1 H1 he
        dsimp only at h
        generalize he2 : keepObjsE l H1 = o2 at h
        cases o2 with
        | none => cases h
        | some x =>
        obtain ⟨c2, m2, n2, H2⟩ := x
        cases h
        simp only [keepObjsW, hg]
        exact keepCellsE_ok he hc.1 (keepObjsE_ok (F := fun m' n' H'' => F ((i, some i) :: m1 ++ m') ((i, .obj cs1) :: n1 ++ n') H'') he2 hc.2 hF)
      · cases h
    · cases h
theorem keepSlotsE_ok {obs : List (Nat × List KM)} {σ : Slots} : ∀ {l : List (Nat × KM)} {H : LH} {c : Prop} {σ' : Slots} {m : List (Nat × Option Nat)} {n H' : LH} {F : Slots → List (Nat × Option Nat) → LH → LH → Prop},
    keepSlotsE obs σ l H = some (c, σ', m, n, H') → c → F σ' m n H' → keepSlotsW obs σ H l F
  | [], H, c, σ', m, n, H', F, h, hc, hF => by cases h; exact hF
  | (t, md) :: l, H, c, σ', m, n, H', F, h, hc, hF => by
    simp only [keepSlotsE] at h
    unfold ksThen at h
    split at h
    · rename_i c1 v1 m1 n1 H1 he
      dsimp only at h
      generalize he2 : keepSlotsE obs σ l H1 = o2 at h
      cases o2 with
      | none => cases h
      | some x =>
      obtain ⟨c2, l2, m2, n2, H2⟩ := x
      cases h
      exact keepE_ok he hc.1 (keepSlotsE_ok (F := fun σ' m' n' H'' => F ((t, v1) :: σ') (m1 ++ m') (n1 ++ n') H'') he2 hc.2 hF)
    · cases h
theorem normE_ok {N : Norm} {σ : Slots} {H : LH} {c : Prop} {σ' : Slots} {H' : LH} {Y : Slots → LH → Prop} (h : normE σ H N = some (c, σ', H')) (hc : c) (hY : Y σ' H') : normW N σ H Y := by
  obtain ⟨sl, ob⟩ := N
  simp only [normE] at h
  unfold nThen at h
  split at h
  · rename_i c1 σ1 m1 n1 H1 he
    generalize he2 : keepObjsE ob H1 = o2 at h
    cases o2 with
    | none => cases h
    | some x =>
    obtain ⟨c2, m2, n2, H2⟩ := x
    cases h
    exact keepSlotsE_ok he hc.1 (keepObjsE_ok he2 hc.2.1 ⟨hc.2.2, hY⟩)
  · cases h

def goN (Y : Slots → LH → Prop) (b : Bar Y) : Option (Prop × Slots × LH) → Prop
  | some (c, σ, H) => c ∧ Y σ H
  | none => False
theorem goN_some {Y : Slots → LH → Prop} {b : Bar Y} {c : Prop} {σ : Slots} {H : LH} : goN Y b (some (c, σ, H)) = (c ∧ Y σ H) := (rfl)
theorem goN_ok {N : Norm} {σ : Slots} {H : LH} {Y Y' : Slots → LH → Prop} {b : Bar Y} (h : goN Y b (normE σ H N)) (f : ∀ σ H, Y σ H → Y' σ H) : normW N σ H Y' := by
  generalize he : normE σ H N = o at h
  cases o with
  | none => exact h.elim
  | some x => obtain ⟨c, σ', H'⟩ := x; exact normE_ok he h.1 (f _ _ h.2)
end Go.Proofs.Ytcpdnpaedkcebaa.V
