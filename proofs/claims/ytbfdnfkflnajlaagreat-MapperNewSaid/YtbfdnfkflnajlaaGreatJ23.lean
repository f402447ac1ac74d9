/-
  thin: Need. thin: enough, CanCreate, CanClone, CanWrite. mapper: changes. mapper: a look at the kinds of notes. mapper: New, header, numbers, note.
-/
import Derived.Test.YtbfdnfkflnajlaaGreatJ10
import Derived.Test.YtbfdnfkflnajlaaGreatJ14
import Derived.Test.YtbfdnfkflnajlaaGreatJ22
import Derived.Laws.IdiomStrings
set_option linter.unusedVariables false
set_option linter.unusedSimpArgs false
/-! thin: Need. -/
namespace Go.Proofs.YtbfdnfkflnajlaaGreat
open Go.RowKit
open Ext hiding One

/-- how many of the slots from one to another have the count 1. -/
def Fam.ones (f : Fam) (a b : Int) : Int := sumTo (fun s => if f.cnt s = 1 then occ1 a b s else 0) f.slots
theorem sumTo_point (p : Nat) (c : Int) : ∀ n : Nat, sumTo (fun s => if s = p then c else 0) n = if p < n then c else 0
  | 0 => by simp [sumTo]
  | n + 1 => by
    simp only [sumTo]
    rw [sumTo_point p c n]
    split <;> split <;> split <;> omega
theorem ones_self (f : Fam) (a : Int) : f.ones a a = 0 := by
  unfold Fam.ones
  rw [sumTo_congr (g := fun _ => 0) (fun i _ => by unfold occ1; split; (split <;> omega); rfl), sumTo_zero]
theorem ones_step {f : Fam} {a : Int} {j : Nat} (h1 : a ≤ j) (h2 : j < f.slots) : f.ones a (j + 1 : Nat) = f.ones a j + if ofI f.cs j = 1 then 1 else 0 := by
  have hof : ofI f.cs (j : Int) = f.cnt j := by
    unfold ofI
    rw [if_neg (by omega), Int.toNat_natCast, Fam.cs_get h2]
    rfl
  rw [hof]
  unfold Fam.ones
  have e : (if f.cnt j = 1 then (1 : Int) else 0) = sumTo (fun s => if s = j then (if f.cnt j = 1 then 1 else 0) else 0) f.slots := by rw [sumTo_point, if_pos h2]
  rw [e, ← sumTo_add]
  refine sumTo_congr fun i _ => ?_
  unfold occ1
  by_cases hij : i = j
  · subst hij
    simp only [if_true]
    split <;> (try split) <;> (try split) <;> omega
  · rw [if_neg hij]
    split <;> (try split) <;> (try split) <;> omega
theorem exc_snoc (f : Fam) (l : List Ext) (x : Ext) : f.exc (l ++ [x]) = f.exc l + f.ones x.slot (x.slot + x.len) := by
  unfold Fam.exc Fam.ones
  rw [← sumTo_add]
  refine sumTo_congr fun i _ => ?_
  rw [occL_append]
  simp only [occL]
  split <;> omega
theorem exc_nil (f : Fam) : f.exc [] = 0 := by
  unfold Fam.exc
  rw [sumTo_congr (g := fun _ => 0) (fun i _ => by simp [occL]), sumTo_zero]
theorem exc_take {f : Fam} {l : List Ext} {k : Nat} {x : Ext} (hx : l[k]? = some x) : f.exc (l.take (k + 1)) = f.exc (l.take k) + f.ones x.slot (x.slot + x.len) := by
  have hk : k < l.length := (List.getElem?_eq_some_iff.1 hx).1
  rw [List.take_succ_eq_append_getElem hk, exc_snoc, show l[k] = x from (List.getElem?_eq_some_iff.1 hx).2]
theorem ones_bound {f : Fam} (a b : Int) : 0 ≤ f.ones a b ∧ f.ones a b ≤ f.slots := sumTo_bound (fun i => by unfold occ1; split; (split <;> omega); omega) f.slots
/-- the need of a range, and the error. -/
def Fam.needV (f : Fam) (nm : List UInt8) (a n : Int) : Int × Int := if (f.range nm a n).2 = 0 then (n - f.exc (f.range nm a n).1, 0) else (0, (f.range nm a n).2)
set_option maxRecDepth 100000 in
set_option maxHeartbeats 2000000 in
theorem need_any {v : Value} {f : Fam} {nm : List UInt8} {a n : Int} {W0 : World} (h : FamR W0 v f) (hf : f.WF) (hnm : nm.length ≤ 1000000) (ha : smallI a) (hn : smallI n)
    (hl : inL1 f.slots (f.range nm a n).1) (hl1 : ∀ k, 0 ≤ f.exc ((f.range nm a n).1.take k) ∧ f.exc ((f.range nm a n).1.take k) ≤ 100000) (hln : (f.range nm a n).1.length ≤ 100000) :
    Calls Tryz.prog 56 #[v, strV nm, .int .i64 a, .int .i64 n] W0 (RetII (f.needV nm a n) W0) := by
  have h0 := h
  obtain ⟨s, mp, rfl, hs, hm⟩ := h
  obtain ⟨A, cap, rfl, -, -, -⟩ := hs.shape
  have hW := Grw.alloc W0 (.cells #[.slice A f.cs.length cap, .map mp] 76)
  have b1 := alloc_blk W0 (.cells #[.slice A f.cs.length cap, .map mp] 76)
  have c1 := range_fam (n := n) (h0.grw hW) hf hnm ha
  have c2 := fun (W : World) (hg : Grw W0 W) (k : Nat) (hk : k ≤ 65536) => count_fam (k := (k : Int)) (h0.grw hg) (by unfold smallI; omega)
  have hsl := hf.slots
  unfold smallI at hn ha
  unfold Fam.needV
  have hones : ∀ x y, 0 ≤ f.ones x y ∧ f.ones x y ≤ f.slots := fun x y => ones_bound x y
  have hstep : ∀ (a : Int) (j : Nat), a ≤ j → j < f.slots → f.ones a (j + 1 : Nat) = f.ones a j + if ofI f.cs j = 1 then 1 else 0 := fun a j h1 h2 => ones_step h1 h2
  obtain ⟨⟨l, er⟩, hr⟩ : ∃ r, f.range nm a n = r := ⟨_, rfl⟩
  rw [hr] at c1 hl hl1 hln ⊢
  simp only at hl hl1 hln ⊢
  replace c2 : Aside (∀ (W : World) (hg : Grw W0 W) (k : Nat) (hk : k ≤ 65536), _) := c2
  replace hones : Aside (∀ x y, 0 ≤ f.ones x y ∧ f.ones x y ≤ f.slots) := hones
  replace hstep : Aside (∀ (a : Int) (j : Nat), a ≤ j → j < f.slots → f.ones a (j + 1 : Nat) = f.ones a j + if ofI f.cs j = 1 then 1 else 0) := hstep
  replace hl1 : Aside (∀ k, 0 ≤ f.exc (l.take k) ∧ f.exc (l.take k) ≤ 100000) := hl1
  replace hl : Aside (inL1 f.slots l) := hl
  clear h0 hs hm hr hf
  by_cases he : er = 0
  · subst he
    rw [if_pos rfl]
    generalize hCL : f.cs.length = CL at *
    clear hCL
    go_enter Tryz.func56, Tryz.ntmps56
    go_wp2_with (go_at_call 43; refine c1.mono ?_; clear c1; rintro e w1 ⟨vl, rfl, ho, g1⟩; replace b1 := g1.blk b1; obtain ⟨Al, capl, rfl, hc, hml, hx⟩ := ho.exts.shape)
    have hgA := hW.then g1
    unfold maxLen at hml
    replace hx : Aside (∀ i x, l[i]? = some x → ∃ b off, Al = some ⟨b, off, none⟩ ∧ w1.cell? ⟨b, off + i * 3, none⟩ = some (.int .i64 x.at_) ∧ w1.cell? ⟨b, off + i * 3 + 1, none⟩ = some (.int .i64 x.len) ∧ w1.cell? ⟨b, off + i * 3 + 2, none⟩ = some (.int .i64 x.slot)) := hx
    clear ho
    go_loopg [3, 28] l.length (fun g s3 i wr => ∃ k : Nat, k ≤ l.length ∧ g = l.length - k ∧ i = .int .i64 k ∧ s3 = .int .i64 (n - f.exc (l.take k)) ∧ Grw w1 wr)
    case atStart => exact ⟨0, Nat.zero_le _, rfl, rfl, by simp [exc_nil], Grw.self _⟩
    case round =>
      obtain ⟨k, hk, rfl, rfl, rfl, hg⟩ := hrel
      by_cases hlt : k < l.length
      · obtain ⟨x, hlx⟩ : ∃ x, l[k]? = some x := ⟨l[k], List.getElem?_eq_getElem hlt⟩
        obtain ⟨b2, off, rfl, p0, p1, p2⟩ := hx.out k x hlx
        replace p0 := Grw.cell p0 _ hg
        replace p1 := Grw.cell p1 _ hg
        replace p2 := Grw.cell p2 _ hg
        obtain ⟨i1, i2, i3⟩ := hl.out x (List.mem_of_getElem? hlx)
        have e1 := hl1.out k
        have e2 := hl1.out (k + 1)
        have hsk : f.exc (l.take (k + 1)) = f.exc (l.take k) + f.ones x.slot (x.slot + x.len) := exc_take hlx
        obtain ⟨S0, hS0⟩ : ∃ S, f.exc (l.take k) = S := ⟨_, rfl⟩
        rw [hS0] at e1 hsk ⊢
        replace hsk : Aside (f.exc (l.take (k + 1)) = S0 + f.ones x.slot (x.slot + x.len)) := hsk
        clear hlx hx hS0 e2
        obtain ⟨T, hT0⟩ : ∃ T, x.slot + x.len = T := ⟨_, rfl⟩
        have hw1 : IntKind.i64.wrap (x.slot + x.len) = T := by rw [wrapI (by omega) (by omega), hT0]
        go_wp2
        have hbox := alloc_blk wr (.cells #[.int .i64 x.at_, .int .i64 x.len, .int .i64 x.slot] 105)
        have hg2 := hg.alc (.cells #[.int .i64 x.at_, .int .i64 x.len, .int .i64 x.slot] 105)
        generalize wr.alloc (.cells #[.int .i64 x.at_, .int .i64 x.len, .int .i64 x.slot] 105) = wa at hg2 hbox ⊢
        clear p0 p1 p2 hg
        obtain ⟨bx, hbx⟩ : ∃ bx, wr.heap.size = bx := ⟨_, rfl⟩
        rw [hbx] at hbox ⊢
        obtain ⟨j0, hj0⟩ : ∃ j0 : Nat, x.slot = j0 := ⟨x.slot.toNat, by omega⟩
        replace hT0 : Aside (x.slot + x.len = T) := hT0
        have hTn : T ≤ f.slots := by have := hT0.out; omega
        have hTj : x.slot ≤ T := by have := hT0.out; omega
        go_loopg [3, 14] (T - x.slot).toNat (fun g s3 s14 wx => ∃ (j : Nat) (c : Int), s14 = .int .i64 (j : Int) ∧ x.slot ≤ j ∧ (j : Int) ≤ T ∧ g = (T - j).toNat ∧ s3 = .int .i64 c ∧ Aside (c = n - S0 - f.ones x.slot j) ∧ Grw wa wx)
        case atStart => exact ⟨j0, n - S0, by rw [hj0], by omega, by omega, by rw [hj0], rfl, (by rw [← hj0, ones_self]; omega : n - S0 = n - S0 - f.ones x.slot j0), Grw.self _⟩
        case round =>
          clear hj0
          obtain ⟨j, c, rfl, hj1, hj2, rfl, rfl, hcj, hgx⟩ := hrel
          have hbox := hgx.blk hbox
          obtain ⟨-, d1, d2⟩ := ext_cells hbox
          have hgB := hgA.then (hg2.then hgx)
          have b1 := hgx.blk (hg2.blk b1)
          have u0 := blk_cell b1 0
          have u1 := blk_cell b1 1
          simp only [List.getElem?_toArray, List.getElem?_cons_zero, List.getElem?_cons_succ] at u0 u1
          by_cases hjl : (j : Int) < T
          · have hjn : j < f.slots := by omega
            have c3 := c2.out _ hgB j (by omega)
            have hon := hones.out x.slot j
            have hcb : -1000200000 ≤ c ∧ c ≤ 1000200000 := by have := hcj.out; omega
            have hst := hstep.out x.slot j hj1 hjn
            have hwj : IntKind.i64.wrap (c - 1) = c - 1 := wrapI (by omega) (by omega)
            obtain ⟨OF, hOF⟩ : ∃ o, ofI f.cs (j : Int) = o := ⟨_, rfl⟩
            rw [hOF] at c3 hst
            replace hst : Aside (f.ones x.slot (j + 1 : Nat) = f.ones x.slot j + if OF = 1 then 1 else 0) := hst
            replace hcj : Aside (c = n - S0 - f.ones x.slot j) := hcj
            clear hOF hon
            by_cases h1 : OF = 1
            · subst h1
              go_wp2_with (go_at_call 63; refine c3.mono ?_; clear c3; rintro e w3 ⟨rfl, g3⟩)
              go_roundg (T - ((j + 1 : Nat) : Int)).toNat
              case measure => omega
              case rel => exact ⟨j + 1, c - 1, by simp, by omega, by omega, rfl, rfl, (by rw [hst.out]; have := hcj.out; simp only [if_true]; omega : c - 1 = n - S0 - f.ones x.slot (j + 1 : Nat)), hgx.then g3⟩
            · go_wp2_with (go_at_call 63; refine c3.mono ?_; clear c3; rintro e w3 ⟨rfl, g3⟩)
              go_roundg (T - ((j + 1 : Nat) : Int)).toNat
              case measure => omega
              case rel => exact ⟨j + 1, c, by simp, by omega, by omega, rfl, rfl, (by rw [hst.out]; have := hcj.out; rw [if_neg h1]; omega : c = n - S0 - f.ones x.slot (j + 1 : Nat)), hgx.then g3⟩
          · have hjT : (j : Int) = T := by omega
            have hend : Aside (c = n - f.exc (l.take (k + 1))) := (by rw [hsk.out, hT0.out, ← hjT]; have := hcj.out; omega : c = n - f.exc (l.take (k + 1)))
            replace hcj := True.intro
            go_wp2
            go_roundg (l.length - (k + 1))
            case measure => omega
            case rel => exact ⟨k + 1, by omega, rfl, by simp, by rw [hend.out], hg2.then hgx⟩
      · obtain rfl : k = l.length := by omega
        clear hx
        rw [List.take_length]
        go_wp2
        refine bodyPost_ret (v := .tuple #[.int .i64 (n - f.exc l), .int .i64 0]) (by simp [results, Tryz.results56, go_sem]) rfl ⟨rfl, hgA.then hg⟩
  · rw [if_neg he]
    generalize f.cs.length = CL at *
    have he2 : (er == 0) = false := by simp [he]
    go_enter Tryz.func56, Tryz.ntmps56
    go_wp2_with (go_at_call 43; refine c1.mono ?_; clear c1; rintro e w1 ⟨vl, rfl, ho, g1⟩)
    refine bodyPost_ret (v := .tuple #[.int .i64 0, .int .i64 er]) (by simp [results, Tryz.results56, go_sem]) rfl ⟨rfl, hW.then g1⟩
end Go.Proofs.YtbfdnfkflnajlaaGreat

/-! thin: enough, CanCreate, CanClone, CanWrite. -/
namespace Go.Proofs.YtbfdnfkflnajlaaGreat
open Go.RowKit
open Ext hiding One

theorem occL_take (l : List Ext) (k i : Nat) : occL (l.take k) i ≤ occL l i := by
  have e : occL l i = occL (l.take k) i + occL (l.drop k) i := by rw [← occL_append, List.take_append_drop]
  have := (occL_bound (l.drop k) i).1
  omega
theorem exc_in {f : Fam} {v : Vol} (hv : v ∈ f.vols) {l : List Ext} (h : ∀ i, occL l i ≤ occL v.l i) : 0 ≤ f.exc l ∧ f.exc l ≤ f.slots := by
  refine sumTo_bound (fun i => ?_) f.slots
  have h1 := cntVs_mem hv i
  have h2 := (occL_bound l i).1
  have h3 := h i
  split
  · rename_i h
    unfold Fam.cnt at h
    omega
  · omega
theorem exc_zero {f : Fam} {l : List Ext} (h : l = []) : 0 ≤ f.exc l ∧ f.exc l ≤ 100000 := by
  subst h
  rw [exc_nil]
  omega
theorem range_ok {f : Fam} (hf : f.WF) (nm : List UInt8) (a n : Int) : inL1 f.slots (f.range nm a n).1 ∧ (∀ k, 0 ≤ f.exc ((f.range nm a n).1.take k) ∧ f.exc ((f.range nm a n).1.take k) ≤ 100000) ∧ (f.range nm a n).1.length ≤ 100000 := by
  unfold Fam.range
  cases hg : getV f.vols nm with
  | none => exact ⟨inL1.nil _, fun k => exc_zero (by simp), by simp⟩
  | some v =>
    simp only
    split
    · rename_i h
      obtain ⟨h0, h1, h2⟩ := h
      have hv := (getV_some hg).1
      obtain ⟨_, h3, h4, h5, h6, h7, h8, h9⟩ := hf.vols v hv
      have hi := inL_in h7 h9 h0 h1 (by omega : a + n ≤ 65536)
      refine ⟨hi, fun k => ?_, ?_⟩
      · have := exc_in hv (l := (inL v.l a n).take k) (fun i => by
          have e := occL_cut h7 h0 h1 (by omega : a + n ≤ 65536) i
          have := (occL_bound (cutL v.l a n) i).1
          have := occL_take (inL v.l a n) k i
          omega)
        have := hf.slots
        simp only
        omega
      · have hN := inL_NF h7 a n
        have := (hN.len (n := v.n) (fun x hx => by have := inL_range h7 x hx; omega) (by omega)).2
        simp only
        omega
    · exact ⟨inL1.nil _, fun k => exc_zero (by simp), by simp⟩
def enoughI (want have_ : Int) : Int := if want > have_ then 11 else 0
set_option maxRecDepth 100000 in
set_option maxHeartbeats 1000000 in
theorem enough_any {a b : Int} {W0 : World} :
    Calls Tryz.prog 96 #[.int .i64 a, .int .i64 b] W0 fun e w' => e = .returned (.int .i64 (enoughI a b)) ∧ Grw W0 w' := by
  unfold enoughI
  by_cases h : a > b
  · rw [if_pos h]
    go_enter Tryz.func96, Tryz.ntmps96
    go_wp2
    go_ret
    exact ⟨rfl, Grw.self _⟩
  · rw [if_neg h]
    go_enter Tryz.func96, Tryz.ntmps96
    go_wp2
    go_ret
    exact ⟨rfl, Grw.self _⟩
theorem room_bound {f : Fam} (hf : f.WF) : -2097152 ≤ f.room ∧ f.room ≤ 65536 := by
  have := claims_le hf
  have := free_bound f
  have := hf.slots
  unfold Fam.room
  omega
set_option maxRecDepth 100000 in
set_option maxHeartbeats 1000000 in
theorem can_create_any {v : Value} {f : Fam} {n r : Int} {W0 : World} (h : FamR W0 v f) (hf : f.WF) (hn : 1 ≤ n ∧ n ≤ 65536) (hr : 0 ≤ r ∧ r ≤ n) :
    Calls Tryz.prog 46 #[v, .int .i64 n, .int .i64 r] W0 fun e w' => e = .returned (.int .i64 (enoughI r f.room)) ∧ Grw W0 w' := by
  have h0 := h
  obtain ⟨s, mp, rfl, hs, hm⟩ := h
  obtain ⟨A, cap, rfl, -, -, -⟩ := hs.shape
  have hW := Grw.alloc W0 (.cells #[.slice A f.cs.length cap, .map mp] 76)
  have c1 := room_any (h0.grw hW) hf
  have c2 := fun (W : World) => enough_any (a := r) (b := f.room) (W0 := W)
  have k1 : ¬ n < 1 := by omega
  have k2 : ¬ n > 65536 := by omega
  have k3 : ¬ r < 0 := by omega
  have k4 : ¬ r > n := by omega
  generalize f.cs.length = CL at *
  generalize f.room = RM at *
  generalize enoughI r RM = EN at *
  clear h0 hs hm hn hr hf
  go_enter Tryz.func46, Tryz.ntmps46
  go_wp2_with (first
    | (go_at_call 31; refine c1.mono ?_; clear c1; rintro e w1 ⟨rfl, g1⟩)
    | (go_at_call 96; refine (c2 _).mono ?_; clear c2; rintro e w2 ⟨rfl, g2⟩))
  go_ret
  exact ⟨rfl, (hW.then g1).then g2⟩
set_option maxRecDepth 100000 in
set_option maxHeartbeats 2000000 in
theorem can_clone_any {v : Value} {f : Fam} {nm : List UInt8} {u : Vol} {W0 : World} (h : FamR W0 v f) (hf : f.WF) (hnm : nm.length ≤ 1000000) (hg : getV f.vols nm = some u) :
    Calls Tryz.prog 77 #[v, strV nm] W0 fun e w' => e = .returned (.int .i64 (enoughI (u.res - f.claim u) f.room)) ∧ Grw W0 w' := by
  have h0 := h
  obtain ⟨s, mp, rfl, hs, hm⟩ := h
  obtain ⟨A, cap, rfl, -, -, -⟩ := hs.shape
  have hW := Grw.alloc W0 (.cells #[.slice A f.cs.length cap, .map mp] 76)
  have b1 := alloc_blk W0 (.cells #[.slice A f.cs.length cap, .map mp] 76)
  have c1 := info_any (h0.grw hW) hf hnm
  have e1 : f.infoV nm = (infoV nm u.n u.res (sumL u.l) (f.exc u.l), 0) := by unfold Fam.infoV; rw [hg]
  rw [e1] at c1
  have hu := (getV_some hg).1
  have hcb := claim_bound hf hu
  obtain ⟨_, _, h3, h4, h5, _⟩ := hf.vols u hu
  have hxb := exc_bound hu
  have hsl := hf.slots
  have c2 := fun (W : World) => claim_any (nm := nm) (n := u.n) (r := u.res) (m := sumL u.l) (x := f.exc u.l) (W0 := W) (by unfold smallI; omega) (by unfold smallI; omega)
  rw [show max 0 (u.res - f.exc u.l) = f.claim u from rfl] at c2
  have c3 := fun (W : World) (hg : Grw W0 W) => room_any (h0.grw hg) hf
  have c4 := fun (W : World) => enough_any (a := u.res - f.claim u) (b := f.room) (W0 := W)
  have hw : IntKind.i64.wrap (u.res - f.claim u) = u.res - f.claim u := wrapI (by omega) (by omega)
  unfold infoV at c1 c2
  clear h0 hs hm hg e1 hu hcb h3 h4 h5 hxb hsl hf
  generalize f.cs.length = CL at *
  generalize f.room = RM at *
  generalize f.exc u.l = EX at *
  generalize f.claim u = CU at *
  generalize sumL u.l = SU at *
  generalize u.n = UN at *
  generalize u.res = UR at *
  generalize enoughI (UR - CU) RM = EN at *
  go_enter Tryz.func77, Tryz.ntmps77
  go_wp2_with (go_at_call 42; refine c1.mono ?_; clear c1; rintro e w1 ⟨rfl, g1⟩; replace b1 := g1.blk b1)
  have gA := (hW.then g1).alc (.cells #[strV nm, .int .i64 UN, .int .i64 UR, .int .i64 SU, .int .i64 EX] 98)
  have b6 := alloc_blk w1 (.cells #[strV nm, .int .i64 UN, .int .i64 UR, .int .i64 SU, .int .i64 EX] 98)
  replace b1 := (Grw.alloc w1 (.cells #[strV nm, .int .i64 UN, .int .i64 UR, .int .i64 SU, .int .i64 EX] 98)).blk b1
  generalize w1.alloc (.cells #[strV nm, .int .i64 UN, .int .i64 UR, .int .i64 SU, .int .i64 EX] 98) = W at gA b6 b1 ⊢
  have u0 := fun (B : World) (hB : Grw W B) => blk_cell (hB.blk b1) 0
  have u1 := fun (B : World) (hB : Grw W B) => blk_cell (hB.blk b1) 1
  have v0 := fun (B : World) (hB : Grw W B) => blk_cell (hB.blk b6) 0
  have v1 := fun (B : World) (hB : Grw W B) => blk_cell (hB.blk b6) 1
  have v2 := fun (B : World) (hB : Grw W B) => blk_cell (hB.blk b6) 2
  have v3 := fun (B : World) (hB : Grw W B) => blk_cell (hB.blk b6) 3
  have v4 := fun (B : World) (hB : Grw W B) => blk_cell (hB.blk b6) 4
  simp only [List.getElem?_toArray, List.getElem?_cons_zero, List.getElem?_cons_succ] at u0 u1 v0 v1 v2 v3 v4
  have gs := Grw.self W
  refine gw_region [(0, true), (1, true), (2, true), (5, true), (3, false), (4, true), (6, false), (7, false), (8, true)] (by kernel_rfl) (by kernel_rfl) (fun c a d v w1 h => by cases d <;> exact h) ?_
  intro A hA
  iterate 4 (apply gw_q hA rfl rfl; intro pp; go_simp; rfl; go_simp)
  have k0 := Grw.drw W
  refine gw_e hA rfl rfl (fun K hK => ?_)
  go_wp2_with (go_at_call 138; refine (c2 _).mono ?_; clear c2; rintro e w3 ⟨rfl, g3⟩)
  have k3 := k0.then g3
  refine ⟨k3, ?_⟩
  iterate 1 (apply gw_q hA rfl rfl; intro pp; go_simp; rfl; go_simp)
  refine gw_e hA rfl rfl (fun K hK => ?_)
  go_wp2_with (go_at_call 31; refine (c3 _ (gA.then k3)).mono ?_; clear c3; rintro e w4 ⟨rfl, g4⟩)
  have k4 := k3.then g4
  refine ⟨k4, ?_⟩
  refine gw_e hA rfl rfl (fun K hK => ?_)
  go_wp2_with (go_at_call 96; refine (c4 _).mono ?_; clear c4; rintro e w5 ⟨rfl, g5⟩)
  have k5 := k4.then g5
  refine ⟨k5, ?_⟩
  iterate 1 (apply gw_q hA rfl rfl; intro pp; go_simp; rfl; go_simp)
  refine pi_nil ?_
  go_wp2
  go_ret
  exact ⟨rfl, gA.then k5⟩
/-- may a range be written? -/
def Fam.canWrite (f : Fam) (nm : List UInt8) (a n : Int) : Int :=
  if (f.needV nm a n).2 = 0 then enoughI (f.needV nm a n).1 ((f.claimV nm).1 + max 0 f.room) else (f.needV nm a n).2
theorem claimV_bound {f : Fam} (hf : f.WF) (nm : List UInt8) : 0 ≤ (f.claimV nm).1 ∧ (f.claimV nm).1 ≤ 65536 := by
  unfold Fam.claimV
  cases hg : getV f.vols nm with
  | none => simp
  | some v => exact claim_bound hf (getV_some hg).1
set_option maxRecDepth 100000 in
set_option maxHeartbeats 2000000 in
theorem can_write_any {v : Value} {f : Fam} {nm : List UInt8} {a n : Int} {W0 : World} (h : FamR W0 v f) (hf : f.WF) (hnm : nm.length ≤ 1000000) (ha : smallI a) (hn : smallI n) :
    Calls Tryz.prog 57 #[v, strV nm, .int .i64 a, .int .i64 n] W0 fun e w' => e = .returned (.int .i64 (f.canWrite nm a n)) ∧ Grw W0 w' := by
  have h0 := h
  obtain ⟨s, mp, rfl, hs, hm⟩ := h
  obtain ⟨A, cap, rfl, -, -, -⟩ := hs.shape
  have hW := Grw.alloc W0 (.cells #[.slice A f.cs.length cap, .map mp] 76)
  have b1 := alloc_blk W0 (.cells #[.slice A f.cs.length cap, .map mp] 76)
  obtain ⟨r1, r2, r3⟩ := range_ok hf nm a n
  have c1 := need_any (h0.grw hW) hf hnm ha hn r1 r2 r3
  have c2 := fun (W : World) (hg : Grw W0 W) => claimF_any (h0.grw hg) hf hnm
  have c3 := fun (W : World) (hg : Grw W0 W) => room_any (h0.grw hg) hf
  have hrb := room_bound hf
  have hcb := claimV_bound hf nm
  unfold Fam.canWrite
  obtain ⟨⟨N1, N2⟩, hN⟩ : ∃ x, f.needV nm a n = x := ⟨_, rfl⟩
  obtain ⟨⟨C1, C2⟩, hC⟩ : ∃ x, f.claimV nm = x := ⟨_, rfl⟩
  rw [hN] at c1 ⊢
  rw [hC] at c2 hcb ⊢
  simp only at hcb ⊢
  have c4 := fun (W : World) => enough_any (a := N1) (b := C1 + max 0 f.room) (W0 := W)
  obtain ⟨RM, hRM⟩ : ∃ x, f.room = x := ⟨_, rfl⟩
  rw [hRM] at hrb c3 c4 ⊢
  obtain ⟨M, hM⟩ : ∃ M, max 0 RM = M := ⟨_, rfl⟩
  have hM2 : (if 0 < RM then RM else 0) = M := by rw [← hM]; split <;> omega
  have hM3 : (if RM < 0 then 0 else RM) = M := by rw [← hM]; split <;> omega
  have hMb : 0 ≤ M ∧ M ≤ 65536 := by omega
  rw [hM] at c4 ⊢
  have hw : IntKind.i64.wrap (C1 + M) = C1 + M := wrapI (by omega) (by omega)
  obtain ⟨EN, hEN⟩ : ∃ x, enoughI N1 (C1 + M) = x := ⟨_, rfl⟩
  rw [hEN] at c4 ⊢
  clear h0 hs hm hf r1 r2 r3 hEN hMb hN hC hRM hcb hrb ha hn
  generalize f.cs.length = CL at *
  by_cases hk : N2 = 0
  · subst hk
    rw [if_pos rfl]
    go_enter Tryz.func57, Tryz.ntmps57
    go_wp2_with (first
      | (go_at_call 56; refine c1.mono ?_; clear c1; rintro e w1 ⟨rfl, g1⟩; replace b1 := g1.blk b1; have u0 := fun (B : World) (hB : Grw w1 B) => blk_cell (hB.blk b1) 0; have u1 := fun (B : World) (hB : Grw w1 B) => blk_cell (hB.blk b1) 1; simp only [List.getElem?_toArray, List.getElem?_cons_zero, List.getElem?_cons_succ] at u0 u1; have gs1 := Grw.self w1)
      | (go_at_call 109; refine (c2 _ (hW.then g1)).mono ?_; clear c2; rintro e w2 ⟨rfl, g2⟩)
      | (go_at_call 31; refine (c3 _ (hW.then (g1.then g2))).mono ?_; clear c3; rintro e w3 ⟨rfl, g3⟩)
      | (go_at_call 96; refine (c4 _).mono ?_; clear c4; rintro e w4 ⟨rfl, g4⟩))
    go_ret
    exact ⟨rfl, hW.then (g1.then (g2.then (g3.then g4)))⟩
  · rw [if_neg hk]
    have hk2 : (N2 == 0) = false := by simp [hk]
    go_enter Tryz.func57, Tryz.ntmps57
    go_wp2_with (go_at_call 56; refine c1.mono ?_; clear c1; rintro e w1 ⟨rfl, g1⟩)
    go_ret
    exact ⟨rfl, hW.then g1⟩
end Go.Proofs.YtbfdnfkflnajlaaGreat

/-! mapper: changes. -/
namespace Go.Proofs.YtbfdnfkflnajlaaGreat
open Go.RowKit
open Ext hiding One

theorem lawU : Maps.Keyed Tryz.prog 110 := Maps.int_keyed Tryz.underlying110
theorem wpList_insert_own {w : World} {ops : Array Oper} {rest : List Oper} {o : Oper} {a : Act} {Q : Exit → Act → World → Prop}
    (hg : o.guard = none) (m x v : Operand) (t : TypeId) (hop : o.op = Op.insert t m x v)
    (k e : TypeId) (K : Maps.Keyed Tryz.prog k) (ht : Tryz.prog.underlying t = some (.map k e)) (b n : Nat) (D : DataW Value)
    (hm : a.eval m = .map (some b)) (hown : w.ownsMap Tryz.prog k Rv b n D) (hn : n < maxLen) (key val : Value) (kl : Lit) (hx : a.eval x = key) (hv : a.eval v = val) (hkey : keyOf Tryz.prog k key = some kl)
    (hK : ∀ w', w'.ownsMap Tryz.prog k Rv b (n + 1) (D.put kl (.held val)) → w.grownBy w' (some b) → wpList Tryz.prog ops Q rest (a.put o.dst undef) w') :
    wpList Tryz.prog ops Q (o :: rest) a w := by
  refine wpList_plain hg fun K' hK' => ?_
  obtain ⟨w', hrun, r1, r2⟩ := hown.update K ht hn hkey (d := .held val) (ps := []) rfl
  unfold Oper.wp
  simp [execOp, hop, hm, hx, hv, hrun, Result.andThen]
  exact hK' _ _ (hK w' r1 r2)
abbrev fnV (n : Nat) : Value := .func (.func n) #[] #[]
/-- the kinds of notes. -/
def chD : DataW Value := (((((DataW.map []).put (.int .u64 1) (.held (fnV 100))).put (.int .u64 2) (.held (fnV 105))).put (.int .u64 3) (.held (fnV 106))).put (.int .u64 4) (.held (fnV 107))).put (.int .u64 5) (.held (fnV 108))
theorem grw_map {W w1 w2 : World} {b : Nat} (hg : Grw W w1) (hb : W.heap.size ≤ b) (k : w1.grownBy w2 (some b)) : Grw W w2 :=
  show Below _ _ _ from Below.grown hg k hg.size (fun j e => by injection e with e; omega)
set_option maxRecDepth 100000 in
set_option maxHeartbeats 2000000 in
theorem changes_any {W0 : World} : Calls Tryz.prog 54 #[] W0 fun e w' => ∃ b, e = .returned (.map (some b)) ∧ w'.ownsMap Tryz.prog 110 Rv b 5 chD ∧ Grw W0 w' := by
  have hmm := @run_makeMap Tryz.prog
  have hown := World.ownsMap_made (H := Value) W0 Tryz.prog 110 Rv
  have hg := Grw.alloc W0 (.map #[] 0)
  have key : ∀ n : Nat, n < 100 → keyOf Tryz.prog 110 (.int .u64 (n : Int)) = some (.int .u64 (n : Int)) := fun n hn => Maps.keyOf_int_mk Tryz.underlying110 (by
    have hmin : IntKind.u64.min = 0 := rfl
    have hmax : IntKind.u64.max = 18446744073709551615 := rfl
    simp only [Lit.wf, Bool.and_eq_true, decide_eq_true_eq]
    omega)
  have k1 : keyOf Tryz.prog 110 (.int .u64 1) = some (.int .u64 1) := key 1 (by omega)
  have k2 : keyOf Tryz.prog 110 (.int .u64 2) = some (.int .u64 2) := key 2 (by omega)
  have k3 : keyOf Tryz.prog 110 (.int .u64 3) = some (.int .u64 3) := key 3 (by omega)
  have k4 : keyOf Tryz.prog 110 (.int .u64 4) = some (.int .u64 4) := key 4 (by omega)
  have k5 : keyOf Tryz.prog 110 (.int .u64 5) = some (.int .u64 5) := key 5 (by omega)
  clear key
  go_enter Tryz.func54, Tryz.ntmps54
  go_wp2_with (first | (refine wpList_insert_own rfl _ _ _ 122 rfl 110 120 lawU Tryz.underlying122 _ _ _ rfl hown (by unfold maxLen; omega) (.int .u64 1) (fnV 100) (.int .u64 1) rfl rfl k1 ?_; intro w1 hown hgrow1) | (refine wpList_insert_own rfl _ _ _ 122 rfl 110 120 lawU Tryz.underlying122 _ _ _ rfl hown (by unfold maxLen; omega) (.int .u64 2) (fnV 105) (.int .u64 2) rfl rfl k2 ?_; intro w2 hown hgrow2) | (refine wpList_insert_own rfl _ _ _ 122 rfl 110 120 lawU Tryz.underlying122 _ _ _ rfl hown (by unfold maxLen; omega) (.int .u64 3) (fnV 106) (.int .u64 3) rfl rfl k3 ?_; intro w3 hown hgrow3) | (refine wpList_insert_own rfl _ _ _ 122 rfl 110 120 lawU Tryz.underlying122 _ _ _ rfl hown (by unfold maxLen; omega) (.int .u64 4) (fnV 107) (.int .u64 4) rfl rfl k4 ?_; intro w4 hown hgrow4) | (refine wpList_insert_own rfl _ _ _ 122 rfl 110 120 lawU Tryz.underlying122 _ _ _ rfl hown (by unfold maxLen; omega) (.int .u64 5) (fnV 108) (.int .u64 5) rfl rfl k5 ?_; intro w5 hown hgrow5))
  go_ret
  exact ⟨_, rfl, hown, grw_map (grw_map (grw_map (grw_map (grw_map hg (Nat.le_refl _) hgrow1) (Nat.le_refl _) hgrow2) (Nat.le_refl _) hgrow3) (Nat.le_refl _) hgrow4) (Nat.le_refl _) hgrow5⟩
end Go.Proofs.YtbfdnfkflnajlaaGreat

/-! mapper: a look at the kinds of notes. -/
namespace Go.Proofs.YtbfdnfkflnajlaaGreat
open Go.RowKit
open Ext hiding One

theorem zeroCh (w : World) : (zeroValue 120).run Tryz.prog w = .ok .nilFunc w := by kernel_rfl
theorem look_ch1 {w : World} {b : Nat} (h : w.ownsMap Tryz.prog 110 Rv b 5 chD) : (Instr.lookup 122 (.map (some b)) (.int .u64 1) true).run Tryz.prog w = .ok (.tuple #[fnV 100, .bool true]) w := by
  obtain ⟨v, ps, hrun, hR⟩ := h.look_ok lawU Tryz.underlying122 (zeroCh w) (zd := .held .nilFunc) (zp := []) rfl (key := .int .u64 1) (kl := .int .u64 1) (Maps.keyOf_int_mk Tryz.underlying110 (by rfl))
  rw [show Maps.has chD (.int .u64 1) = true from rfl] at hrun
  rw [show chD.atKey (.int .u64 1) (.held .nilFunc) = .held (fnV 100) from rfl] at hR
  simp only [Rv, Option.some.injEq, Prod.mk.injEq, DataW.held.injEq] at hR
  rw [hrun, hR.1]
theorem look_ch2 {w : World} {b : Nat} (h : w.ownsMap Tryz.prog 110 Rv b 5 chD) : (Instr.lookup 122 (.map (some b)) (.int .u64 2) true).run Tryz.prog w = .ok (.tuple #[fnV 105, .bool true]) w := by
  obtain ⟨v, ps, hrun, hR⟩ := h.look_ok lawU Tryz.underlying122 (zeroCh w) (zd := .held .nilFunc) (zp := []) rfl (key := .int .u64 2) (kl := .int .u64 2) (Maps.keyOf_int_mk Tryz.underlying110 (by rfl))
  rw [show Maps.has chD (.int .u64 2) = true from rfl] at hrun
  rw [show chD.atKey (.int .u64 2) (.held .nilFunc) = .held (fnV 105) from rfl] at hR
  simp only [Rv, Option.some.injEq, Prod.mk.injEq, DataW.held.injEq] at hR
  rw [hrun, hR.1]
theorem look_ch3 {w : World} {b : Nat} (h : w.ownsMap Tryz.prog 110 Rv b 5 chD) : (Instr.lookup 122 (.map (some b)) (.int .u64 3) true).run Tryz.prog w = .ok (.tuple #[fnV 106, .bool true]) w := by
  obtain ⟨v, ps, hrun, hR⟩ := h.look_ok lawU Tryz.underlying122 (zeroCh w) (zd := .held .nilFunc) (zp := []) rfl (key := .int .u64 3) (kl := .int .u64 3) (Maps.keyOf_int_mk Tryz.underlying110 (by rfl))
  rw [show Maps.has chD (.int .u64 3) = true from rfl] at hrun
  rw [show chD.atKey (.int .u64 3) (.held .nilFunc) = .held (fnV 106) from rfl] at hR
  simp only [Rv, Option.some.injEq, Prod.mk.injEq, DataW.held.injEq] at hR
  rw [hrun, hR.1]
theorem look_ch4 {w : World} {b : Nat} (h : w.ownsMap Tryz.prog 110 Rv b 5 chD) : (Instr.lookup 122 (.map (some b)) (.int .u64 4) true).run Tryz.prog w = .ok (.tuple #[fnV 107, .bool true]) w := by
  obtain ⟨v, ps, hrun, hR⟩ := h.look_ok lawU Tryz.underlying122 (zeroCh w) (zd := .held .nilFunc) (zp := []) rfl (key := .int .u64 4) (kl := .int .u64 4) (Maps.keyOf_int_mk Tryz.underlying110 (by rfl))
  rw [show Maps.has chD (.int .u64 4) = true from rfl] at hrun
  rw [show chD.atKey (.int .u64 4) (.held .nilFunc) = .held (fnV 107) from rfl] at hR
  simp only [Rv, Option.some.injEq, Prod.mk.injEq, DataW.held.injEq] at hR
  rw [hrun, hR.1]
theorem look_ch5 {w : World} {b : Nat} (h : w.ownsMap Tryz.prog 110 Rv b 5 chD) : (Instr.lookup 122 (.map (some b)) (.int .u64 5) true).run Tryz.prog w = .ok (.tuple #[fnV 108, .bool true]) w := by
  obtain ⟨v, ps, hrun, hR⟩ := h.look_ok lawU Tryz.underlying122 (zeroCh w) (zd := .held .nilFunc) (zp := []) rfl (key := .int .u64 5) (kl := .int .u64 5) (Maps.keyOf_int_mk Tryz.underlying110 (by rfl))
  rw [show Maps.has chD (.int .u64 5) = true from rfl] at hrun
  rw [show chD.atKey (.int .u64 5) (.held .nilFunc) = .held (fnV 108) from rfl] at hR
  simp only [Rv, Option.some.injEq, Prod.mk.injEq, DataW.held.injEq] at hR
  rw [hrun, hR.1]
end Go.Proofs.YtbfdnfkflnajlaaGreat

/-! mapper: New, header, numbers, note. -/
namespace Go.Proofs.YtbfdnfkflnajlaaGreat
open Go.RowKit
open Ext hiding One

/-- the world in which a string's bytes have been copied to a new row. -/
def convW (w : World) (nm : List UInt8) : World :=
  w.drew.alloc (.cells (bytesRow ⟨nm.toArray⟩ (grownCap w nm.length 0 5)) 5 ((bytesRow ⟨nm.toArray⟩ (grownCap w nm.length 0 5)).size, (bytesRow ⟨nm.toArray⟩ (grownCap w nm.length 0 5)).size + 1))
def convS (w : World) (nm : List UInt8) : Value := .slice (some ⟨w.heap.size, 0, none⟩) nm.length (grownCap w nm.length 0 5)
theorem conv_run (nm : List UInt8) (w : World) : (convert 9 33 (strV nm)).run Tryz.prog w = .ok (convS w nm) (convW w nm) :=
  run_bytes_of_string w 9 33 5 ⟨nm.toArray⟩ (by kernel_rfl) (by kernel_rfl) (by kernel_rfl)
theorem conv_grw (w : World) (nm : List UInt8) : Grw w (convW w nm) := (Grw.drw w).alc _
theorem conv_bys (w : World) (nm : List UInt8) (hn : nm.length ≤ 10000) : Bys (convW w nm) (convS w nm) nm := by
  refine ⟨by simp [bytC], .inr ⟨_, _, _, rfl, grownCap_ge w _ _ _, grownCap_le_maxLen _ _ _ _ (by unfold maxLen; omega), fun j u hu => ?_⟩⟩
  have hb : (convW w nm).heap[w.heap.size]? = some (.cells (bytesRow ⟨nm.toArray⟩ (grownCap w nm.length 0 5)) 5 ((bytesRow ⟨nm.toArray⟩ (grownCap w nm.length 0 5)).size, (bytesRow ⟨nm.toArray⟩ (grownCap w nm.length 0 5)).size + 1)) := heap_alloc_new w.drew _
  rw [cell_of_row _ _ _ _ _ _ hb]
  have hj : j < nm.length := by
    have := (List.getElem?_eq_some_iff.1 hu).1
    simpa [bytC] using this
  simp only [bytC, List.getElem?_map] at hu
  unfold bytesRow
  rw [Nat.zero_add, Array.getElem?_append_left (by simpa using hj), ← hu]
  simp
/-- bytes come back. -/
def RetBs (l : List UInt8) (w : World) (e : Ending) (w' : World) : Prop := ∃ v, e = .returned v ∧ Bys w' v l ∧ Grw w w'
set_option maxRecDepth 100000 in
set_option maxHeartbeats 1000000 in
theorem header_any {kind : Nat} {nm : List UInt8} {W0 : World} (hk : kind < 128) (hn : nm.length ≤ 1000) (hn0 : nm ≠ []) :
    Calls Tryz.prog 48 #[.int .u64 kind, strV nm] W0 (RetBs (encU kind ++ encB nm) W0) := by
  have c1 := appendUint_any (n := kind) (l := []) (v := .slice none 0 0) (W0 := W0) (Rows.nil _ 1) (by simp) (by omega)
  have hE : (encU kind).length ≤ 9 := encU_len (k := 8) (by simp; omega)
  have kc := conv_run nm
  have c2 := fun (w : World) (v : Value) (h : Bys w v (encU kind)) => appendBytes_any (m := nm) (h.grw (conv_grw w nm)) (conv_bys w nm (by omega)) (by omega) (by omega) hn0
  rw [List.nil_append] at c1
  obtain ⟨E, hEd⟩ : ∃ E, encU kind = E := ⟨_, rfl⟩
  rw [hEd] at c1 c2 ⊢
  replace c2 : Aside (∀ (w : World) (v : Value) (h : Bys w v E), _) := c2
  clear hE hEd
  go_enter Tryz.func48, Tryz.ntmps48
  go_wp2_with (first
    | (go_at_call 87; refine c1.mono ?_; clear c1; rintro e w1 ⟨v1, rfl, ho1, g1⟩)
    | (go_at_call 44; refine (c2.out _ _ ho1.bys).mono ?_; clear c2; rintro e w2 ⟨v2, rfl, ho2, g2⟩))
  go_ret
  exact ⟨_, rfl, ho2.bys, g1.then ((conv_grw w1 nm).then g2)⟩
def encNs (l : List Int) : List UInt8 := l.flatMap encN
theorem encNs_take {l : List Int} {k : Nat} {x : Int} (hx : l[k]? = some x) : encNs (l.take (k + 1)) = encNs (l.take k) ++ encN x := by
  have hk : k < l.length := (List.getElem?_eq_some_iff.1 hx).1
  rw [List.take_succ_eq_append_getElem hk, show l[k] = x from (List.getElem?_eq_some_iff.1 hx).2]
  simp [encNs]
theorem encNs_len {l : List Int} (h : ∀ x ∈ l, 0 ≤ x ∧ x ≤ 65536) : (encNs l).length ≤ 3 * l.length := by
  induction l with
  | nil => simp [encNs]
  | cons x l ih =>
    have h1 := encN_len (h x List.mem_cons_self).2
    have h2 := ih fun y hy => h y (List.mem_cons_of_mem _ hy)
    simp only [encNs, List.flatMap_cons, List.length_append, List.length_cons] at h2 ⊢
    omega
set_option maxRecDepth 100000 in
set_option maxHeartbeats 2000000 in
theorem numbers_any {b : List UInt8} {ns : List Int} {v u : Value} {W0 : World} (h : Bys W0 v b) (hu : Ints W0 u ns) (hb : b.length ≤ 800000000) (hns : ∀ x ∈ ns, 0 ≤ x ∧ x ≤ 65536) (hl : ns.length ≤ 100) :
    Calls Tryz.prog 41 #[v, u] W0 (RetBs (b ++ encNs ns) W0) := by
  obtain ⟨A, cap, rfl, hc, hm, hx⟩ := hu.shape
  unfold maxLen at hm
  have hlen : ∀ k, (b ++ encNs (ns.take k)).length ≤ 800001000 := fun k => by
    have := encNs_len (l := ns.take k) fun x hx => hns x (List.mem_of_mem_take hx)
    rw [List.length_append]
    have : (ns.take k).length ≤ 100 := by rw [List.length_take]; omega
    omega
  replace hlen : Aside (∀ k, (b ++ encNs (ns.take k)).length ≤ 800001000) := hlen
  replace hns : Aside (∀ x ∈ ns, 0 ≤ x ∧ x ≤ 65536) := hns
  replace hx : Aside (∀ i (x : Int), ns[i]? = some x → ∃ b off, A = some ⟨b, off, none⟩ ∧ W0.cell? ⟨b, off + i, none⟩ = some (.int .i64 x)) := hx
  obtain ⟨A0, cap0, rfl, -, -, -⟩ := h.shape
  generalize hbl : b.length = BL at h
  clear hu hb hbl
  go_enter Tryz.func41, Tryz.ntmps41
  go_wp2
  go_loopg [0, 9] ns.length (fun g s0 i wr => ∃ k : Nat, k ≤ ns.length ∧ g = ns.length - k ∧ i = .int .i64 k ∧ Bys wr s0 (b ++ encNs (ns.take k)) ∧ Grw W0 wr)
  case atStart => exact ⟨0, Nat.zero_le _, rfl, rfl, by simpa [encNs] using h, Grw.self _⟩
  case round =>
    clear h
    obtain ⟨k, hk, rfl, rfl, hby, hg⟩ := hrel
    obtain ⟨A2, cap2, rfl, -, -, -⟩ := hby.shape
    by_cases hlt : k < ns.length
    · obtain ⟨x, hlx⟩ : ∃ x, ns[k]? = some x := ⟨ns[k], List.getElem?_eq_getElem hlt⟩
      obtain ⟨b2, off, rfl, p0⟩ := hx.out k x hlx
      replace p0 := Grw.cell p0 _ hg
      obtain ⟨x1, x2⟩ := hns.out x (List.mem_of_getElem? hlx)
      obtain ⟨n, rfl⟩ : ∃ n : Nat, x = n := ⟨x.toNat, by omega⟩
      have c1 := appendUint_any (n := n) hby (by have := hlen.out k; omega) (by omega)
      have hnext : Aside (b ++ encNs (ns.take (k + 1)) = b ++ encNs (ns.take k) ++ encU n) := (by rw [encNs_take hlx, List.append_assoc]; rfl : b ++ encNs (ns.take (k + 1)) = b ++ encNs (ns.take k) ++ encU n)
      obtain ⟨L, hL⟩ : ∃ L, b ++ encNs (ns.take k) = L := ⟨_, rfl⟩
      rw [hL] at c1 hby hnext ⊢
      have hw : IntKind.u64.wrap (n : Int) = n := by simp only [IntKind.wrap, IntKind.bits, IntKind.signed]; simp; omega
      clear hlx hx hL hby
      go_wp2_with (go_at_call 87; refine c1.mono ?_; clear c1; rintro e w1 ⟨v1, rfl, ho1, g1⟩)
      go_roundg (ns.length - (k + 1))
      case measure => omega
      case rel => exact ⟨k + 1, by omega, rfl, rfl, by rw [hnext.out]; exact ho1.bys, hg.then g1⟩
    · obtain rfl : k = ns.length := by omega
      rw [List.take_length] at hby
      clear hx
      obtain ⟨L, hL⟩ : ∃ L, b ++ encNs (ns.take ns.length) = L := ⟨_, rfl⟩
      go_wp2
      go_ret
      rw [List.take_length]
      exact ⟨_, rfl, hby, hg⟩
/-- bytes and an error come back. -/
def RetNt (l : List UInt8) (k : Int) (w : World) (e : Ending) (w' : World) : Prop := ∃ v, e = .returned (.tuple #[v, .int .i64 k]) ∧ Bys w' v (if k = 0 then l else []) ∧ Grw w w'
set_option maxRecDepth 100000 in
set_option maxHeartbeats 1000000 in
theorem note_any {l : List UInt8} {v : Value} {k : Int} {W0 : World} (h : Bys W0 v l) :
    Calls Tryz.prog 47 #[v, .int .i64 k] W0 (RetNt l k W0) := by
  obtain ⟨A, cap, rfl, -, -, -⟩ := h.shape
  by_cases hk : k = 0
  · subst hk
    generalize l.length = LL at *
    go_enter Tryz.func47, Tryz.ntmps47
    go_wp2
    refine bodyPost_ret (v := .tuple #[.slice A LL cap, .int .i64 0]) (by simp [results, Tryz.results47, go_sem]) rfl ⟨_, rfl, by rw [if_pos rfl]; exact h, Grw.self _⟩
  · have hk2 : (k == 0) = false := by simp [hk]
    go_enter Tryz.func47, Tryz.ntmps47
    go_wp2
    refine bodyPost_ret (v := .tuple #[.slice none 0 0, .int .i64 k]) (by simp [results, Tryz.results47, go_sem]) rfl ⟨_, rfl, by rw [if_neg hk]; exact Rows.nil _ 1, Grw.self _⟩
theorem FamR.sl {w : World} {s : Value} {mp : Option Nat} {f : Fam} (h : FamR w (famV s mp) f) : ∃ A cap, s = .slice A f.cs.length cap := by
  obtain ⟨s', mp', e, hs, -⟩ := h
  obtain ⟨A, cap, rfl, -, -, -⟩ := hs.shape
  injection e with e
  have := congrArg (fun a : Array Value => a[0]?) e
  exact ⟨A, cap, by simpa using this⟩
/-- a mapper of a family. -/
def MapR (w : World) (p : Nat) (f : Fam) : Prop := ∃ s mp, w.heap[p]? = some (.cells #[s, .map mp] 90 (0, 0)) ∧ FamR w (famV s mp) f
theorem MapR.grw {w w' : World} {p : Nat} {f : Fam} (hg : Grw w w') (h : MapR w p f) : MapR w' p f := by
  obtain ⟨s, mp, h1, h2⟩ := h
  exact ⟨s, mp, hg.blk h1, h2.grw hg⟩
set_option maxRecDepth 100000 in
set_option maxHeartbeats 1000000 in
theorem mnew_any {n : Int} {W0 : World} :
    Calls Tryz.prog 13 #[.int .i64 n] W0 fun e w' => Grw W0 w' ∧ if 0 ≤ n ∧ n ≤ 65536 then ∃ p, e = .returned (.tuple #[ptr p, .int .i64 0]) ∧ W0.heap.size ≤ p ∧ MapR w' p ⟨n.toNat, []⟩ else e = .returned (.tuple #[.pointer none, .int .i64 1]) := by
  have c1 := fnew_any (n := n) (W0 := W0)
  by_cases hn : 0 ≤ n ∧ n ≤ 65536
  · rw [if_pos hn] at c1
    simp only [if_pos hn]
    clear hn
    go_enter Tryz.func13, Tryz.ntmps13
    go_wp2_with (go_at_call 36; refine c1.mono ?_; clear c1; rintro e w1 ⟨s, mp, rfl, hf, g1⟩; obtain ⟨A, cap, rfl⟩ := hf.sl)
    obtain ⟨S, hS⟩ : ∃ S, Value.slice A (⟨n.toNat, []⟩ : Fam).cs.length cap = S := ⟨_, rfl⟩
    rw [hS] at hf ⊢
    have gA : Grw w1 ((w1.alloc (.cells #[S, .map mp] 76)).alloc (.cells #[S, .map mp] 90)) := (Grw.alloc _ _).alc _
    have hb := alloc_blk (w1.alloc (.cells #[S, .map mp] 76)) (.cells #[S, .map mp] 90)
    simp only [World.size_alloc] at hb
    refine bodyPost_ret (v := .tuple #[ptr (w1.heap.size + 1), .int .i64 0]) (by simp [results, Tryz.results13, go_sem]) rfl ⟨g1.then gA, _, rfl, by have := g1.size; omega, S, mp, hb, hf.grw gA⟩
  · rw [if_neg hn] at c1
    simp only [if_neg hn]
    clear hn
    go_enter Tryz.func13, Tryz.ntmps13
    go_wp2_with (go_at_call 36; refine c1.mono ?_; clear c1; rintro e w1 ⟨s, mp, rfl, hf, g1⟩; obtain ⟨A, cap, rfl⟩ := hf.sl)
    refine bodyPost_ret (v := .tuple #[.pointer none, .int .i64 1]) (by simp [results, Tryz.results13, go_sem]) rfl ⟨g1.alc _, rfl⟩
end Go.Proofs.YtbfdnfkflnajlaaGreat
