/- HeapPeeks: the walk. Condition: at most 2^20 numbers. -/
import Derived.Test.YtghpiegcmakggaaKnown
set_option linter.unusedVariables false
set_option linter.unusedSimpArgs false
namespace Go.Proofs.Ytghpiegcmakggaa
open Go.RowKit Go.Lb Go.Hp

/-- The things pushed: number i with its place. -/
def its (zs : List Int) (n : Nat) : List It := (List.range n).map fun i => ⟨zs.getD i 0, i, (i : Int) + 1⟩

theorem its_succ (zs : List Int) (n : Nat) : its zs (n + 1) = its zs n ++ [⟨zs.getD n 0, n, (n : Int) + 1⟩] := by simp [its, List.range_succ]
theorem its_len (zs : List Int) (n : Nat) : (its zs n).length = n := by simp [its]
theorem its_mem {zs : List Int} {n : Nat} {x : It} : x ∈ its zs n ↔ ∃ i, i < n ∧ x = ⟨zs.getD i 0, i, (i : Int) + 1⟩ := by
  simp only [its, List.mem_map, List.mem_range]
  exact ⟨fun ⟨i, h, e⟩ => ⟨i, h, e.symm⟩, fun ⟨i, h, e⟩ => ⟨i, h, e.symm⟩⟩

/-- The numbers' cells. -/
def RowAt (w : World) (a : Option Addr) (len : Nat) (zs : List Int) : Prop := ∀ i, i < len → ∃ b o, a = some ⟨b, o, none⟩ ∧ b < w.heap.size ∧ w.cell? ⟨b, o + i, none⟩ = some (.int .i64 (zs.getD i 0))
theorem RowAt.upd {w w' : World} {a : Option Addr} {len : Nat} {zs : List Int} (h : RowAt w a len zs) (u : Upd [] w w') : RowAt w' a len zs := fun i hi =>
  let ⟨b, o, h1, h2, h3⟩ := h i hi
  ⟨b, o, h1, Nat.lt_of_lt_of_le h2 u.size, (u.cell (a := ⟨b, o + i, none⟩) h2 (by simp)).trans h3⟩

/-- A heap of the call's own. -/
structure Own (w : World) (b : Nat) (fp : List Nat) (L : List It) (born : Int) (wk : World) : Prop where
  heap : HeapIs wk b fp L born
  upd : Upd [] w wk
  new : ∀ x ∈ fp, w.heap.size ≤ x
theorem Own.go {w w1 w2 : World} {b : Nat} {fp fp' : List Nat} {L L' : List It} {born born' : Int} (h : Own w b fp L born w1) (h2 : HeapIs w2 b fp' L' born') (u : Upd fp w1 w2) (f : ∀ x ∈ fp', x ∈ fp ∨ w1.heap.size ≤ x) :
    Own w b fp' L' born' w2 := by
  have hsz := h.upd.size
  refine ⟨h2, h.upd.trans u (fun x hx => .inr (h.new x hx)), fun x hx => ?_⟩
  rcases f x hx with h0 | h0
  · exact h.new x h0
  · omega
theorem Own.any {w w1 w2 : World} {b : Nat} {fp : List Nat} {L : List It} {born : Int} (h : Own w b fp L born w1) (u : Upd [] w1 w2) : Own w b fp L born w2 :=
  ⟨h.heap.upd u (by simp), h.upd.trans u (by simp), h.new⟩

def PushRel (w : World) (b : Nat) (zs : List Int) (i : Nat) (wr : World) : Prop := ∃ fp L, Own w b fp L i wr ∧ L.Perm (its zs i)
def PopRel (w : World) (b : Nat) (n : Nat) (wr : World) : Prop := ∃ fp L born, Own w b fp L born wr ∧ L.length = n

theorem hlen' (b : Nat) (fp : List Nat) (L : List It) (born : Int) (n : Nat) (w : World) (h : HeapIs w b fp L born) (hn : L.length = n) : Calls Try.prog 12 #[.pointer (some ⟨b, 0, none⟩)] w fun e w' => e = .returned (.int .i64 n) ∧ w = w' := by
  subst hn; exact hlen b fp L born w h

set_option maxHeartbeats 1000000 in
theorem peeks_walk (a0 : Option Addr) (len cap : Nat) (zs : List Int) (w : World) (hrow : RowAt w a0 len zs) (hlen : len ≤ 1048576) :
    Calls Try.prog 5 #[.slice a0 len cap] w fun e w' => e = .returned (.bool true) ∧ Upd [] w w' := by
  have Hrow := Lib.hid hrow
  clear hrow
  go_enter Try.func5, Try.ntmps5
  go_wp2_with fail
  refine (hnew _).mono ?_
  rintro e w1 ⟨b, rfl, h1, u1, hb⟩
  have K1 := Lib.hid (show Own w b [b] [] 0 w1 from ⟨h1, u1, by simpa using hb⟩)
  clear h1 u1 hb
  go_wp2_with fail
  refine (known_any _).mono ?_
  rintro e w2 ⟨rfl, u2⟩
  have K2 := Lib.hid (K1.out.any u2)
  clear u2 K1
  go_upto_block 0 with fail
  go_cut [4] (fun _ wc => PushRel w b zs len wc)
  case first =>
    go_wp2_with fail
    go_loopg [4] len (fun g t wr => ∃ i : Nat, t = .int .i64 i ∧ i ≤ len ∧ g = len - i ∧ PushRel w b zs i wr)
    case atStart => exact ⟨0, rfl, Nat.zero_le _, rfl, [b], [], K2.out, by simp [its]⟩
    case round =>
      obtain ⟨i, rfl, hi, rfl, fp, L, hO, hP⟩ := hrel
      have HO := Lib.hid hO
      have HP := Lib.hid hP
      clear hO hP K2
      by_cases hlt : i < len
      · obtain ⟨xb, xo, rfl, hxb, hc⟩ := (Hrow.out.upd HO.out.upd) i hlt
        have HL : L.length = i := by rw [HP.out.length_eq, its_len]
        have HLn := Lib.hid HL
        clear HL
        go_wp2_with fail
        refine (hpush b fp L _ _ _ _ HO.out.heap (by rw [HLn.out]; omega) (by omega) (by omega)).mono ?_
        rintro e w3 ⟨rfl, fp3, L3, h3, p3, u3, f3⟩
        have K3 := Lib.hid (HO.out.go h3 u3 f3)
        have hp3 : L3.Perm (its zs (i + 1)) := by rw [its_succ]; exact p3.trans (HP.out.append_right _)
        have P3 := Lib.hid hp3
        clear h3 p3 u3 f3 hc hxb HO hp3
        go_wp2_with fail
        refine (hpeek b fp3 L3 _ _ K3.out.heap (by intro e; have := P3.out.length_eq; simp [e, its_len] at this)).mono ?_
        rintro e w4 ⟨x, rfl, hx, hm, -, u4⟩
        have Hx := Lib.hid hx
        have Hm := Lib.hid hm
        have K4 := Lib.hid (K3.out.any u4)
        clear hx hm u4 K3
        obtain ⟨xk, xt, xo'⟩ := x
        dsimp only
        go_wp2_with fail
        have KA := Lib.hid (K4.out.any ((Upd.refl [] w4).alloc (.cells #[.int .i64 xk, .int .i64 xt] 26)))
        have hpA := Blk.new w4 26 [.int .i64 xk, .int .i64 xt]
        generalize w4.alloc (.cells #[.int .i64 xk, .int .i64 xt] 26) = wA at *
        generalize w4.heap.size = p at *
        have HpA := Lib.hid hpA
        clear hpA K4
        go_loopg [7] (i + 1) (fun g t wi => ∃ k : Nat, t = .int .i64 k ∧ k ≤ i + 1 ∧ g = i + 1 - k ∧ Upd [] wA wi)
        case atStart => exact ⟨0, rfl, Nat.zero_le _, rfl, Upd.refl _ _⟩
        case round =>
          obtain ⟨k, rfl, hk, rfl, hui⟩ := hrel
          have Hui := Lib.hid hui
          clear hui
          by_cases hki : k ≤ i
          · obtain ⟨xb', xo', e, hxb, hck⟩ := (Hrow.out.upd (KA.out.any Hui.out).upd) k (by omega)
            obtain ⟨rfl, rfl⟩ : xb' = xb ∧ xo' = xo := by simp at e; exact ⟨e.1.symm, e.2.symm⟩
            have hpx := (Hui.out.blk HpA.out (by simp)).cell (o := 0) rfl
            have hlt2 : decide (zs.getD k 0 < xk) = false := by
              have := (leI_iff _ _).1 (Hm.out ⟨zs.getD k 0, k, (k : Int) + 1⟩ (P3.out.mem_iff.2 (its_mem.2 ⟨k, by omega, rfl⟩)))
              simp only [decide_eq_false_iff_not]
              dsimp only at this
              omega
            simp only [List.getD_eq_getElem?_getD] at hlt2 hck
            generalize zs[k]?.getD 0 = zk at *
            clear e
            go_wp2_with fail
            go_quiet (fail)
            go_wp2_with fail
            go_roundg (i + 1 - (k + 1))
            case measure => omega
            case rel => exact ⟨k + 1, by go_num, by omega, rfl, Hui.out.drewN _⟩
          · go_wp2_with fail
            go_roundg (len - (i + 1))
            case measure => omega
            case rel => exact ⟨i + 1, by go_num, by omega, rfl, fp3, L3, KA.out.any Hui.out, P3.out⟩
      · obtain rfl : i = len := by omega
        go_wp2_with fail
        go_meet
        exact ⟨fp, L, HO.out, HP.out⟩
  case rest =>
    obtain ⟨fp, L, hO, hP⟩ := hcut
    have hR : PopRel w b len wc := ⟨fp, L, len, hO, by rw [hP.length_eq, its_len]⟩
    have HR := Lib.hid hR
    clear hO hP hR K2 Hrow
    go_wp2_with fail
    go_loopg [52] len (fun g _ wr => g ≤ len ∧ PopRel w b g wr)
    case atStart => exact ⟨Nat.le_refl _, HR.out⟩
    case round =>
      obtain ⟨hg, fp, L, born, hO, hL⟩ := hrel
      have HO := Lib.hid hO
      have HL := Lib.hid hL
      clear hO hL HR
      by_cases h0 : gk = 0
      · subst h0
        go_wp2_with fail
        refine (hlen' b fp L born 0 _ HO.out.heap HL.out).mono ?_
        rintro e w3 ⟨rfl, rfl⟩
        go_wp2_with fail
        go_ret
        exact ⟨rfl, HO.out.upd⟩
      · have hpos : (0 : Int) < gk := by omega
        have hne : L ≠ [] := by intro e; have := HL.out; simp [e] at this; omega
        have Hne := Lib.hid hne
        clear hne h0
        go_wp2_with fail
        refine (hlen' b fp L born gk _ HO.out.heap HL.out).mono ?_
        rintro e w3 ⟨rfl, rfl⟩
        go_wp2_with fail
        refine (hpeek b fp L _ _ HO.out.heap Hne.out).mono ?_
        rintro e w4 ⟨x, rfl, -, -, hx0, u4⟩
        have Hx0 := Lib.hid hx0
        have K4 := Lib.hid (HO.out.any u4)
        clear u4 HO hx0
        obtain ⟨xk, xt, xo'⟩ := x
        dsimp only
        go_wp2_with fail
        have KA := Lib.hid (K4.out.any ((Upd.refl [] w4).alloc (.cells #[.int .i64 xk, .int .i64 xt] 26)))
        have hpA := Blk.new w4 26 [.int .i64 xk, .int .i64 xt]
        have hlp : w4.heap.size < (w4.alloc (.cells #[.int .i64 xk, .int .i64 xt] 26)).heap.size := by simp
        have hfp : ∀ x ∈ fp, x ≠ w4.heap.size := fun x hx e => by have := K4.out.heap.lt x hx; omega
        generalize w4.alloc (.cells #[.int .i64 xk, .int .i64 xt] 26) = wA at *
        generalize w4.heap.size = p at *
        have HpA := Lib.hid hpA
        have Hfp := Lib.hid hfp
        clear hpA K4 hfp
        refine (hpop b fp L _ _ KA.out.heap Hne.out (by have := HL.out; omega)).mono ?_
        rintro e w5 ⟨y, L5, rfl, h5, p5, -, u5, hy0⟩
        obtain rfl : y = ⟨xk, xt, xo'⟩ := by have := Hx0.out; rw [this] at hy0; exact (Option.some.inj hy0).symm
        have K5 := Lib.hid (KA.out.go h5 u5 (fun x hx => .inl hx))
        have hB := u5.blk HpA.out (fun hx => Hfp.out p hx rfl)
        have c0 := hB.cell (o := 0) rfl
        have c1 := hB.cell (o := 1) rfl
        have hlt5 := hB.lt
        have HL5 := Lib.hid p5.length_eq
        clear h5 p5 u5 hB hy0 KA HpA hlp
        dsimp only
        go_wp2_with fail
        go_roundg (gk - 1)
        case measure => omega
        case rel => exact ⟨by omega, fp, L5, born, K5.out.any ((Upd.refl _ _).alloc _), by have := HL5.out; have := HL.out; simp at *; omega⟩

end Go.Proofs.Ytghpiegcmakggaa
