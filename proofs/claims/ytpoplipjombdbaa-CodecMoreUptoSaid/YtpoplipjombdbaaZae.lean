/- A part that several proofs lean on: texts one behind the other. No condition but those that each theorem states. -/
import Derived.Test.YtpoplipjombdbaaZad
set_option linter.unusedVariables false
set_option linter.unusedSimpArgs false
/- What writing and reading whole records say, said in one way for those that may be written and those that may not; law01's both. -/
namespace Go.Rc
theorem sum_len : ∀ (l : List Val) (f : Val → List Nat) (g : Val → Nat), (∀ x ∈ l, (f x).length ≤ g x) → (l.flatMap f).length ≤ (l.map g).sum
  | [], f, g, _ => by simp
  | x :: l, f, g, h => by
    have h1 := sum_len l f g (fun y hy => h y (by simp [hy]))
    have h2 := h x (by simp)
    rw [List.flatMap_cons, List.length_append, List.map_cons, List.sum_cons]; omega
theorem Sch.put_len : ∀ (s : Sch) (v : Val), s.good v → (s.put v).length ≤ s.wmax v
  | .nil, v, _ => by cases v <;> simp [Sch.put]
  | .num, v, h => by
    cases v with
    | num n => exact nput_len h
    | _ => exact absurd h (by simp [Sch.good])
  | .flag, v, h => by
    cases v with
    | flag b => exact nput_len (by unfold maxN; split <;> omega)
    | _ => exact absurd h (by simp [Sch.good])
  | .raw, v, h => by
    cases v with
    | raw l =>
      have h1 : l.length ≤ 65536 := h.1
      have := nput_len (n := (l.length : Int)) (by unfold maxN; omega)
      simp only [Sch.put, Sch.wmax, List.length_append]; omega
    | _ => exact absurd h (by simp [Sch.good])
  | .list s, v, h => by
    cases v with
    | list l =>
      have h1 : l.length ≤ 64 := h.1
      have := nput_len (n := (l.length : Int)) (by unfold maxN; omega)
      have h3 := sum_len l s.put s.wmax (fun x hx => Sch.put_len s x (h.2 x hx))
      simp only [Sch.put, Sch.wmax, List.length_append]; omega
    | _ => exact absurd h (by simp [Sch.good])
  | .pair a b, v, h => by
    cases v with
    | pair x y =>
      have h1 := Sch.put_len a x h.1
      have h2 := Sch.put_len b y h.2
      simp only [Sch.put, Sch.wmax, List.length_append]; omega
    | _ => exact absurd h (by simp [Sch.good])
end Go.Rc
namespace Go.Proofs.Ytpoplipjombdbaa
open Go.RowKit Go.Lb Go.Rc
/-- The bytes of a record: none, if it may not be written. -/
def bytesOf (g : Bool) (s : Sch) (v : Val) : List Nat := bif g then s.put v else []
/-- The error: OK, or ErrArg. -/
def errOf (g : Bool) : Int := bif g then 0 else 1
theorem good_dec (s : Sch) (v : Val) : ∃ g : Bool, g = true ↔ s.good v := by
  by_cases h : s.good v
  · exact ⟨true, by simp [h]⟩
  · exact ⟨false, by simp [h]⟩
theorem bytesOf_len {g : Bool} {s : Sch} {v : Val} {n : Nat} (hg : g = true ↔ s.good v) (hl : s.wmax v ≤ n) : (bytesOf g s v).length ≤ n := by
  cases g with
  | true => exact Nat.le_trans (Sch.put_len s v (hg.1 rfl)) hl
  | false => exact Nat.zero_le _
theorem own_bytes {w : World} {B n : Nat} {a : Option Addr} {c : Nat} {o : List Nat} (h : w.ownsRow B 5 1 (.slice a n c) o.length (o.map bv)) (ho : ∀ x ∈ o, x < 256) (hn : n = o.length) : Bytes w (B ≤ ·) a o ∧ n ≤ c ∧ c ≤ maxLen :=
  ⟨Row.bytes (show Row B w (.slice a n c) o from h) ho hn, Row.cap (show Row B w (.slice a n c) o from h)⟩
section
variable {K : Nat} {s : Sch} {cs : List Value} {v : Val} {w : World} {g : Bool} {p l : List Nat} {a : Option Addr} {c : Nat}
theorem puts_u (C : Puts K s) (hr : s.Rep w (· < w.heap.size) cs v) (hl : s.wmax v ≤ 1099511627776) (hg : g = true ↔ s.good v) (hp : p = bytesOf g s v) :
    Calls Try.prog K #[.agg cs.toArray] w fun e w' => ∃ a c, e = .returned (.tuple #[.slice a p.length c, .int .i64 (errOf g)]) ∧ Upd [] w w' ∧ Bytes w' (w.heap.size ≤ ·) a p ∧ p.length ≤ c ∧ c ≤ maxLen := by
  refine (C cs v w hr hl).mono ?_
  rintro e w' ⟨u, ⟨h1, a, c, rfl, h2⟩ | ⟨h1, rfl⟩⟩
  · obtain rfl : g = true := hg.2 h1
    obtain rfl : p = s.put v := hp
    obtain ⟨h3, h4, h5⟩ := own_bytes h2 (Sch.put_byte s v h1) rfl
    exact ⟨a, c, rfl, u, h3, h4, h5⟩
  · obtain rfl : g = false := by cases g with | false => rfl | true => exact absurd (hg.1 rfl) h1
    obtain rfl : p = [] := hp
    exact ⟨none, 0, rfl, u, Bytes.nil _ _ _, by simp, by simp [maxLen]⟩
theorem gets_u (C : Gets K s) (hb : Bytes w (· < w.heap.size) a l) (hc : l.length ≤ c ∧ c ≤ maxLen) (hg : g = true → s.get l = some (v, [])) (hn : g = false → ∀ v', s.get l ≠ some (v', [])) :
    Calls Try.prog K #[.slice a l.length c] w fun e w' => ∃ cs v', e = .returned (.tuple #[.agg cs.toArray, .bool g]) ∧ Upd [] w w' ∧ s.Rep w' (w.heap.size ≤ ·) cs v' ∧ (g = true → v' = v) ∧ s.good v' := by
  refine (C a c l w hb hc).mono ?_
  rintro e w' ⟨u, cs, v', r, rfl, h1, h2, h3⟩
  have hlt : ∀ b ∈ l, b < 256 := fun x hx => by
    obtain ⟨i, hi⟩ := List.mem_iff_getElem?.1 hx
    exact (hb i x hi).1
  obtain rfl : r = g := by
    cases r with
    | true => cases g with
      | true => rfl
      | false => exact absurd (h2 rfl) (hn rfl v')
    | false => cases g with
      | true => exact absurd (hg rfl) ((h3 rfl).1 v)
      | false => rfl
  refine ⟨cs, v', rfl, u, h1, fun e => ?_, ?_⟩
  · have := (hg e).symm.trans (h2 e)
    simp only [Option.some.injEq, Prod.mk.injEq] at this
    exact this.1.symm
  · cases r with
    | true => exact (Sch.get_one s l v' [] (h2 rfl) hlt).2
    | false => rw [(h3 rfl).2]; exact Sch.good_zero s
theorem get_bytesOf (hg : g = true ↔ s.good v) : g = true → s.get (bytesOf g s v) = some (v, []) := fun e => by
  subst e
  have := Sch.get_put s v [] (hg.1 rfl)
  rwa [List.append_nil] at this
theorem get_none (h0 : s.get [] = none) : g = false → ∀ v', s.get (bytesOf g s v) ≠ some (v', []) := fun e v' => by
  subst e
  show s.get [] ≠ _
  rw [h0]; simp
end
theorem bytes_all {w w' : World} {ok : Nat → Prop} {a : Option Addr} {l : List Nat} (h : Bytes w ok a l) (u : Upd [] w w') : Bytes w' (· < w'.heap.size) a l :=
  h.keep (fun k hk hl => ⟨Nat.lt_of_lt_of_le hl u.size, u.block k hl (by simp)⟩) u.size
theorem rep_all {w w' : World} {ok : Nat → Prop} {s : Sch} {cs : List Value} {v : Val} (h : s.Rep w ok cs v) (u : Upd [] w w') : s.Rep w' (· < w'.heap.size) cs v :=
  h.keep (fun k hk hl => ⟨Nat.lt_of_lt_of_le hl u.size, u.block k hl (by simp)⟩) u.size

end Go.Proofs.Ytpoplipjombdbaa
/- codec's form.entry, reading. -/
namespace Go.Proofs.Ytpoplipjombdbaa
open Go.RowKit Go.Lb Go.Rc

set_option maxRecDepth 20000 in
set_option maxHeartbeats 2000000 in
theorem entry_reads : Reads 88 sEntry := by
  intro B f p q tp pre post l b w h hB hpf hq hp
  subst hq
  have H0 := Lib.hid (RdSt.start (rest := [.num, .num, sCmd]) h hB hpf hp (fr_mark h).2.2.2.1)
  clear h hp
  go_enter Try.func88, Try.ntmps88
  go_wp2_with fail
  refine wp_region_lex (fun _ => True) 99 [(0, true), (1, true), (2, true), (3, true), (4, true), (5, true), (6, true), (7, false), (8, false)] (by kernel_rfl) (by kernel_rfl) (by kernel_rfl) (by kernel_rfl) (fun _ _ d _ _ h => by cases d <;> exact h) ?_
  simp only [lexOps, List.map_cons, List.map_nil, List.getD_cons_zero, List.getD_cons_succ]
  iterate 7 (refine lex_read rfl trivial (v := ?_) (fun w' _ => ?_) ?_; rotate_left; (focus (go_simp; try with_reducible rfl)); simp only [Act.put, List.setIfInBounds_toArray, List.set_cons_zero, List.set_cons_succ])
  refine lex_do rfl (fun K hK => ?_)
  go_simp
  refine hK _ _ (fun _ => trivial) ?_
  clear hK K
  refine lex_do rfl (fun K hK => ?_)
  go_simp
  refine (CRd.goNums (rest := [sCmd]) (k := 2) H0.out ((Upd.refl _ _).alloc _).drew (Nat.le_refl _) (Blk.drew (Blk.new _ _ [_, _])) (by simp only [fsize_append, fsize_nums, fsize, List.nil_append] <;> rfl) (by decide)).mono ?_
  rintro e w1 ⟨rfl, ns1, l1, b1, hn, h⟩
  have H1 := Lib.hid h
  have HN1 := Lib.hid hn
  clear hn
  refine hK _ _ (fun _ => trivial) ?_
  clear hK K h
  refine lex_nil ?_
  go_wp2_with fail
  refine (CRd.go cmd_reads H1.out (by simp only [fsize_append, fsize_nums, fsize, HN1.out, List.nil_append] <;> rfl)).mono ?_
  rintro e w2 ⟨rfl, v2, l2, b2, h⟩
  have H2 := Lib.hid h
  clear h
  go_wp2_with fail
  go_end0
  exact CRd.fin H2.out (by simp only [List.map_append, nums_fst, HN1.out, List.append_assoc, List.map_cons, List.map_nil, List.nil_append]; rfl)
end Go.Proofs.Ytpoplipjombdbaa
/- codec's list[Entry], reading. -/
namespace Go.Proofs.Ytpoplipjombdbaa
open Go.RowKit Go.Lb Go.Rc

set_option maxRecDepth 20000 in
set_option maxHeartbeats 2000000 in
theorem listEntry_reads : LReads 87 88 sEntry := by
  intro B f p q tp pre post l b w h hB hpf hq hp
  obtain ⟨iT, hiT, hz0, hz1, hz2⟩ := info82
  subst hq
  have c0 := hp.cell (o := pre.length) mid_at
  obtain ⟨_, _, _, hf, hBf⟩ := fr_mark h
  have hplt := hp.lt
  have H := Lib.hid h
  have HP := Lib.hid hp
  clear h hp
  go_enter Try.func87, Try.ntmps87
  go_wp2_with fail
  refine (many_r B f 64 _ l b _ H.out).mono ?_
  rintro e w1 ⟨k, l1, b1, rfl, hk, h1, h2, h3⟩
  obtain ⟨m2, m3, m4, m5, _⟩ := fr_mark h1
  have HB1 := Lib.hid (h2.blk HP.out (by simpa using hpf))
  have HS : Hid (LRdSt sEntry 127 cR [f, p] B f 82 29 w w1 k l b 0 l1 b1 (.slice none 0 0) [] []) := Lib.hid (LRdSt.start h1 (h2.mono (by simp)) (by simp; omega) h3)
  clear h1 h2 h3 H
  go_wp2_with fail
  go_loopg [9, 42] k (fun g u t wr => ∃ (i : Nat) (l' : List Nat) (b' : Bool) (v : Value) (xss : List (List Value)) (xs : List Val), t = .int .i64 i ∧ k - i = g ∧ i ≤ k ∧ Blk wr p tp (pre ++ [v] ++ post) ∧ LRdSt sEntry 127 cR [f, p] B f 82 29 w wr k l b i l' b' v xss xs)
  case atStart => exact ⟨0, l1, b1, _, [], [], rfl, rfl, by omega, HB1.out, HS.out⟩
  case round =>
    obtain ⟨i, l', b', v, xss, xs, rfl, hg, hi, hbk, hS⟩ := hrel
    have HG := Lib.hid hg
    have HBK := Lib.hid hbk
    have HST := Lib.hid hS
    obtain ⟨n2, n3, n4, n5, _⟩ := fr_mark hS.fr
    have hsz := hS.upd.size
    clear hg hbk hS m2 m3 m4 m5
    by_cases hlt : i < k
    · have t1 : decide (i < k) = true := by simpa using hlt
      cases b' with
      | true =>
        have HE := Lib.hid (HST.out.rd (.inl rfl))
        go_wp2_with fail
        go_end0
        exact ⟨rfl, .list xs, [v], l', true, HST.out.fr, HST.out.upd, HBK.out, HST.out.isRep, HE.out⟩
      | false =>
      go_wp2_with (refine wpList_alloc_blk rfl 82 rfl sEntry.zc (zero82 _) ?_; intro wB hb hu)
      have hN := HST.out.upd' hu
      refine (entry_reads B f wr.heap.size 0 82 [] [] l' false wB hN.fr (by omega) (by omega) rfl (by simpa [Sch.zc] using hb)).mono ?_
      rintro e w2 ⟨rfl, x, us, l2, b2, h1, h2, h3, h4, h5⟩
      have hus : us.length = 29 := h4.len
      have hb2 : Blk w2 wr.heap.size 82 us := by simpa using h3
      have hU : Upd [f, p] wr w2 := (hu.mono (by simp)).trans h2 (by
        intro y hy
        simp only [List.mem_cons, List.not_mem_nil, or_false] at hy
        rcases hy with rfl | rfl
        · simp
        · exact .inr (Nat.le_refl _))
      have h4' : Sch.Rep w2 (fun b => wr.heap.size ≤ b) sEntry us x := h4.mono (fun b hb _ => Nat.le_trans hu.size hb)
      have hbp : Blk w2 p tp (pre ++ [v] ++ post) := by
        refine h2.blk (hu.blk HBK.out (by simp)) ?_
        simp; omega
      have hrow2 := (hN.row)
      have hrw : w2.ownsRow w.heap.size 82 29 v i xss.flatten := h2.row (hu.row HST.out.row (by simp)) (by
        intro y hy
        have := own_lo HST.out.row hy
        simp; omega)
      have hsz2 := hU.size
      have hl2 := hb2.lt
      obtain ⟨a, c, rfl⟩ := own_shape' hrw
      have HO := Lib.hid h4.one
      have HR : Hid (∀ w', Upd (Value.slice a i c).ownBlock.toList w2 w' → w'.cell? ⟨p, pre.length, none⟩ = some (.slice a i c) ∧ Blk w' wr.heap.size 82 us) := Lib.hid (by
        intro w' u
        refine ⟨(u.blk hbp ?_).cell mid_at, u.blk hb2 ?_⟩
        · intro hm
          have := own_lo HST.out.row (g := p) (by simpa using hm)
          omega
        · intro hm
          have := own_lo HST.out.row (g := wr.heap.size) (by simpa using hm)
          omega)
      have HST2 := HST
      have HU := Lib.hid hU
      have H4 := Lib.hid h4'
      have H5 := Lib.hid h5
      have H1 := Lib.hid h1
      have HRW := Lib.hid hrw
      have HBP := Lib.hid hbp
      have HUS := Lib.hid hus
      clear h1 h2 h3 h4 h5 hN hb hu hbp hrow2 hrw hU h4' hus
      go_wp2_with fail
      refine wp_region_lex (fun w' => Upd (Value.slice a i c).ownBlock.toList w2 w') 8 [(0, true), (1, true), (2, true), (3, true), (4, true), (5, false), (6, false), (7, false), (8, false)] (by kernel_rfl) (by kernel_rfl) (by kernel_rfl) (by kernel_rfl) (fun _ _ d _ _ h => by cases d <;> exact h) ?_
      simp only [lexOps, List.map_cons, List.map_nil, List.getD_cons_zero, List.getD_cons_succ]
      have hS0 : Upd (Value.slice a i c).ownBlock.toList w2 w2.drew := (Upd.refl _ _).drew
      iterate 4 (refine lex_read rfl (by exact hS0) (v := ?_) (fun w' hw => ?_) ?_; rotate_left; (focus (obtain ⟨k1, k2⟩ := HR.out w' hw; clear k2; go_simp; try with_reducible rfl)); simp only [Act.put, List.setIfInBounds_toArray, List.set_cons_zero, List.set_cons_succ])
      refine lex_read rfl (by exact hS0) (fun w' hw => exec_load (by rfl) (by rfl) (run_loadAt_mid w' wr.heap.size 0 82 us _ (HR.out w' hw).2.range Try.underlying82 rfl (by rw [HUS.out]; exact Try.size82))) ?_
      try simp only [Act.put, List.setIfInBounds_toArray, List.set_cons_zero, List.set_cons_succ]
      refine lex_run rfl (exec_buildSlice (by rfl) (by simp [Act.eval]) (run_buildSlice1 _ 57 82 iT _ us 29 Try.underlying57 hiT hz0 hz1 HUS.out (by decide) (by decide))) (fun _ => hS0.alloc _) ?_
      try simp only [Act.put, List.setIfInBounds_toArray, List.set_cons_zero, List.set_cons_succ]
      have h64 : k ≤ 64 := hk
      have hB2 : Blk (w2.drew.alloc (.cells us.toArray 82)) w2.heap.size 82 us := Blk.new w2.drew _ _
      refine lex_do rfl (fun K hK => ?_)
      refine wp_append_mine (.tmp 53) (.tmp 55) 57 rfl w.heap.size 82 iT _ 29 _ Try.underlying57 hiT hz0 hz1 hz2 rfl (by decide) (.slice a i c) i xss.flatten rfl (World.ownsRow.alloc HRW.out _) ⟨w2.heap.size, 0, none⟩ 1 1 us rfl (by rw [HUS.out]) hB2.news (HO.out) (by unfold maxLen; omega) (by omega) (by have := HST.out.upd.size; simp; omega) ?_
      intro v' w3 hown hg hv
      have uA : Upd [f, p] wr (w2.drew.alloc (.cells us.toArray 82)) := (HU.out.drew).alloc _
      have hF : Fr B w3 f l2 b2 := by
        obtain ⟨a', c', hI⟩ := H1.out
        have hI2 : In 127 cR B (w2.drew.alloc (.cells us.toArray 82)) f l2 b2 a' c' := hI.upd (F := []) ((Upd.refl [] w2).drew.alloc _) (by simp)
        refine ⟨a', c', hI2.upd (F := (Value.slice a i c).ownBlock.toList) ((Upd.refl _ _).grown hg (fun k hk => .inl (by simp [hk]))) (fun k hk => ?_)⟩
        have := own_lo HST.out.row (g := k) (by simpa using hk)
        omega
      have hbp3 : Blk w3 p tp (pre ++ [.slice a i c] ++ post) := by
        have hb4 : Blk (w2.drew.alloc (.cells us.toArray 82)) p tp (pre ++ [.slice a i c] ++ post) := (HBP.out.drew).alloc _
        refine (hg.block p hb4.lt (fun e => ?_)).trans hb4
        have := own_lo HST.out.row (g := p) e.symm
        omega
      have q1 := hbp3.cell (o := pre.length) mid_at
      have q2 := hbp3.frozen pre.length
      have q3 := hbp3.lt
      have uS : Upd [p] w3 (w3.setCell ⟨p, pre.length, none⟩ v') := (Upd.refl _ _).setCell (by simp) _
      have HX : Hid (Blk (w3.setCell ⟨p, pre.length, none⟩ v') p tp (pre ++ [v'] ++ post) ∧ LRdSt sEntry 127 cR [f, p] B f 82 29 w (w3.setCell ⟨p, pre.length, none⟩ v') k l b (i + 1) l2 b2 v' (xss ++ [us]) (xs ++ [x])) := by
        refine Lib.hid ⟨?_, LRdSt.next HST.out hlt uA (H4.out.upd ((Upd.refl [] w2).drew.alloc _) (by simp)) HUS.out H5.out hg hown ?_ (uS.mono (by simp)) (hF.upd uS (by simp; omega))⟩
        · have := hbp3.set pre.length v'
          rwa [mid_set] at this
        · rcases hv with h | h
          · exact .inl h
          · exact .inr h
      have hS3 : Upd (Value.slice a i c).ownBlock.toList w2 w3 := (hS0.alloc _).grown hg (fun k hk => .inl (by simp [hk]))
      refine hK _ _ (fun _ => hS3) ?_
      obtain ⟨a', c', rfl⟩ := own_shape' hown
      clear hK K hown hg hv uA hF hbp3 uS hB2 hS0
      try simp only [Act.put, List.setIfInBounds_toArray, List.set_cons_zero, List.set_cons_succ]
      refine lex_do rfl (fun K hK => ?_)
      go_simp
      refine hK _ _ (fun _ => hS3) ?_
      clear hK K hS3
      try simp only [Act.put, List.setIfInBounds_toArray, List.set_cons_zero, List.set_cons_succ]
      refine lex_do rfl (fun K hK => ?_)
      go_simp
      refine hK _ _ (fun h => absurd rfl h) ?_
      clear hK K
      try simp only [Act.put, List.setIfInBounds_toArray, List.set_cons_zero, List.set_cons_succ]
      refine lex_nil ?_
      go_wp2_with fail
      go_roundg (k - (i + 1))
      case measure => have := HG.out; omega
      case rel => exact ⟨i + 1, l2, b2, _, _, _, by go_num, rfl, by omega, HX.out.1, HX.out.2⟩
    · obtain rfl : i = k := by omega
      have HE := Lib.hid (HST.out.rd (.inr rfl))
      go_wp2_with fail
      go_end0
      exact ⟨rfl, .list xs, [v], l', b', HST.out.fr, HST.out.upd, HBK.out, HST.out.isRep, HE.out⟩
end Go.Proofs.Ytpoplipjombdbaa
/- codec's form.code, writing and reading. -/
namespace Go.Proofs.Ytpoplipjombdbaa
open Go.RowKit Go.Lb Go.Rc

set_option maxRecDepth 20000 in
set_option maxHeartbeats 1000000 in
theorem code_writes : Writes 116 .num := by
  intro B X f p q tp pre cs post v o b w h hX hq hp hr hl
  obtain ⟨n, rfl, rfl⟩ := hr
  subst hq
  simp only [Sch.wmax] at hl
  have hN := h.new ((Upd.refl [] w).alloc (.cells #[.int .i64 n] 3)) (x := w.heap.size) (Nat.le_refl _) (by simp)
  have HN := Lib.hid hN
  have HPb := Lib.hid (hp.alloc (.cells #[.int .i64 n] 3))
  have k0 := hp.cell (o := pre.length) mid_at
  have hB := h.base
  have hplt := hp.lt
  have HX := Lib.hid hX
  clear h hN hp hX
  go_enter Try.func116, Try.ntmps116
  go_wp2_with fail
  refine (num_w B (w.heap.size :: X) f _ _ _ o b _ HN.out ((Blk.new w 3 [.int .i64 _]).cell rfl) hl).mono ?_
  rintro e w1 ⟨rfl, o', b', h1, h2, h3⟩
  have hbn := h2.blk (Blk.new w 3 [.int .i64 _]) (.inr (by simp))
  have c0 := hbn.cell (o := 0) rfl
  have hbp := h2.blk HPb.out (.inr (by simp [HX.out]))
  have p0 := hbp.cell (o := pre.length) mid_at
  have pz := hbp.frozen pre.length
  have plt := hbp.lt
  have HS := Lib.hid (setCell_same hbp (o := pre.length) mid_at)
  have HF := Lib.hid (show WrPost .num B X f (.num n) o b w (.returned (.tuple #[])) w1 from ⟨rfl, o', b', h1.less, (Kp.of_nil ((Upd.refl [] w).alloc _)).trans h2.drop, h3⟩)
  clear h1 h2 h3 hbn hbp
  go_wp2_with fail
  go_end0
  first | (rw [HS.out]; exact HF.out) | exact HF.out

set_option maxRecDepth 20000 in
set_option maxHeartbeats 1000000 in
theorem code_reads : Reads 116 .num := by
  intro B f p q tp pre post l b w h hB hpf hq hp
  subst hq
  obtain ⟨_, _, _, hf, hBf⟩ := fr_mark h
  have HN := Lib.hid (h.upd ((Upd.refl [] w).alloc (.cells #[.int .i64 0] 3)) (by simp))
  have HPb := Lib.hid (hp.alloc (.cells #[.int .i64 0] 3))
  have k0 := hp.cell (o := pre.length) mid_at
  have hplt := hp.lt
  clear h hp
  go_enter Try.func116, Try.ntmps116
  go_wp2_with fail
  refine (num_r' B f w.heap.size 0 3 (.int .i64 0) [] [] l b _ HN.out (by omega) (by omega) rfl (Blk.new w _ _)).mono ?_
  rintro e w1 ⟨rfl, n, l', b', h1, h2, h3, h4⟩
  have c0 := h3.cell (o := 0) rfl
  have hbp := h2.blk HPb.out (by simp; omega)
  have p0 := hbp.cell (o := pre.length) mid_at
  have pz := hbp.frozen pre.length
  have plt := hbp.lt
  have HF : Hid (RdPost .num B f p tp pre post l b w (.returned (.tuple #[])) (w1.setCell ⟨p, pre.length, none⟩ (.int .i64 n))) := by
    refine Lib.hid ?_
    have uS : Upd [p] w1 (w1.setCell ⟨p, pre.length, none⟩ (.int .i64 n)) := (Upd.refl _ _).setCell (by simp) _
    refine ⟨rfl, .num n, [.int .i64 n], l', b', h1.upd uS (fun k hk => ?_), ?_, ?_, Sch.Rep.num_mk _, Sch.Rd.num h4⟩
    · simp at hk; subst hk; exact ⟨hpf, hB⟩
    · have hu : Upd [f, p] w w1 := ((Upd.refl [f, p] w).alloc _).trans h2 (by intro x hx; simp at hx; rcases hx with rfl | rfl; simp; right; exact Nat.le_refl _)
      exact hu.trans uS (by simp)
    · have := hbp.set pre.length (.int .i64 n)
      simpa [Sch.zc] using this
  clear h1 h2 h3 h4 hbp
  go_wp2_with fail
  go_end0
  exact HF.out
end Go.Proofs.Ytpoplipjombdbaa
/- codec's form.result, reading. -/
namespace Go.Proofs.Ytpoplipjombdbaa
open Go.RowKit Go.Lb Go.Rc

set_option maxRecDepth 20000 in
set_option maxHeartbeats 2000000 in
theorem result_reads : Reads 90 sResult := by
  intro B f p q tp pre post l b w h hB hpf hq hp
  subst hq
  have H0 := Lib.hid (RdSt.start (rest := [.num, .num, .list sAlloc]) h hB hpf hp (fr_mark h).2.2.2.1)
  clear h hp
  go_enter Try.func90, Try.ntmps90
  go_wp2_with fail
  refine (CRd.go code_reads H0.out (by simp only [fsize_append, fsize_nums, fsize, List.nil_append] <;> rfl)).mono ?_
  rintro e w1 ⟨rfl, v1, l1, b1, h⟩
  have H1 := Lib.hid h
  clear h
  go_wp2_with fail
  refine (CRd.go num_reads H1.out (by simp only [fsize_append, fsize_nums, fsize, List.nil_append] <;> rfl)).mono ?_
  rintro e w2 ⟨rfl, v2, l2, b2, h⟩
  have H2 := Lib.hid h
  clear h
  go_wp2_with fail
  refine (CRd.goList listAlloc_reads H2.out (by simp only [fsize_append, fsize_nums, fsize, List.nil_append] <;> rfl)).mono ?_
  rintro e w3 ⟨rfl, v3, l3, b3, h⟩
  have H3 := Lib.hid h
  clear h
  go_wp2_with fail
  go_end0
  exact CRd.fin H3.out (by simp only [List.map_append, nums_fst, List.append_assoc, List.map_cons, List.map_nil, List.nil_append]; rfl)
end Go.Proofs.Ytpoplipjombdbaa
/- codec's form.msg, reading. -/
namespace Go.Proofs.Ytpoplipjombdbaa
open Go.RowKit Go.Lb Go.Rc

set_option maxRecDepth 20000 in
set_option maxHeartbeats 2000000 in
theorem msg_reads : Reads 55 sMsg := by
  intro B f p q tp pre post l b w h hB hpf hq hp
  subst hq
  have H0 := Lib.hid (RdSt.start (rest := [.num, .num, .num, .num, .num, .num, .num, .flag, .num, .num, .num, .num, .list sEntry, sConf, .raw, sCmd, sResult]) h hB hpf hp (fr_mark h).2.2.2.1)
  clear h hp
  go_enter Try.func55, Try.ntmps55
  go_wp2_with fail
  refine wp_region_lex (fun _ => True) 99 [(0, true), (1, true), (2, true), (3, true), (4, true), (5, true), (6, true), (7, true), (8, true), (9, true), (10, true), (11, true), (12, true), (13, true), (14, true), (15, true), (16, true), (17, true), (18, true), (19, true), (20, true), (21, true), (22, false), (23, false)] (by kernel_rfl) (by kernel_rfl) (by kernel_rfl) (by kernel_rfl) (fun _ _ d _ _ h => by cases d <;> exact h) ?_
  simp only [lexOps, List.map_cons, List.map_nil, List.getD_cons_zero, List.getD_cons_succ]
  iterate 22 (refine lex_read rfl trivial (v := ?_) (fun w' _ => ?_) ?_; rotate_left; (focus (go_simp; try with_reducible rfl)); simp only [Act.put, List.setIfInBounds_toArray, List.set_cons_zero, List.set_cons_succ])
  refine lex_do rfl (fun K hK => ?_)
  go_simp
  refine hK _ _ (fun _ => trivial) ?_
  clear hK K
  refine lex_do rfl (fun K hK => ?_)
  go_simp
  refine (CRd.goNums (rest := [.flag, .num, .num, .num, .num, .list sEntry, sConf, .raw, sCmd, sResult]) (k := 7) H0.out ((Upd.refl _ _).alloc _).drew (Nat.le_refl _) (Blk.drew (Blk.new _ _ [_, _, _, _, _, _, _])) (by simp only [fsize_append, fsize_nums, fsize, List.nil_append] <;> rfl) (by decide)).mono ?_
  rintro e w1 ⟨rfl, ns1, l1, b1, hn, h⟩
  have H1 := Lib.hid h
  have HN1 := Lib.hid hn
  clear hn
  refine hK _ _ (fun _ => trivial) ?_
  clear hK K h
  refine lex_nil ?_
  go_wp2_with fail
  refine (CRd.go flag_reads H1.out (by simp only [fsize_append, fsize_nums, fsize, HN1.out, List.nil_append] <;> rfl)).mono ?_
  rintro e w2 ⟨rfl, v2, l2, b2, h⟩
  have H2 := Lib.hid h
  clear h
  go_wp2_with fail
  refine wp_region_lex (fun _ => True) 99 [(0, true), (1, true), (2, true), (3, true), (4, true), (5, true), (6, true), (7, true), (8, true), (9, true), (10, true), (11, true), (12, true), (13, false), (14, false)] (by kernel_rfl) (by kernel_rfl) (by kernel_rfl) (by kernel_rfl) (fun _ _ d _ _ h => by cases d <;> exact h) ?_
  simp only [lexOps, List.map_cons, List.map_nil, List.getD_cons_zero, List.getD_cons_succ]
  iterate 13 (refine lex_read rfl trivial (v := ?_) (fun w' _ => ?_) ?_; rotate_left; (focus (go_simp; try with_reducible rfl)); simp only [Act.put, List.setIfInBounds_toArray, List.set_cons_zero, List.set_cons_succ])
  refine lex_do rfl (fun K hK => ?_)
  go_simp
  refine hK _ _ (fun _ => trivial) ?_
  clear hK K
  refine lex_do rfl (fun K hK => ?_)
  go_simp
  refine (CRd.goNums (rest := [.list sEntry, sConf, .raw, sCmd, sResult]) (k := 4) H2.out ((Upd.refl _ _).alloc _).drew (Nat.le_refl _) (Blk.drew (Blk.new _ _ [_, _, _, _])) (by simp only [fsize_append, fsize_nums, fsize, HN1.out, List.nil_append] <;> rfl) (by decide)).mono ?_
  rintro e w3 ⟨rfl, ns3, l3, b3, hn, h⟩
  have H3 := Lib.hid h
  have HN3 := Lib.hid hn
  clear hn
  refine hK _ _ (fun _ => trivial) ?_
  clear hK K h
  refine lex_nil ?_
  go_wp2_with fail
  refine (CRd.goList listEntry_reads H3.out (by simp only [fsize_append, fsize_nums, fsize, HN1.out, HN3.out, List.nil_append] <;> rfl)).mono ?_
  rintro e w4 ⟨rfl, v4, l4, b4, h⟩
  have H4 := Lib.hid h
  clear h
  go_wp2_with fail
  refine (CRd.go conf_reads H4.out (by simp only [fsize_append, fsize_nums, fsize, HN1.out, HN3.out, List.nil_append] <;> rfl)).mono ?_
  rintro e w5 ⟨rfl, v5, l5, b5, h⟩
  have H5 := Lib.hid h
  clear h
  go_wp2_with fail
  refine (CRd.go raw_reads H5.out (by simp only [fsize_append, fsize_nums, fsize, HN1.out, HN3.out, List.nil_append] <;> rfl)).mono ?_
  rintro e w6 ⟨rfl, v6, l6, b6, h⟩
  have H6 := Lib.hid h
  clear h
  go_wp2_with fail
  refine (CRd.go cmd_reads H6.out (by simp only [fsize_append, fsize_nums, fsize, HN1.out, HN3.out, List.nil_append] <;> rfl)).mono ?_
  rintro e w7 ⟨rfl, v7, l7, b7, h⟩
  have H7 := Lib.hid h
  clear h
  go_wp2_with fail
  refine (CRd.go result_reads H7.out (by simp only [fsize_append, fsize_nums, fsize, HN1.out, HN3.out, List.nil_append] <;> rfl)).mono ?_
  rintro e w8 ⟨rfl, v8, l8, b8, h⟩
  have H8 := Lib.hid h
  clear h
  go_wp2_with fail
  go_end0
  exact CRd.fin H8.out (by simp only [List.map_append, nums_fst, HN1.out, HN3.out, List.append_assoc, List.map_cons, List.map_nil, List.nil_append]; rfl)
end Go.Proofs.Ytpoplipjombdbaa
/- codec's get[Msg] and GetMsg. -/
namespace Go.Proofs.Ytpoplipjombdbaa
open Go.RowKit Go.Lb Go.Rc

set_option maxRecDepth 20000 in
set_option maxHeartbeats 2000000 in
theorem getMsg_any (a : Option Addr) (c : Nat) (l : List Nat) (w : World) (hb : Bytes w (· < w.heap.size) a l) (hc : l.length ≤ c ∧ c ≤ maxLen) :
    Calls Try.prog 56 #[.slice a l.length c, .func (.func 55) #[] #[]] w (GetIs sMsg l w) := by
  have HB := Lib.hid hb
  have HC := Lib.hid hc
  clear hb hc
  go_enter Try.func56, Try.ntmps56
  go_wp2_with (refine wpList_alloc_blk rfl 61 rfl sMsg.zc (zero61 _) ?_; intro wA hA uA)
  rename_i wB hB uB wC hC uC K1 a1 K2 a2
  have uW : Upd [] w (wA.alloc (.cells #[.slice a l.length c, .bool true, .bool false] 127)) := ((uB.trans uC (by simp)).trans uA (by simp)).alloc _
  have s1 := uB.size
  have s2 := uC.size
  have s3 := uA.size
  have l1 := hB.lt
  have l2 := hC.lt
  have l3 := hA.lt
  have hT := (uA.blk (uC.blk hB (by simp)) (by simp)).alloc (.cells #[.slice a l.length c, .bool true, .bool false] 127)
  have hX := (uA.blk hC (by simp)).alloc (.cells #[.slice a l.length c, .bool true, .bool false] 127)
  have hN := hA.alloc (.cells #[.slice a l.length c, .bool true, .bool false] 127)
  refine (msg_reads w.heap.size wA.heap.size wB.heap.size 0 61 [] [] l false _ ⟨a, c, Blk.new wA 127 [.slice a l.length c, .bool true, .bool false], HB.out.upd uW (by simp), HC.out, by omega⟩ (by omega) (by omega) rfl (by simpa using hX)).mono ?_
  rintro e w1 ⟨rfl, v, cs, l', b', h1, h2, h3, h4, h5⟩
  have hlen : cs.length = 46 := h4.len
  have h3' : Blk w1 wB.heap.size 61 cs := by simpa using h3
  have hT1 : Blk w1 w.heap.size 61 sMsg.zc := h2.blk hT (by simp; omega)
  have hN1 : Blk w1 wC.heap.size 61 sMsg.zc := h2.blk hN (by simp; omega)
  have HU : Hid (Upd [] w w1) := Lib.hid (uW.trans h2 (by simp; omega))
  have HT := Lib.hid hT1
  have HN := Lib.hid hN1
  have HX := Lib.hid h3'
  have HRep := Lib.hid (h4.mono (ok' := fun k => w.heap.size < k) (fun b hb _ => by simp at hb; omega))
  have HR := Lib.hid h5
  obtain ⟨m2, _, _, _, _⟩ := fr_mark h1
  obtain ⟨a', c', hI⟩ := h1
  have f0 := hI.blk.cell (o := 0) rfl
  clear h2 h3 h4 h5 h3' hT1 hN1 hT hX hN hI uA uB uC hA hB hC uW
  by_cases hg : b' = false ∧ l' = []
  · obtain ⟨rfl, rfl⟩ := hg
    have f0' : w1.cell? ⟨wA.heap.size, 0, none⟩ = some (.slice a' 0 c') := f0
    clear f0
    go_wp2_with (first | (refine wpList_load_blk rfl 61 (.tmp 6) rfl wB.heap.size rfl HX.out Try.underlying61 rfl (by rw [hlen]; exact Try.size61) ?_) | (refine wpList_store_blk (o := ⟨none, .store 61 (.tmp 4) (.tmp 28), _, _, _, _⟩) rfl 61 (.tmp 4) (.tmp 28) rfl w.heap.size cs rfl rfl HT.out (by rw [hlen]; exact Try.size61) (by rw [hlen]; rfl) HRep.out.one ?_; intro w3 hb3 hu3))
    have hl := run_loadVar_blk (P := Try.prog) hb3 61 _ Try.underlying61 rfl (by rw [hlen]; exact Try.size61)
    refine bodyPost_ret (v := .tuple #[.agg cs.toArray, .bool true]) ?_ rfl ⟨HU.out.trans hu3 (by simp), cs, v, true, rfl, HRep.out.keep (fun k hk hl => ⟨Nat.le_of_lt hk, hu3.block k hl (by simp; omega)⟩) hu3.size, fun _ => (HR.out.good rfl).2, fun h => (by cases h)⟩
    · rw [results_cell_tmp Try.results56]; simp [asAddr, hl]
  · have t1 : b' = true ∨ (b' = false ∧ decide (0 < l'.length) = true) := by
      cases b' with
      | true => exact .inl rfl
      | false =>
        right
        refine ⟨rfl, ?_⟩
        rw [decide_eq_true_eq, List.length_pos_iff]
        exact fun h => hg ⟨rfl, h⟩
    have HG : Hid (∀ v', sMsg.get l ≠ some (v', [])) := Lib.hid (fun v' hv => by
      cases b' with
      | true =>
        rcases HR.out.bad rfl with h | h
        · cases h
        · rw [hv] at h; cases h
      | false =>
        have := (HR.out.good rfl).2
        rw [hv] at this
        simp only [Option.some.injEq, Prod.mk.injEq] at this
        exact hg ⟨rfl, this.2.symm⟩)
    clear hg
    rcases t1 with rfl | ⟨rfl, t1⟩
    all_goals
      go_wp2_with (first | (refine wpList_load_blk rfl 61 (.tmp 7) rfl wC.heap.size rfl HN.out Try.underlying61 rfl (by exact Try.size61) ?_) | (refine wpList_store_blk (o := ⟨none, .store 61 (.tmp 4) (.tmp 27), _, _, _, _⟩) rfl 61 (.tmp 4) (.tmp 27) rfl w.heap.size sMsg.zc rfl rfl HT.out (by exact Try.size61) (by rfl) (Sch.zc_one sMsg) ?_; intro w3 hb3 hu3))
      have hl := run_loadVar_blk (P := Try.prog) hb3 61 _ Try.underlying61 rfl (by exact Try.size61)
      refine bodyPost_ret (v := .tuple #[.agg sMsg.zc.toArray, .bool false]) ?_ rfl ⟨HU.out.trans hu3 (by simp), sMsg.zc, sMsg.zero, false, rfl, Sch.Rep.zero _ _ _, fun h => (by cases h), fun _ => ⟨HG.out, rfl⟩⟩
      rw [results_cell_tmp Try.results56]; simp [asAddr, hl]

set_option maxRecDepth 20000 in
set_option maxHeartbeats 2000000 in
theorem getMsg_gets : Gets 36 sMsg := by
  intro a c l w hb hc
  have HB := Lib.hid hb
  have HC := Lib.hid hc
  clear hb hc
  go_enter Try.func36, Try.ntmps36
  go_wp2_with (refine wpList_alloc_blk rfl 61 rfl sMsg.zc (zero61 _) ?_; intro wA hA uA)
  have s1 := uA.size
  have l1 := hA.lt
  refine (getMsg_any a c l wA ((HB.out.upd uA (by simp)).mono' s1) HC.out).mono ?_
  rintro e w1 ⟨u1, cs, v, r, rfl, hr, h1, h2⟩
  have hlen : cs.length = 46 := hr.len
  have HT := Lib.hid (u1.blk hA (by simp))
  have HU : Hid (Upd [] w w1) := Lib.hid (uA.trans u1 (by simp))
  have HRep := Lib.hid (hr.mono (ok' := fun k => w.heap.size < k) (fun b hb _ => by omega))
  have H1 := Lib.hid h1
  have H2 := Lib.hid h2
  clear hr h1 h2 u1 uA hA
  go_wp2_with (refine wpList_store_blk (o := ⟨none, .store 61 (.tmp 2) (.tmp 6), _, _, _, _⟩) rfl 61 (.tmp 2) (.tmp 6) rfl w.heap.size cs rfl rfl HT.out (by rw [hlen]; exact Try.size61) (by rw [hlen]; rfl) HRep.out.one ?_; intro w3 hb3 hu3)
  have hl := run_loadVar_blk (P := Try.prog) hb3 61 _ Try.underlying61 rfl (by rw [hlen]; exact Try.size61)
  refine bodyPost_ret (v := .tuple #[.agg cs.toArray, .bool r]) ?_ rfl ⟨HU.out.trans hu3 (by simp), cs, v, r, rfl, HRep.out.keep (fun k hk hl => ⟨Nat.le_of_lt hk, hu3.block k hl (by simp; omega)⟩) hu3.size, H1.out, H2.out⟩
  rw [results_cell_tmp Try.results36]; simp [asAddr, hl]
end Go.Proofs.Ytpoplipjombdbaa
/- codec's list[Job], reading. -/
namespace Go.Proofs.Ytpoplipjombdbaa
open Go.RowKit Go.Lb Go.Rc

set_option maxRecDepth 20000 in
set_option maxHeartbeats 2000000 in
theorem listJob_reads : LReads 91 61 sJob := by
  intro B f p q tp pre post l b w h hB hpf hq hp
  obtain ⟨iT, hiT, hz0, hz1, hz2⟩ := info36
  subst hq
  have c0 := hp.cell (o := pre.length) mid_at
  obtain ⟨_, _, _, hf, hBf⟩ := fr_mark h
  have hplt := hp.lt
  have H := Lib.hid h
  have HP := Lib.hid hp
  clear h hp
  go_enter Try.func91, Try.ntmps91
  go_wp2_with fail
  refine (many_r B f 64 _ l b _ H.out).mono ?_
  rintro e w1 ⟨k, l1, b1, rfl, hk, h1, h2, h3⟩
  obtain ⟨m2, m3, m4, m5, _⟩ := fr_mark h1
  have HB1 := Lib.hid (h2.blk HP.out (by simpa using hpf))
  have HS : Hid (LRdSt sJob 127 cR [f, p] B f 36 7 w w1 k l b 0 l1 b1 (.slice none 0 0) [] []) := Lib.hid (LRdSt.start h1 (h2.mono (by simp)) (by simp; omega) h3)
  clear h1 h2 h3 H
  go_wp2_with fail
  go_loopg [9, 42] k (fun g u t wr => ∃ (i : Nat) (l' : List Nat) (b' : Bool) (v : Value) (xss : List (List Value)) (xs : List Val), t = .int .i64 i ∧ k - i = g ∧ i ≤ k ∧ Blk wr p tp (pre ++ [v] ++ post) ∧ LRdSt sJob 127 cR [f, p] B f 36 7 w wr k l b i l' b' v xss xs)
  case atStart => exact ⟨0, l1, b1, _, [], [], rfl, rfl, by omega, HB1.out, HS.out⟩
  case round =>
    obtain ⟨i, l', b', v, xss, xs, rfl, hg, hi, hbk, hS⟩ := hrel
    have HG := Lib.hid hg
    have HBK := Lib.hid hbk
    have HST := Lib.hid hS
    obtain ⟨n2, n3, n4, n5, _⟩ := fr_mark hS.fr
    have hsz := hS.upd.size
    clear hg hbk hS m2 m3 m4 m5
    by_cases hlt : i < k
    · have t1 : decide (i < k) = true := by simpa using hlt
      cases b' with
      | true =>
        have HE := Lib.hid (HST.out.rd (.inl rfl))
        go_wp2_with fail
        go_end0
        exact ⟨rfl, .list xs, [v], l', true, HST.out.fr, HST.out.upd, HBK.out, HST.out.isRep, HE.out⟩
      | false =>
      go_wp2_with (refine wpList_alloc_blk rfl 36 rfl sJob.zc (zero36 _) ?_; intro wB hb hu)
      have hN := HST.out.upd' hu
      refine (job_reads B f wr.heap.size 0 36 [] [] l' false wB hN.fr (by omega) (by omega) rfl (by simpa [Sch.zc] using hb)).mono ?_
      rintro e w2 ⟨rfl, x, us, l2, b2, h1, h2, h3, h4, h5⟩
      have hus : us.length = 7 := h4.len
      have hb2 : Blk w2 wr.heap.size 36 us := by simpa using h3
      have hU : Upd [f, p] wr w2 := (hu.mono (by simp)).trans h2 (by
        intro y hy
        simp only [List.mem_cons, List.not_mem_nil, or_false] at hy
        rcases hy with rfl | rfl
        · simp
        · exact .inr (Nat.le_refl _))
      have h4' : Sch.Rep w2 (fun b => wr.heap.size ≤ b) sJob us x := h4.mono (fun b hb _ => Nat.le_trans hu.size hb)
      have hbp : Blk w2 p tp (pre ++ [v] ++ post) := by
        refine h2.blk (hu.blk HBK.out (by simp)) ?_
        simp; omega
      have hrow2 := (hN.row)
      have hrw : w2.ownsRow w.heap.size 36 7 v i xss.flatten := h2.row (hu.row HST.out.row (by simp)) (by
        intro y hy
        have := own_lo HST.out.row hy
        simp; omega)
      have hsz2 := hU.size
      have hl2 := hb2.lt
      obtain ⟨a, c, rfl⟩ := own_shape' hrw
      have HO := Lib.hid h4.one
      have HR : Hid (∀ w', Upd (Value.slice a i c).ownBlock.toList w2 w' → w'.cell? ⟨p, pre.length, none⟩ = some (.slice a i c) ∧ Blk w' wr.heap.size 36 us) := Lib.hid (by
        intro w' u
        refine ⟨(u.blk hbp ?_).cell mid_at, u.blk hb2 ?_⟩
        · intro hm
          have := own_lo HST.out.row (g := p) (by simpa using hm)
          omega
        · intro hm
          have := own_lo HST.out.row (g := wr.heap.size) (by simpa using hm)
          omega)
      have HST2 := HST
      have HU := Lib.hid hU
      have H4 := Lib.hid h4'
      have H5 := Lib.hid h5
      have H1 := Lib.hid h1
      have HRW := Lib.hid hrw
      have HBP := Lib.hid hbp
      have HUS := Lib.hid hus
      clear h1 h2 h3 h4 h5 hN hb hu hbp hrow2 hrw hU h4' hus
      go_wp2_with fail
      refine wp_region_lex (fun w' => Upd (Value.slice a i c).ownBlock.toList w2 w') 8 [(0, true), (1, true), (2, true), (3, true), (4, true), (5, false), (6, false), (7, false), (8, false)] (by kernel_rfl) (by kernel_rfl) (by kernel_rfl) (by kernel_rfl) (fun _ _ d _ _ h => by cases d <;> exact h) ?_
      simp only [lexOps, List.map_cons, List.map_nil, List.getD_cons_zero, List.getD_cons_succ]
      have hS0 : Upd (Value.slice a i c).ownBlock.toList w2 w2.drew := (Upd.refl _ _).drew
      iterate 4 (refine lex_read rfl (by exact hS0) (v := ?_) (fun w' hw => ?_) ?_; rotate_left; (focus (obtain ⟨k1, k2⟩ := HR.out w' hw; clear k2; go_simp; try with_reducible rfl)); simp only [Act.put, List.setIfInBounds_toArray, List.set_cons_zero, List.set_cons_succ])
      refine lex_read rfl (by exact hS0) (fun w' hw => exec_load (by rfl) (by rfl) (run_loadAt_mid w' wr.heap.size 0 36 us _ (HR.out w' hw).2.range Try.underlying36 rfl (by rw [HUS.out]; exact Try.size36))) ?_
      try simp only [Act.put, List.setIfInBounds_toArray, List.set_cons_zero, List.set_cons_succ]
      refine lex_run rfl (exec_buildSlice (by rfl) (by simp [Act.eval]) (run_buildSlice1 _ 85 36 iT _ us 7 Try.underlying85 hiT hz0 hz1 HUS.out (by decide) (by decide))) (fun _ => hS0.alloc _) ?_
      try simp only [Act.put, List.setIfInBounds_toArray, List.set_cons_zero, List.set_cons_succ]
      have h64 : k ≤ 64 := hk
      have hB2 : Blk (w2.drew.alloc (.cells us.toArray 36)) w2.heap.size 36 us := Blk.new w2.drew _ _
      refine lex_do rfl (fun K hK => ?_)
      refine wp_append_mine (.tmp 53) (.tmp 55) 85 rfl w.heap.size 36 iT _ 7 _ Try.underlying85 hiT hz0 hz1 hz2 rfl (by decide) (.slice a i c) i xss.flatten rfl (World.ownsRow.alloc HRW.out _) ⟨w2.heap.size, 0, none⟩ 1 1 us rfl (by rw [HUS.out]) hB2.news (HO.out) (by unfold maxLen; omega) (by omega) (by have := HST.out.upd.size; simp; omega) ?_
      intro v' w3 hown hg hv
      have uA : Upd [f, p] wr (w2.drew.alloc (.cells us.toArray 36)) := (HU.out.drew).alloc _
      have hF : Fr B w3 f l2 b2 := by
        obtain ⟨a', c', hI⟩ := H1.out
        have hI2 : In 127 cR B (w2.drew.alloc (.cells us.toArray 36)) f l2 b2 a' c' := hI.upd (F := []) ((Upd.refl [] w2).drew.alloc _) (by simp)
        refine ⟨a', c', hI2.upd (F := (Value.slice a i c).ownBlock.toList) ((Upd.refl _ _).grown hg (fun k hk => .inl (by simp [hk]))) (fun k hk => ?_)⟩
        have := own_lo HST.out.row (g := k) (by simpa using hk)
        omega
      have hbp3 : Blk w3 p tp (pre ++ [.slice a i c] ++ post) := by
        have hb4 : Blk (w2.drew.alloc (.cells us.toArray 36)) p tp (pre ++ [.slice a i c] ++ post) := (HBP.out.drew).alloc _
        refine (hg.block p hb4.lt (fun e => ?_)).trans hb4
        have := own_lo HST.out.row (g := p) e.symm
        omega
      have q1 := hbp3.cell (o := pre.length) mid_at
      have q2 := hbp3.frozen pre.length
      have q3 := hbp3.lt
      have uS : Upd [p] w3 (w3.setCell ⟨p, pre.length, none⟩ v') := (Upd.refl _ _).setCell (by simp) _
      have HX : Hid (Blk (w3.setCell ⟨p, pre.length, none⟩ v') p tp (pre ++ [v'] ++ post) ∧ LRdSt sJob 127 cR [f, p] B f 36 7 w (w3.setCell ⟨p, pre.length, none⟩ v') k l b (i + 1) l2 b2 v' (xss ++ [us]) (xs ++ [x])) := by
        refine Lib.hid ⟨?_, LRdSt.next HST.out hlt uA (H4.out.upd ((Upd.refl [] w2).drew.alloc _) (by simp)) HUS.out H5.out hg hown ?_ (uS.mono (by simp)) (hF.upd uS (by simp; omega))⟩
        · have := hbp3.set pre.length v'
          rwa [mid_set] at this
        · rcases hv with h | h
          · exact .inl h
          · exact .inr h
      have hS3 : Upd (Value.slice a i c).ownBlock.toList w2 w3 := (hS0.alloc _).grown hg (fun k hk => .inl (by simp [hk]))
      refine hK _ _ (fun _ => hS3) ?_
      obtain ⟨a', c', rfl⟩ := own_shape' hown
      clear hK K hown hg hv uA hF hbp3 uS hB2 hS0
      try simp only [Act.put, List.setIfInBounds_toArray, List.set_cons_zero, List.set_cons_succ]
      refine lex_do rfl (fun K hK => ?_)
      go_simp
      refine hK _ _ (fun _ => hS3) ?_
      clear hK K hS3
      try simp only [Act.put, List.setIfInBounds_toArray, List.set_cons_zero, List.set_cons_succ]
      refine lex_do rfl (fun K hK => ?_)
      go_simp
      refine hK _ _ (fun h => absurd rfl h) ?_
      clear hK K
      try simp only [Act.put, List.setIfInBounds_toArray, List.set_cons_zero, List.set_cons_succ]
      refine lex_nil ?_
      go_wp2_with fail
      go_roundg (k - (i + 1))
      case measure => have := HG.out; omega
      case rel => exact ⟨i + 1, l2, b2, _, _, _, by go_num, rfl, by omega, HX.out.1, HX.out.2⟩
    · obtain rfl : i = k := by omega
      have HE := Lib.hid (HST.out.rd (.inr rfl))
      go_wp2_with fail
      go_end0
      exact ⟨rfl, .list xs, [v], l', b', HST.out.fr, HST.out.upd, HBK.out, HST.out.isRep, HE.out⟩
end Go.Proofs.Ytpoplipjombdbaa
/- codec's list[Node], reading. -/
namespace Go.Proofs.Ytpoplipjombdbaa
open Go.RowKit Go.Lb Go.Rc

set_option maxRecDepth 20000 in
set_option maxHeartbeats 2000000 in
theorem listNode_reads : LReads 92 62 sNode := by
  intro B f p q tp pre post l b w h hB hpf hq hp
  obtain ⟨iT, hiT, hz0, hz1, hz2⟩ := info40
  subst hq
  have c0 := hp.cell (o := pre.length) mid_at
  obtain ⟨_, _, _, hf, hBf⟩ := fr_mark h
  have hplt := hp.lt
  have H := Lib.hid h
  have HP := Lib.hid hp
  clear h hp
  go_enter Try.func92, Try.ntmps92
  go_wp2_with fail
  refine (many_r B f 64 _ l b _ H.out).mono ?_
  rintro e w1 ⟨k, l1, b1, rfl, hk, h1, h2, h3⟩
  obtain ⟨m2, m3, m4, m5, _⟩ := fr_mark h1
  have HB1 := Lib.hid (h2.blk HP.out (by simpa using hpf))
  have HS : Hid (LRdSt sNode 127 cR [f, p] B f 40 8 w w1 k l b 0 l1 b1 (.slice none 0 0) [] []) := Lib.hid (LRdSt.start h1 (h2.mono (by simp)) (by simp; omega) h3)
  clear h1 h2 h3 H
  go_wp2_with fail
  go_loopg [9, 42] k (fun g u t wr => ∃ (i : Nat) (l' : List Nat) (b' : Bool) (v : Value) (xss : List (List Value)) (xs : List Val), t = .int .i64 i ∧ k - i = g ∧ i ≤ k ∧ Blk wr p tp (pre ++ [v] ++ post) ∧ LRdSt sNode 127 cR [f, p] B f 40 8 w wr k l b i l' b' v xss xs)
  case atStart => exact ⟨0, l1, b1, _, [], [], rfl, rfl, by omega, HB1.out, HS.out⟩
  case round =>
    obtain ⟨i, l', b', v, xss, xs, rfl, hg, hi, hbk, hS⟩ := hrel
    have HG := Lib.hid hg
    have HBK := Lib.hid hbk
    have HST := Lib.hid hS
    obtain ⟨n2, n3, n4, n5, _⟩ := fr_mark hS.fr
    have hsz := hS.upd.size
    clear hg hbk hS m2 m3 m4 m5
    by_cases hlt : i < k
    · have t1 : decide (i < k) = true := by simpa using hlt
      cases b' with
      | true =>
        have HE := Lib.hid (HST.out.rd (.inl rfl))
        go_wp2_with fail
        go_end0
        exact ⟨rfl, .list xs, [v], l', true, HST.out.fr, HST.out.upd, HBK.out, HST.out.isRep, HE.out⟩
      | false =>
      go_wp2_with (refine wpList_alloc_blk rfl 40 rfl sNode.zc (zero40 _) ?_; intro wB hb hu)
      have hN := HST.out.upd' hu
      refine (node_reads B f wr.heap.size 0 40 [] [] l' false wB hN.fr (by omega) (by omega) rfl (by simpa [Sch.zc] using hb)).mono ?_
      rintro e w2 ⟨rfl, x, us, l2, b2, h1, h2, h3, h4, h5⟩
      have hus : us.length = 8 := h4.len
      have hb2 : Blk w2 wr.heap.size 40 us := by simpa using h3
      have hU : Upd [f, p] wr w2 := (hu.mono (by simp)).trans h2 (by
        intro y hy
        simp only [List.mem_cons, List.not_mem_nil, or_false] at hy
        rcases hy with rfl | rfl
        · simp
        · exact .inr (Nat.le_refl _))
      have h4' : Sch.Rep w2 (fun b => wr.heap.size ≤ b) sNode us x := h4.mono (fun b hb _ => Nat.le_trans hu.size hb)
      have hbp : Blk w2 p tp (pre ++ [v] ++ post) := by
        refine h2.blk (hu.blk HBK.out (by simp)) ?_
        simp; omega
      have hrow2 := (hN.row)
      have hrw : w2.ownsRow w.heap.size 40 8 v i xss.flatten := h2.row (hu.row HST.out.row (by simp)) (by
        intro y hy
        have := own_lo HST.out.row hy
        simp; omega)
      have hsz2 := hU.size
      have hl2 := hb2.lt
      obtain ⟨a, c, rfl⟩ := own_shape' hrw
      have HO := Lib.hid h4.one
      have HR : Hid (∀ w', Upd (Value.slice a i c).ownBlock.toList w2 w' → w'.cell? ⟨p, pre.length, none⟩ = some (.slice a i c) ∧ Blk w' wr.heap.size 40 us) := Lib.hid (by
        intro w' u
        refine ⟨(u.blk hbp ?_).cell mid_at, u.blk hb2 ?_⟩
        · intro hm
          have := own_lo HST.out.row (g := p) (by simpa using hm)
          omega
        · intro hm
          have := own_lo HST.out.row (g := wr.heap.size) (by simpa using hm)
          omega)
      have HST2 := HST
      have HU := Lib.hid hU
      have H4 := Lib.hid h4'
      have H5 := Lib.hid h5
      have H1 := Lib.hid h1
      have HRW := Lib.hid hrw
      have HBP := Lib.hid hbp
      have HUS := Lib.hid hus
      clear h1 h2 h3 h4 h5 hN hb hu hbp hrow2 hrw hU h4' hus
      go_wp2_with fail
      refine wp_region_lex (fun w' => Upd (Value.slice a i c).ownBlock.toList w2 w') 8 [(0, true), (1, true), (2, true), (3, true), (4, true), (5, false), (6, false), (7, false), (8, false)] (by kernel_rfl) (by kernel_rfl) (by kernel_rfl) (by kernel_rfl) (fun _ _ d _ _ h => by cases d <;> exact h) ?_
      simp only [lexOps, List.map_cons, List.map_nil, List.getD_cons_zero, List.getD_cons_succ]
      have hS0 : Upd (Value.slice a i c).ownBlock.toList w2 w2.drew := (Upd.refl _ _).drew
      iterate 4 (refine lex_read rfl (by exact hS0) (v := ?_) (fun w' hw => ?_) ?_; rotate_left; (focus (obtain ⟨k1, k2⟩ := HR.out w' hw; clear k2; go_simp; try with_reducible rfl)); simp only [Act.put, List.setIfInBounds_toArray, List.set_cons_zero, List.set_cons_succ])
      refine lex_read rfl (by exact hS0) (fun w' hw => exec_load (by rfl) (by rfl) (run_loadAt_mid w' wr.heap.size 0 40 us _ (HR.out w' hw).2.range Try.underlying40 rfl (by rw [HUS.out]; exact Try.size40))) ?_
      try simp only [Act.put, List.setIfInBounds_toArray, List.set_cons_zero, List.set_cons_succ]
      refine lex_run rfl (exec_buildSlice (by rfl) (by simp [Act.eval]) (run_buildSlice1 _ 86 40 iT _ us 8 Try.underlying86 hiT hz0 hz1 HUS.out (by decide) (by decide))) (fun _ => hS0.alloc _) ?_
      try simp only [Act.put, List.setIfInBounds_toArray, List.set_cons_zero, List.set_cons_succ]
      have h64 : k ≤ 64 := hk
      have hB2 : Blk (w2.drew.alloc (.cells us.toArray 40)) w2.heap.size 40 us := Blk.new w2.drew _ _
      refine lex_do rfl (fun K hK => ?_)
      refine wp_append_mine (.tmp 53) (.tmp 55) 86 rfl w.heap.size 40 iT _ 8 _ Try.underlying86 hiT hz0 hz1 hz2 rfl (by decide) (.slice a i c) i xss.flatten rfl (World.ownsRow.alloc HRW.out _) ⟨w2.heap.size, 0, none⟩ 1 1 us rfl (by rw [HUS.out]) hB2.news (HO.out) (by unfold maxLen; omega) (by omega) (by have := HST.out.upd.size; simp; omega) ?_
      intro v' w3 hown hg hv
      have uA : Upd [f, p] wr (w2.drew.alloc (.cells us.toArray 40)) := (HU.out.drew).alloc _
      have hF : Fr B w3 f l2 b2 := by
        obtain ⟨a', c', hI⟩ := H1.out
        have hI2 : In 127 cR B (w2.drew.alloc (.cells us.toArray 40)) f l2 b2 a' c' := hI.upd (F := []) ((Upd.refl [] w2).drew.alloc _) (by simp)
        refine ⟨a', c', hI2.upd (F := (Value.slice a i c).ownBlock.toList) ((Upd.refl _ _).grown hg (fun k hk => .inl (by simp [hk]))) (fun k hk => ?_)⟩
        have := own_lo HST.out.row (g := k) (by simpa using hk)
        omega
      have hbp3 : Blk w3 p tp (pre ++ [.slice a i c] ++ post) := by
        have hb4 : Blk (w2.drew.alloc (.cells us.toArray 40)) p tp (pre ++ [.slice a i c] ++ post) := (HBP.out.drew).alloc _
        refine (hg.block p hb4.lt (fun e => ?_)).trans hb4
        have := own_lo HST.out.row (g := p) e.symm
        omega
      have q1 := hbp3.cell (o := pre.length) mid_at
      have q2 := hbp3.frozen pre.length
      have q3 := hbp3.lt
      have uS : Upd [p] w3 (w3.setCell ⟨p, pre.length, none⟩ v') := (Upd.refl _ _).setCell (by simp) _
      have HX : Hid (Blk (w3.setCell ⟨p, pre.length, none⟩ v') p tp (pre ++ [v'] ++ post) ∧ LRdSt sNode 127 cR [f, p] B f 40 8 w (w3.setCell ⟨p, pre.length, none⟩ v') k l b (i + 1) l2 b2 v' (xss ++ [us]) (xs ++ [x])) := by
        refine Lib.hid ⟨?_, LRdSt.next HST.out hlt uA (H4.out.upd ((Upd.refl [] w2).drew.alloc _) (by simp)) HUS.out H5.out hg hown ?_ (uS.mono (by simp)) (hF.upd uS (by simp; omega))⟩
        · have := hbp3.set pre.length v'
          rwa [mid_set] at this
        · rcases hv with h | h
          · exact .inl h
          · exact .inr h
      have hS3 : Upd (Value.slice a i c).ownBlock.toList w2 w3 := (hS0.alloc _).grown hg (fun k hk => .inl (by simp [hk]))
      refine hK _ _ (fun _ => hS3) ?_
      obtain ⟨a', c', rfl⟩ := own_shape' hown
      clear hK K hown hg hv uA hF hbp3 uS hB2 hS0
      try simp only [Act.put, List.setIfInBounds_toArray, List.set_cons_zero, List.set_cons_succ]
      refine lex_do rfl (fun K hK => ?_)
      go_simp
      refine hK _ _ (fun _ => hS3) ?_
      clear hK K hS3
      try simp only [Act.put, List.setIfInBounds_toArray, List.set_cons_zero, List.set_cons_succ]
      refine lex_do rfl (fun K hK => ?_)
      go_simp
      refine hK _ _ (fun h => absurd rfl h) ?_
      clear hK K
      try simp only [Act.put, List.setIfInBounds_toArray, List.set_cons_zero, List.set_cons_succ]
      refine lex_nil ?_
      go_wp2_with fail
      go_roundg (k - (i + 1))
      case measure => have := HG.out; omega
      case rel => exact ⟨i + 1, l2, b2, _, _, _, by go_num, rfl, by omega, HX.out.1, HX.out.2⟩
    · obtain rfl : i = k := by omega
      have HE := Lib.hid (HST.out.rd (.inr rfl))
      go_wp2_with fail
      go_end0
      exact ⟨rfl, .list xs, [v], l', b', HST.out.fr, HST.out.upd, HBK.out, HST.out.isRep, HE.out⟩
end Go.Proofs.Ytpoplipjombdbaa
/- codec's form.eval, reading. -/
namespace Go.Proofs.Ytpoplipjombdbaa
open Go.RowKit Go.Lb Go.Rc

set_option maxRecDepth 20000 in
set_option maxHeartbeats 2000000 in
theorem eval_reads : Reads 96 sEval := by
  intro B f p q tp pre post l b w h hB hpf hq hp
  subst hq
  have H0 := Lib.hid (RdSt.start (rest := [.num, .num, .num, .num]) h hB hpf hp (fr_mark h).2.2.2.1)
  clear h hp
  go_enter Try.func96, Try.ntmps96
  refine wp_region_lex (fun _ => True) 99 [(0, true), (1, true), (2, true), (3, true), (4, true), (5, true), (6, true), (7, true), (8, true), (9, true), (10, true), (11, true), (12, true), (13, false), (14, false)] (by kernel_rfl) (by kernel_rfl) (by kernel_rfl) (by kernel_rfl) (fun _ _ d _ _ h => by cases d <;> exact h) ?_
  simp only [lexOps, List.map_cons, List.map_nil, List.getD_cons_zero, List.getD_cons_succ]
  iterate 13 (refine lex_read rfl trivial (v := ?_) (fun w' _ => ?_) ?_; rotate_left; (focus (go_simp; try with_reducible rfl)); simp only [Act.put, List.setIfInBounds_toArray, List.set_cons_zero, List.set_cons_succ])
  refine lex_do rfl (fun K hK => ?_)
  go_simp
  refine hK _ _ (fun _ => trivial) ?_
  clear hK K
  refine lex_do rfl (fun K hK => ?_)
  go_simp
  refine (CRd.goNums (rest := []) (k := 4) H0.out ((Upd.refl _ _).alloc _).drew (Nat.le_refl _) (Blk.drew (Blk.new _ _ [_, _, _, _])) (by simp only [fsize_append, fsize_nums, fsize, List.nil_append] <;> rfl) (by decide)).mono ?_
  rintro e w1 ⟨rfl, ns1, l1, b1, hn, h⟩
  have H1 := Lib.hid h
  have HN1 := Lib.hid hn
  clear hn
  refine hK _ _ (fun _ => trivial) ?_
  clear hK K h
  refine lex_nil ?_
  go_wp2_with fail
  go_end0
  exact CRd.fin H1.out (by simp only [List.map_append, nums_fst, HN1.out, List.append_assoc, List.map_cons, List.map_nil, List.nil_append]; rfl)
end Go.Proofs.Ytpoplipjombdbaa
/- codec's list[Eval], reading. -/
namespace Go.Proofs.Ytpoplipjombdbaa
open Go.RowKit Go.Lb Go.Rc

set_option maxRecDepth 20000 in
set_option maxHeartbeats 2000000 in
theorem listEval_reads : LReads 95 96 sEval := by
  intro B f p q tp pre post l b w h hB hpf hq hp
  obtain ⟨iT, hiT, hz0, hz1, hz2⟩ := info178
  subst hq
  have c0 := hp.cell (o := pre.length) mid_at
  obtain ⟨_, _, _, hf, hBf⟩ := fr_mark h
  have hplt := hp.lt
  have H := Lib.hid h
  have HP := Lib.hid hp
  clear h hp
  go_enter Try.func95, Try.ntmps95
  go_wp2_with fail
  refine (many_r B f 64 _ l b _ H.out).mono ?_
  rintro e w1 ⟨k, l1, b1, rfl, hk, h1, h2, h3⟩
  obtain ⟨m2, m3, m4, m5, _⟩ := fr_mark h1
  have HB1 := Lib.hid (h2.blk HP.out (by simpa using hpf))
  have HS : Hid (LRdSt sEval 127 cR [f, p] B f 178 4 w w1 k l b 0 l1 b1 (.slice none 0 0) [] []) := Lib.hid (LRdSt.start h1 (h2.mono (by simp)) (by simp; omega) h3)
  clear h1 h2 h3 H
  go_wp2_with fail
  go_loopg [9, 42] k (fun g u t wr => ∃ (i : Nat) (l' : List Nat) (b' : Bool) (v : Value) (xss : List (List Value)) (xs : List Val), t = .int .i64 i ∧ k - i = g ∧ i ≤ k ∧ Blk wr p tp (pre ++ [v] ++ post) ∧ LRdSt sEval 127 cR [f, p] B f 178 4 w wr k l b i l' b' v xss xs)
  case atStart => exact ⟨0, l1, b1, _, [], [], rfl, rfl, by omega, HB1.out, HS.out⟩
  case round =>
    obtain ⟨i, l', b', v, xss, xs, rfl, hg, hi, hbk, hS⟩ := hrel
    have HG := Lib.hid hg
    have HBK := Lib.hid hbk
    have HST := Lib.hid hS
    obtain ⟨n2, n3, n4, n5, _⟩ := fr_mark hS.fr
    have hsz := hS.upd.size
    clear hg hbk hS m2 m3 m4 m5
    by_cases hlt : i < k
    · have t1 : decide (i < k) = true := by simpa using hlt
      cases b' with
      | true =>
        have HE := Lib.hid (HST.out.rd (.inl rfl))
        go_wp2_with fail
        go_end0
        exact ⟨rfl, .list xs, [v], l', true, HST.out.fr, HST.out.upd, HBK.out, HST.out.isRep, HE.out⟩
      | false =>
      go_wp2_with (refine wpList_alloc_blk rfl 178 rfl sEval.zc (zero178 _) ?_; intro wB hb hu)
      have hN := HST.out.upd' hu
      refine (eval_reads B f wr.heap.size 0 178 [] [] l' false wB hN.fr (by omega) (by omega) rfl (by simpa [Sch.zc] using hb)).mono ?_
      rintro e w2 ⟨rfl, x, us, l2, b2, h1, h2, h3, h4, h5⟩
      have hus : us.length = 4 := h4.len
      have hb2 : Blk w2 wr.heap.size 178 us := by simpa using h3
      have hU : Upd [f, p] wr w2 := (hu.mono (by simp)).trans h2 (by
        intro y hy
        simp only [List.mem_cons, List.not_mem_nil, or_false] at hy
        rcases hy with rfl | rfl
        · simp
        · exact .inr (Nat.le_refl _))
      have h4' : Sch.Rep w2 (fun b => wr.heap.size ≤ b) sEval us x := h4.mono (fun b hb _ => Nat.le_trans hu.size hb)
      have hbp : Blk w2 p tp (pre ++ [v] ++ post) := by
        refine h2.blk (hu.blk HBK.out (by simp)) ?_
        simp; omega
      have hrow2 := (hN.row)
      have hrw : w2.ownsRow w.heap.size 178 4 v i xss.flatten := h2.row (hu.row HST.out.row (by simp)) (by
        intro y hy
        have := own_lo HST.out.row hy
        simp; omega)
      have hsz2 := hU.size
      have hl2 := hb2.lt
      obtain ⟨a, c, rfl⟩ := own_shape' hrw
      have HO := Lib.hid h4.one
      have HR : Hid (∀ w', Upd (Value.slice a i c).ownBlock.toList w2 w' → w'.cell? ⟨p, pre.length, none⟩ = some (.slice a i c) ∧ Blk w' wr.heap.size 178 us) := Lib.hid (by
        intro w' u
        refine ⟨(u.blk hbp ?_).cell mid_at, u.blk hb2 ?_⟩
        · intro hm
          have := own_lo HST.out.row (g := p) (by simpa using hm)
          omega
        · intro hm
          have := own_lo HST.out.row (g := wr.heap.size) (by simpa using hm)
          omega)
      have HST2 := HST
      have HU := Lib.hid hU
      have H4 := Lib.hid h4'
      have H5 := Lib.hid h5
      have H1 := Lib.hid h1
      have HRW := Lib.hid hrw
      have HBP := Lib.hid hbp
      have HUS := Lib.hid hus
      clear h1 h2 h3 h4 h5 hN hb hu hbp hrow2 hrw hU h4' hus
      go_wp2_with fail
      refine wp_region_lex (fun w' => Upd (Value.slice a i c).ownBlock.toList w2 w') 8 [(0, true), (1, true), (2, true), (3, true), (4, true), (5, false), (6, false), (7, false), (8, false)] (by kernel_rfl) (by kernel_rfl) (by kernel_rfl) (by kernel_rfl) (fun _ _ d _ _ h => by cases d <;> exact h) ?_
      simp only [lexOps, List.map_cons, List.map_nil, List.getD_cons_zero, List.getD_cons_succ]
      have hS0 : Upd (Value.slice a i c).ownBlock.toList w2 w2.drew := (Upd.refl _ _).drew
      iterate 4 (refine lex_read rfl (by exact hS0) (v := ?_) (fun w' hw => ?_) ?_; rotate_left; (focus (obtain ⟨k1, k2⟩ := HR.out w' hw; clear k2; go_simp; try with_reducible rfl)); simp only [Act.put, List.setIfInBounds_toArray, List.set_cons_zero, List.set_cons_succ])
      refine lex_read rfl (by exact hS0) (fun w' hw => exec_load (by rfl) (by rfl) (run_loadAt_mid w' wr.heap.size 0 178 us _ (HR.out w' hw).2.range Try.underlying178 rfl (by rw [HUS.out]; exact Try.size178))) ?_
      try simp only [Act.put, List.setIfInBounds_toArray, List.set_cons_zero, List.set_cons_succ]
      refine lex_run rfl (exec_buildSlice (by rfl) (by simp [Act.eval]) (run_buildSlice1 _ 87 178 iT _ us 4 Try.underlying87 hiT hz0 hz1 HUS.out (by decide) (by decide))) (fun _ => hS0.alloc _) ?_
      try simp only [Act.put, List.setIfInBounds_toArray, List.set_cons_zero, List.set_cons_succ]
      have h64 : k ≤ 64 := hk
      have hB2 : Blk (w2.drew.alloc (.cells us.toArray 178)) w2.heap.size 178 us := Blk.new w2.drew _ _
      refine lex_do rfl (fun K hK => ?_)
      refine wp_append_mine (.tmp 53) (.tmp 55) 87 rfl w.heap.size 178 iT _ 4 _ Try.underlying87 hiT hz0 hz1 hz2 rfl (by decide) (.slice a i c) i xss.flatten rfl (World.ownsRow.alloc HRW.out _) ⟨w2.heap.size, 0, none⟩ 1 1 us rfl (by rw [HUS.out]) hB2.news (HO.out) (by unfold maxLen; omega) (by omega) (by have := HST.out.upd.size; simp; omega) ?_
      intro v' w3 hown hg hv
      have uA : Upd [f, p] wr (w2.drew.alloc (.cells us.toArray 178)) := (HU.out.drew).alloc _
      have hF : Fr B w3 f l2 b2 := by
        obtain ⟨a', c', hI⟩ := H1.out
        have hI2 : In 127 cR B (w2.drew.alloc (.cells us.toArray 178)) f l2 b2 a' c' := hI.upd (F := []) ((Upd.refl [] w2).drew.alloc _) (by simp)
        refine ⟨a', c', hI2.upd (F := (Value.slice a i c).ownBlock.toList) ((Upd.refl _ _).grown hg (fun k hk => .inl (by simp [hk]))) (fun k hk => ?_)⟩
        have := own_lo HST.out.row (g := k) (by simpa using hk)
        omega
      have hbp3 : Blk w3 p tp (pre ++ [.slice a i c] ++ post) := by
        have hb4 : Blk (w2.drew.alloc (.cells us.toArray 178)) p tp (pre ++ [.slice a i c] ++ post) := (HBP.out.drew).alloc _
        refine (hg.block p hb4.lt (fun e => ?_)).trans hb4
        have := own_lo HST.out.row (g := p) e.symm
        omega
      have q1 := hbp3.cell (o := pre.length) mid_at
      have q2 := hbp3.frozen pre.length
      have q3 := hbp3.lt
      have uS : Upd [p] w3 (w3.setCell ⟨p, pre.length, none⟩ v') := (Upd.refl _ _).setCell (by simp) _
      have HX : Hid (Blk (w3.setCell ⟨p, pre.length, none⟩ v') p tp (pre ++ [v'] ++ post) ∧ LRdSt sEval 127 cR [f, p] B f 178 4 w (w3.setCell ⟨p, pre.length, none⟩ v') k l b (i + 1) l2 b2 v' (xss ++ [us]) (xs ++ [x])) := by
        refine Lib.hid ⟨?_, LRdSt.next HST.out hlt uA (H4.out.upd ((Upd.refl [] w2).drew.alloc _) (by simp)) HUS.out H5.out hg hown ?_ (uS.mono (by simp)) (hF.upd uS (by simp; omega))⟩
        · have := hbp3.set pre.length v'
          rwa [mid_set] at this
        · rcases hv with h | h
          · exact .inl h
          · exact .inr h
      have hS3 : Upd (Value.slice a i c).ownBlock.toList w2 w3 := (hS0.alloc _).grown hg (fun k hk => .inl (by simp [hk]))
      refine hK _ _ (fun _ => hS3) ?_
      obtain ⟨a', c', rfl⟩ := own_shape' hown
      clear hK K hown hg hv uA hF hbp3 uS hB2 hS0
      try simp only [Act.put, List.setIfInBounds_toArray, List.set_cons_zero, List.set_cons_succ]
      refine lex_do rfl (fun K hK => ?_)
      go_simp
      refine hK _ _ (fun _ => hS3) ?_
      clear hK K hS3
      try simp only [Act.put, List.setIfInBounds_toArray, List.set_cons_zero, List.set_cons_succ]
      refine lex_do rfl (fun K hK => ?_)
      go_simp
      refine hK _ _ (fun h => absurd rfl h) ?_
      clear hK K
      try simp only [Act.put, List.setIfInBounds_toArray, List.set_cons_zero, List.set_cons_succ]
      refine lex_nil ?_
      go_wp2_with fail
      go_roundg (k - (i + 1))
      case measure => have := HG.out; omega
      case rel => exact ⟨i + 1, l2, b2, _, _, _, by go_num, rfl, by omega, HX.out.1, HX.out.2⟩
    · obtain rfl : i = k := by omega
      have HE := Lib.hid (HST.out.rd (.inr rfl))
      go_wp2_with fail
      go_end0
      exact ⟨rfl, .list xs, [v], l', b', HST.out.fr, HST.out.upd, HBK.out, HST.out.isRep, HE.out⟩
end Go.Proofs.Ytpoplipjombdbaa
/- codec's form.deploy, reading. -/
namespace Go.Proofs.Ytpoplipjombdbaa
open Go.RowKit Go.Lb Go.Rc

set_option maxRecDepth 20000 in
set_option maxHeartbeats 2000000 in
theorem deploy_reads : Reads 98 sDeploy := by
  intro B f p q tp pre post l b w h hB hpf hq hp
  subst hq
  have H0 := Lib.hid (RdSt.start (rest := [.num, .num, .num, .num]) h hB hpf hp (fr_mark h).2.2.2.1)
  clear h hp
  go_enter Try.func98, Try.ntmps98
  refine wp_region_lex (fun _ => True) 99 [(0, true), (1, true), (2, true), (3, true), (4, true), (5, true), (6, true), (7, true), (8, true), (9, true), (10, true), (11, true), (12, true), (13, false), (14, false)] (by kernel_rfl) (by kernel_rfl) (by kernel_rfl) (by kernel_rfl) (fun _ _ d _ _ h => by cases d <;> exact h) ?_
  simp only [lexOps, List.map_cons, List.map_nil, List.getD_cons_zero, List.getD_cons_succ]
  iterate 13 (refine lex_read rfl trivial (v := ?_) (fun w' _ => ?_) ?_; rotate_left; (focus (go_simp; try with_reducible rfl)); simp only [Act.put, List.setIfInBounds_toArray, List.set_cons_zero, List.set_cons_succ])
  refine lex_do rfl (fun K hK => ?_)
  go_simp
  refine hK _ _ (fun _ => trivial) ?_
  clear hK K
  refine lex_do rfl (fun K hK => ?_)
  go_simp
  refine (CRd.goNums (rest := []) (k := 4) H0.out ((Upd.refl _ _).alloc _).drew (Nat.le_refl _) (Blk.drew (Blk.new _ _ [_, _, _, _])) (by simp only [fsize_append, fsize_nums, fsize, List.nil_append] <;> rfl) (by decide)).mono ?_
  rintro e w1 ⟨rfl, ns1, l1, b1, hn, h⟩
  have H1 := Lib.hid h
  have HN1 := Lib.hid hn
  clear hn
  refine hK _ _ (fun _ => trivial) ?_
  clear hK K h
  refine lex_nil ?_
  go_wp2_with fail
  go_end0
  exact CRd.fin H1.out (by simp only [List.map_append, nums_fst, HN1.out, List.append_assoc, List.map_cons, List.map_nil, List.nil_append]; rfl)
end Go.Proofs.Ytpoplipjombdbaa
/- codec's list[Deploy], reading. -/
namespace Go.Proofs.Ytpoplipjombdbaa
open Go.RowKit Go.Lb Go.Rc

set_option maxRecDepth 20000 in
set_option maxHeartbeats 2000000 in
theorem listDeploy_reads : LReads 97 98 sDeploy := by
  intro B f p q tp pre post l b w h hB hpf hq hp
  obtain ⟨iT, hiT, hz0, hz1, hz2⟩ := info183
  subst hq
  have c0 := hp.cell (o := pre.length) mid_at
  obtain ⟨_, _, _, hf, hBf⟩ := fr_mark h
  have hplt := hp.lt
  have H := Lib.hid h
  have HP := Lib.hid hp
  clear h hp
  go_enter Try.func97, Try.ntmps97
  go_wp2_with fail
  refine (many_r B f 64 _ l b _ H.out).mono ?_
  rintro e w1 ⟨k, l1, b1, rfl, hk, h1, h2, h3⟩
  obtain ⟨m2, m3, m4, m5, _⟩ := fr_mark h1
  have HB1 := Lib.hid (h2.blk HP.out (by simpa using hpf))
  have HS : Hid (LRdSt sDeploy 127 cR [f, p] B f 183 4 w w1 k l b 0 l1 b1 (.slice none 0 0) [] []) := Lib.hid (LRdSt.start h1 (h2.mono (by simp)) (by simp; omega) h3)
  clear h1 h2 h3 H
  go_wp2_with fail
  go_loopg [9, 42] k (fun g u t wr => ∃ (i : Nat) (l' : List Nat) (b' : Bool) (v : Value) (xss : List (List Value)) (xs : List Val), t = .int .i64 i ∧ k - i = g ∧ i ≤ k ∧ Blk wr p tp (pre ++ [v] ++ post) ∧ LRdSt sDeploy 127 cR [f, p] B f 183 4 w wr k l b i l' b' v xss xs)
  case atStart => exact ⟨0, l1, b1, _, [], [], rfl, rfl, by omega, HB1.out, HS.out⟩
  case round =>
    obtain ⟨i, l', b', v, xss, xs, rfl, hg, hi, hbk, hS⟩ := hrel
    have HG := Lib.hid hg
    have HBK := Lib.hid hbk
    have HST := Lib.hid hS
    obtain ⟨n2, n3, n4, n5, _⟩ := fr_mark hS.fr
    have hsz := hS.upd.size
    clear hg hbk hS m2 m3 m4 m5
    by_cases hlt : i < k
    · have t1 : decide (i < k) = true := by simpa using hlt
      cases b' with
      | true =>
        have HE := Lib.hid (HST.out.rd (.inl rfl))
        go_wp2_with fail
        go_end0
        exact ⟨rfl, .list xs, [v], l', true, HST.out.fr, HST.out.upd, HBK.out, HST.out.isRep, HE.out⟩
      | false =>
      go_wp2_with (refine wpList_alloc_blk rfl 183 rfl sDeploy.zc (zero183 _) ?_; intro wB hb hu)
      have hN := HST.out.upd' hu
      refine (deploy_reads B f wr.heap.size 0 183 [] [] l' false wB hN.fr (by omega) (by omega) rfl (by simpa [Sch.zc] using hb)).mono ?_
      rintro e w2 ⟨rfl, x, us, l2, b2, h1, h2, h3, h4, h5⟩
      have hus : us.length = 4 := h4.len
      have hb2 : Blk w2 wr.heap.size 183 us := by simpa using h3
      have hU : Upd [f, p] wr w2 := (hu.mono (by simp)).trans h2 (by
        intro y hy
        simp only [List.mem_cons, List.not_mem_nil, or_false] at hy
        rcases hy with rfl | rfl
        · simp
        · exact .inr (Nat.le_refl _))
      have h4' : Sch.Rep w2 (fun b => wr.heap.size ≤ b) sDeploy us x := h4.mono (fun b hb _ => Nat.le_trans hu.size hb)
      have hbp : Blk w2 p tp (pre ++ [v] ++ post) := by
        refine h2.blk (hu.blk HBK.out (by simp)) ?_
        simp; omega
      have hrow2 := (hN.row)
      have hrw : w2.ownsRow w.heap.size 183 4 v i xss.flatten := h2.row (hu.row HST.out.row (by simp)) (by
        intro y hy
        have := own_lo HST.out.row hy
        simp; omega)
      have hsz2 := hU.size
      have hl2 := hb2.lt
      obtain ⟨a, c, rfl⟩ := own_shape' hrw
      have HO := Lib.hid h4.one
      have HR : Hid (∀ w', Upd (Value.slice a i c).ownBlock.toList w2 w' → w'.cell? ⟨p, pre.length, none⟩ = some (.slice a i c) ∧ Blk w' wr.heap.size 183 us) := Lib.hid (by
        intro w' u
        refine ⟨(u.blk hbp ?_).cell mid_at, u.blk hb2 ?_⟩
        · intro hm
          have := own_lo HST.out.row (g := p) (by simpa using hm)
          omega
        · intro hm
          have := own_lo HST.out.row (g := wr.heap.size) (by simpa using hm)
          omega)
      have HST2 := HST
      have HU := Lib.hid hU
      have H4 := Lib.hid h4'
      have H5 := Lib.hid h5
      have H1 := Lib.hid h1
      have HRW := Lib.hid hrw
      have HBP := Lib.hid hbp
      have HUS := Lib.hid hus
      clear h1 h2 h3 h4 h5 hN hb hu hbp hrow2 hrw hU h4' hus
      go_wp2_with fail
      refine wp_region_lex (fun w' => Upd (Value.slice a i c).ownBlock.toList w2 w') 8 [(0, true), (1, true), (2, true), (3, true), (4, true), (5, false), (6, false), (7, false), (8, false)] (by kernel_rfl) (by kernel_rfl) (by kernel_rfl) (by kernel_rfl) (fun _ _ d _ _ h => by cases d <;> exact h) ?_
      simp only [lexOps, List.map_cons, List.map_nil, List.getD_cons_zero, List.getD_cons_succ]
      have hS0 : Upd (Value.slice a i c).ownBlock.toList w2 w2.drew := (Upd.refl _ _).drew
      iterate 4 (refine lex_read rfl (by exact hS0) (v := ?_) (fun w' hw => ?_) ?_; rotate_left; (focus (obtain ⟨k1, k2⟩ := HR.out w' hw; clear k2; go_simp; try with_reducible rfl)); simp only [Act.put, List.setIfInBounds_toArray, List.set_cons_zero, List.set_cons_succ])
      refine lex_read rfl (by exact hS0) (fun w' hw => exec_load (by rfl) (by rfl) (run_loadAt_mid w' wr.heap.size 0 183 us _ (HR.out w' hw).2.range Try.underlying183 rfl (by rw [HUS.out]; exact Try.size183))) ?_
      try simp only [Act.put, List.setIfInBounds_toArray, List.set_cons_zero, List.set_cons_succ]
      refine lex_run rfl (exec_buildSlice (by rfl) (by simp [Act.eval]) (run_buildSlice1 _ 88 183 iT _ us 4 Try.underlying88 hiT hz0 hz1 HUS.out (by decide) (by decide))) (fun _ => hS0.alloc _) ?_
      try simp only [Act.put, List.setIfInBounds_toArray, List.set_cons_zero, List.set_cons_succ]
      have h64 : k ≤ 64 := hk
      have hB2 : Blk (w2.drew.alloc (.cells us.toArray 183)) w2.heap.size 183 us := Blk.new w2.drew _ _
      refine lex_do rfl (fun K hK => ?_)
      refine wp_append_mine (.tmp 53) (.tmp 55) 88 rfl w.heap.size 183 iT _ 4 _ Try.underlying88 hiT hz0 hz1 hz2 rfl (by decide) (.slice a i c) i xss.flatten rfl (World.ownsRow.alloc HRW.out _) ⟨w2.heap.size, 0, none⟩ 1 1 us rfl (by rw [HUS.out]) hB2.news (HO.out) (by unfold maxLen; omega) (by omega) (by have := HST.out.upd.size; simp; omega) ?_
      intro v' w3 hown hg hv
      have uA : Upd [f, p] wr (w2.drew.alloc (.cells us.toArray 183)) := (HU.out.drew).alloc _
      have hF : Fr B w3 f l2 b2 := by
        obtain ⟨a', c', hI⟩ := H1.out
        have hI2 : In 127 cR B (w2.drew.alloc (.cells us.toArray 183)) f l2 b2 a' c' := hI.upd (F := []) ((Upd.refl [] w2).drew.alloc _) (by simp)
        refine ⟨a', c', hI2.upd (F := (Value.slice a i c).ownBlock.toList) ((Upd.refl _ _).grown hg (fun k hk => .inl (by simp [hk]))) (fun k hk => ?_)⟩
        have := own_lo HST.out.row (g := k) (by simpa using hk)
        omega
      have hbp3 : Blk w3 p tp (pre ++ [.slice a i c] ++ post) := by
        have hb4 : Blk (w2.drew.alloc (.cells us.toArray 183)) p tp (pre ++ [.slice a i c] ++ post) := (HBP.out.drew).alloc _
        refine (hg.block p hb4.lt (fun e => ?_)).trans hb4
        have := own_lo HST.out.row (g := p) e.symm
        omega
      have q1 := hbp3.cell (o := pre.length) mid_at
      have q2 := hbp3.frozen pre.length
      have q3 := hbp3.lt
      have uS : Upd [p] w3 (w3.setCell ⟨p, pre.length, none⟩ v') := (Upd.refl _ _).setCell (by simp) _
      have HX : Hid (Blk (w3.setCell ⟨p, pre.length, none⟩ v') p tp (pre ++ [v'] ++ post) ∧ LRdSt sDeploy 127 cR [f, p] B f 183 4 w (w3.setCell ⟨p, pre.length, none⟩ v') k l b (i + 1) l2 b2 v' (xss ++ [us]) (xs ++ [x])) := by
        refine Lib.hid ⟨?_, LRdSt.next HST.out hlt uA (H4.out.upd ((Upd.refl [] w2).drew.alloc _) (by simp)) HUS.out H5.out hg hown ?_ (uS.mono (by simp)) (hF.upd uS (by simp; omega))⟩
        · have := hbp3.set pre.length v'
          rwa [mid_set] at this
        · rcases hv with h | h
          · exact .inl h
          · exact .inr h
      have hS3 : Upd (Value.slice a i c).ownBlock.toList w2 w3 := (hS0.alloc _).grown hg (fun k hk => .inl (by simp [hk]))
      refine hK _ _ (fun _ => hS3) ?_
      obtain ⟨a', c', rfl⟩ := own_shape' hown
      clear hK K hown hg hv uA hF hbp3 uS hB2 hS0
      try simp only [Act.put, List.setIfInBounds_toArray, List.set_cons_zero, List.set_cons_succ]
      refine lex_do rfl (fun K hK => ?_)
      go_simp
      refine hK _ _ (fun _ => hS3) ?_
      clear hK K hS3
      try simp only [Act.put, List.setIfInBounds_toArray, List.set_cons_zero, List.set_cons_succ]
      refine lex_do rfl (fun K hK => ?_)
      go_simp
      refine hK _ _ (fun h => absurd rfl h) ?_
      clear hK K
      try simp only [Act.put, List.setIfInBounds_toArray, List.set_cons_zero, List.set_cons_succ]
      refine lex_nil ?_
      go_wp2_with fail
      go_roundg (k - (i + 1))
      case measure => have := HG.out; omega
      case rel => exact ⟨i + 1, l2, b2, _, _, _, by go_num, rfl, by omega, HX.out.1, HX.out.2⟩
    · obtain rfl : i = k := by omega
      have HE := Lib.hid (HST.out.rd (.inr rfl))
      go_wp2_with fail
      go_end0
      exact ⟨rfl, .list xs, [v], l', b', HST.out.fr, HST.out.upd, HBK.out, HST.out.isRep, HE.out⟩
end Go.Proofs.Ytpoplipjombdbaa
/- codec's form.seen, reading. -/
namespace Go.Proofs.Ytpoplipjombdbaa
open Go.RowKit Go.Lb Go.Rc

set_option maxRecDepth 20000 in
set_option maxHeartbeats 2000000 in
theorem seen_reads : Reads 100 sSeen := by
  intro B f p q tp pre post l b w h hB hpf hq hp
  subst hq
  have H0 := Lib.hid (RdSt.start (rest := [.num, .num, sResult]) h hB hpf hp (fr_mark h).2.2.2.1)
  clear h hp
  go_enter Try.func100, Try.ntmps100
  go_wp2_with fail
  refine wp_region_lex (fun _ => True) 99 [(0, true), (1, true), (2, true), (3, true), (4, true), (5, true), (6, true), (7, false), (8, false)] (by kernel_rfl) (by kernel_rfl) (by kernel_rfl) (by kernel_rfl) (fun _ _ d _ _ h => by cases d <;> exact h) ?_
  simp only [lexOps, List.map_cons, List.map_nil, List.getD_cons_zero, List.getD_cons_succ]
  iterate 7 (refine lex_read rfl trivial (v := ?_) (fun w' _ => ?_) ?_; rotate_left; (focus (go_simp; try with_reducible rfl)); simp only [Act.put, List.setIfInBounds_toArray, List.set_cons_zero, List.set_cons_succ])
  refine lex_do rfl (fun K hK => ?_)
  go_simp
  refine hK _ _ (fun _ => trivial) ?_
  clear hK K
  refine lex_do rfl (fun K hK => ?_)
  go_simp
  refine (CRd.goNums (rest := [sResult]) (k := 2) H0.out ((Upd.refl _ _).alloc _).drew (Nat.le_refl _) (Blk.drew (Blk.new _ _ [_, _])) (by simp only [fsize_append, fsize_nums, fsize, List.nil_append] <;> rfl) (by decide)).mono ?_
  rintro e w1 ⟨rfl, ns1, l1, b1, hn, h⟩
  have H1 := Lib.hid h
  have HN1 := Lib.hid hn
  clear hn
  refine hK _ _ (fun _ => trivial) ?_
  clear hK K h
  refine lex_nil ?_
  go_wp2_with fail
  refine (CRd.go result_reads H1.out (by simp only [fsize_append, fsize_nums, fsize, HN1.out, List.nil_append] <;> rfl)).mono ?_
  rintro e w2 ⟨rfl, v2, l2, b2, h⟩
  have H2 := Lib.hid h
  clear h
  go_wp2_with fail
  go_end0
  exact CRd.fin H2.out (by simp only [List.map_append, nums_fst, HN1.out, List.append_assoc, List.map_cons, List.map_nil, List.nil_append]; rfl)
end Go.Proofs.Ytpoplipjombdbaa
/- codec's list[Seen], reading. -/
namespace Go.Proofs.Ytpoplipjombdbaa
open Go.RowKit Go.Lb Go.Rc

set_option maxRecDepth 20000 in
set_option maxHeartbeats 2000000 in
theorem listSeen_reads : LReads 99 100 sSeen := by
  intro B f p q tp pre post l b w h hB hpf hq hp
  obtain ⟨iT, hiT, hz0, hz1, hz2⟩ := info188
  subst hq
  have c0 := hp.cell (o := pre.length) mid_at
  obtain ⟨_, _, _, hf, hBf⟩ := fr_mark h
  have hplt := hp.lt
  have H := Lib.hid h
  have HP := Lib.hid hp
  clear h hp
  go_enter Try.func99, Try.ntmps99
  go_wp2_with fail
  refine (many_r B f 64 _ l b _ H.out).mono ?_
  rintro e w1 ⟨k, l1, b1, rfl, hk, h1, h2, h3⟩
  obtain ⟨m2, m3, m4, m5, _⟩ := fr_mark h1
  have HB1 := Lib.hid (h2.blk HP.out (by simpa using hpf))
  have HS : Hid (LRdSt sSeen 127 cR [f, p] B f 188 5 w w1 k l b 0 l1 b1 (.slice none 0 0) [] []) := Lib.hid (LRdSt.start h1 (h2.mono (by simp)) (by simp; omega) h3)
  clear h1 h2 h3 H
  go_wp2_with fail
  go_loopg [9, 42] k (fun g u t wr => ∃ (i : Nat) (l' : List Nat) (b' : Bool) (v : Value) (xss : List (List Value)) (xs : List Val), t = .int .i64 i ∧ k - i = g ∧ i ≤ k ∧ Blk wr p tp (pre ++ [v] ++ post) ∧ LRdSt sSeen 127 cR [f, p] B f 188 5 w wr k l b i l' b' v xss xs)
  case atStart => exact ⟨0, l1, b1, _, [], [], rfl, rfl, by omega, HB1.out, HS.out⟩
  case round =>
    obtain ⟨i, l', b', v, xss, xs, rfl, hg, hi, hbk, hS⟩ := hrel
    have HG := Lib.hid hg
    have HBK := Lib.hid hbk
    have HST := Lib.hid hS
    obtain ⟨n2, n3, n4, n5, _⟩ := fr_mark hS.fr
    have hsz := hS.upd.size
    clear hg hbk hS m2 m3 m4 m5
    by_cases hlt : i < k
    · have t1 : decide (i < k) = true := by simpa using hlt
      cases b' with
      | true =>
        have HE := Lib.hid (HST.out.rd (.inl rfl))
        go_wp2_with fail
        go_end0
        exact ⟨rfl, .list xs, [v], l', true, HST.out.fr, HST.out.upd, HBK.out, HST.out.isRep, HE.out⟩
      | false =>
      go_wp2_with (refine wpList_alloc_blk rfl 188 rfl sSeen.zc (zero188 _) ?_; intro wB hb hu)
      have hN := HST.out.upd' hu
      refine (seen_reads B f wr.heap.size 0 188 [] [] l' false wB hN.fr (by omega) (by omega) rfl (by simpa [Sch.zc] using hb)).mono ?_
      rintro e w2 ⟨rfl, x, us, l2, b2, h1, h2, h3, h4, h5⟩
      have hus : us.length = 5 := h4.len
      have hb2 : Blk w2 wr.heap.size 188 us := by simpa using h3
      have hU : Upd [f, p] wr w2 := (hu.mono (by simp)).trans h2 (by
        intro y hy
        simp only [List.mem_cons, List.not_mem_nil, or_false] at hy
        rcases hy with rfl | rfl
        · simp
        · exact .inr (Nat.le_refl _))
      have h4' : Sch.Rep w2 (fun b => wr.heap.size ≤ b) sSeen us x := h4.mono (fun b hb _ => Nat.le_trans hu.size hb)
      have hbp : Blk w2 p tp (pre ++ [v] ++ post) := by
        refine h2.blk (hu.blk HBK.out (by simp)) ?_
        simp; omega
      have hrow2 := (hN.row)
      have hrw : w2.ownsRow w.heap.size 188 5 v i xss.flatten := h2.row (hu.row HST.out.row (by simp)) (by
        intro y hy
        have := own_lo HST.out.row hy
        simp; omega)
      have hsz2 := hU.size
      have hl2 := hb2.lt
      obtain ⟨a, c, rfl⟩ := own_shape' hrw
      have HO := Lib.hid h4.one
      have HR : Hid (∀ w', Upd (Value.slice a i c).ownBlock.toList w2 w' → w'.cell? ⟨p, pre.length, none⟩ = some (.slice a i c) ∧ Blk w' wr.heap.size 188 us) := Lib.hid (by
        intro w' u
        refine ⟨(u.blk hbp ?_).cell mid_at, u.blk hb2 ?_⟩
        · intro hm
          have := own_lo HST.out.row (g := p) (by simpa using hm)
          omega
        · intro hm
          have := own_lo HST.out.row (g := wr.heap.size) (by simpa using hm)
          omega)
      have HST2 := HST
      have HU := Lib.hid hU
      have H4 := Lib.hid h4'
      have H5 := Lib.hid h5
      have H1 := Lib.hid h1
      have HRW := Lib.hid hrw
      have HBP := Lib.hid hbp
      have HUS := Lib.hid hus
      clear h1 h2 h3 h4 h5 hN hb hu hbp hrow2 hrw hU h4' hus
      go_wp2_with fail
      refine wp_region_lex (fun w' => Upd (Value.slice a i c).ownBlock.toList w2 w') 8 [(0, true), (1, true), (2, true), (3, true), (4, true), (5, false), (6, false), (7, false), (8, false)] (by kernel_rfl) (by kernel_rfl) (by kernel_rfl) (by kernel_rfl) (fun _ _ d _ _ h => by cases d <;> exact h) ?_
      simp only [lexOps, List.map_cons, List.map_nil, List.getD_cons_zero, List.getD_cons_succ]
      have hS0 : Upd (Value.slice a i c).ownBlock.toList w2 w2.drew := (Upd.refl _ _).drew
      iterate 4 (refine lex_read rfl (by exact hS0) (v := ?_) (fun w' hw => ?_) ?_; rotate_left; (focus (obtain ⟨k1, k2⟩ := HR.out w' hw; clear k2; go_simp; try with_reducible rfl)); simp only [Act.put, List.setIfInBounds_toArray, List.set_cons_zero, List.set_cons_succ])
      refine lex_read rfl (by exact hS0) (fun w' hw => exec_load (by rfl) (by rfl) (run_loadAt_mid w' wr.heap.size 0 188 us _ (HR.out w' hw).2.range Try.underlying188 rfl (by rw [HUS.out]; exact Try.size188))) ?_
      try simp only [Act.put, List.setIfInBounds_toArray, List.set_cons_zero, List.set_cons_succ]
      refine lex_run rfl (exec_buildSlice (by rfl) (by simp [Act.eval]) (run_buildSlice1 _ 89 188 iT _ us 5 Try.underlying89 hiT hz0 hz1 HUS.out (by decide) (by decide))) (fun _ => hS0.alloc _) ?_
      try simp only [Act.put, List.setIfInBounds_toArray, List.set_cons_zero, List.set_cons_succ]
      have h64 : k ≤ 64 := hk
      have hB2 : Blk (w2.drew.alloc (.cells us.toArray 188)) w2.heap.size 188 us := Blk.new w2.drew _ _
      refine lex_do rfl (fun K hK => ?_)
      refine wp_append_mine (.tmp 53) (.tmp 55) 89 rfl w.heap.size 188 iT _ 5 _ Try.underlying89 hiT hz0 hz1 hz2 rfl (by decide) (.slice a i c) i xss.flatten rfl (World.ownsRow.alloc HRW.out _) ⟨w2.heap.size, 0, none⟩ 1 1 us rfl (by rw [HUS.out]) hB2.news (HO.out) (by unfold maxLen; omega) (by omega) (by have := HST.out.upd.size; simp; omega) ?_
      intro v' w3 hown hg hv
      have uA : Upd [f, p] wr (w2.drew.alloc (.cells us.toArray 188)) := (HU.out.drew).alloc _
      have hF : Fr B w3 f l2 b2 := by
        obtain ⟨a', c', hI⟩ := H1.out
        have hI2 : In 127 cR B (w2.drew.alloc (.cells us.toArray 188)) f l2 b2 a' c' := hI.upd (F := []) ((Upd.refl [] w2).drew.alloc _) (by simp)
        refine ⟨a', c', hI2.upd (F := (Value.slice a i c).ownBlock.toList) ((Upd.refl _ _).grown hg (fun k hk => .inl (by simp [hk]))) (fun k hk => ?_)⟩
        have := own_lo HST.out.row (g := k) (by simpa using hk)
        omega
      have hbp3 : Blk w3 p tp (pre ++ [.slice a i c] ++ post) := by
        have hb4 : Blk (w2.drew.alloc (.cells us.toArray 188)) p tp (pre ++ [.slice a i c] ++ post) := (HBP.out.drew).alloc _
        refine (hg.block p hb4.lt (fun e => ?_)).trans hb4
        have := own_lo HST.out.row (g := p) e.symm
        omega
      have q1 := hbp3.cell (o := pre.length) mid_at
      have q2 := hbp3.frozen pre.length
      have q3 := hbp3.lt
      have uS : Upd [p] w3 (w3.setCell ⟨p, pre.length, none⟩ v') := (Upd.refl _ _).setCell (by simp) _
      have HX : Hid (Blk (w3.setCell ⟨p, pre.length, none⟩ v') p tp (pre ++ [v'] ++ post) ∧ LRdSt sSeen 127 cR [f, p] B f 188 5 w (w3.setCell ⟨p, pre.length, none⟩ v') k l b (i + 1) l2 b2 v' (xss ++ [us]) (xs ++ [x])) := by
        refine Lib.hid ⟨?_, LRdSt.next HST.out hlt uA (H4.out.upd ((Upd.refl [] w2).drew.alloc _) (by simp)) HUS.out H5.out hg hown ?_ (uS.mono (by simp)) (hF.upd uS (by simp; omega))⟩
        · have := hbp3.set pre.length v'
          rwa [mid_set] at this
        · rcases hv with h | h
          · exact .inl h
          · exact .inr h
      have hS3 : Upd (Value.slice a i c).ownBlock.toList w2 w3 := (hS0.alloc _).grown hg (fun k hk => .inl (by simp [hk]))
      refine hK _ _ (fun _ => hS3) ?_
      obtain ⟨a', c', rfl⟩ := own_shape' hown
      clear hK K hown hg hv uA hF hbp3 uS hB2 hS0
      try simp only [Act.put, List.setIfInBounds_toArray, List.set_cons_zero, List.set_cons_succ]
      refine lex_do rfl (fun K hK => ?_)
      go_simp
      refine hK _ _ (fun _ => hS3) ?_
      clear hK K hS3
      try simp only [Act.put, List.setIfInBounds_toArray, List.set_cons_zero, List.set_cons_succ]
      refine lex_do rfl (fun K hK => ?_)
      go_simp
      refine hK _ _ (fun h => absurd rfl h) ?_
      clear hK K
      try simp only [Act.put, List.setIfInBounds_toArray, List.set_cons_zero, List.set_cons_succ]
      refine lex_nil ?_
      go_wp2_with fail
      go_roundg (k - (i + 1))
      case measure => have := HG.out; omega
      case rel => exact ⟨i + 1, l2, b2, _, _, _, by go_num, rfl, by omega, HX.out.1, HX.out.2⟩
    · obtain rfl : i = k := by omega
      have HE := Lib.hid (HST.out.rd (.inr rfl))
      go_wp2_with fail
      go_end0
      exact ⟨rfl, .list xs, [v], l', b', HST.out.fr, HST.out.upd, HBK.out, HST.out.isRep, HE.out⟩
end Go.Proofs.Ytpoplipjombdbaa
/- codec's form.store, reading. -/
namespace Go.Proofs.Ytpoplipjombdbaa
open Go.RowKit Go.Lb Go.Rc

set_option maxRecDepth 20000 in
set_option maxHeartbeats 2000000 in
theorem store_reads : Reads 58 sStore := by
  intro B f p q tp pre post l b w h hB hpf hq hp
  subst hq
  have H0 := Lib.hid (RdSt.start (rest := [.num, .num, .list sJob, .list sJob, .list sNode, .list sAlloc, .list sEval, .list sDeploy, .list sSeen]) h hB hpf hp (fr_mark h).2.2.2.1)
  clear h hp
  go_enter Try.func58, Try.ntmps58
  go_wp2_with fail
  refine wp_region_lex (fun _ => True) 99 [(0, true), (1, true), (2, true), (3, true), (4, true), (5, true), (6, true), (7, false), (8, false)] (by kernel_rfl) (by kernel_rfl) (by kernel_rfl) (by kernel_rfl) (fun _ _ d _ _ h => by cases d <;> exact h) ?_
  simp only [lexOps, List.map_cons, List.map_nil, List.getD_cons_zero, List.getD_cons_succ]
  iterate 7 (refine lex_read rfl trivial (v := ?_) (fun w' _ => ?_) ?_; rotate_left; (focus (go_simp; try with_reducible rfl)); simp only [Act.put, List.setIfInBounds_toArray, List.set_cons_zero, List.set_cons_succ])
  refine lex_do rfl (fun K hK => ?_)
  go_simp
  refine hK _ _ (fun _ => trivial) ?_
  clear hK K
  refine lex_do rfl (fun K hK => ?_)
  go_simp
  refine (CRd.goNums (rest := [.list sJob, .list sJob, .list sNode, .list sAlloc, .list sEval, .list sDeploy, .list sSeen]) (k := 2) H0.out ((Upd.refl _ _).alloc _).drew (Nat.le_refl _) (Blk.drew (Blk.new _ _ [_, _])) (by simp only [fsize_append, fsize_nums, fsize, List.nil_append] <;> rfl) (by decide)).mono ?_
  rintro e w1 ⟨rfl, ns1, l1, b1, hn, h⟩
  have H1 := Lib.hid h
  have HN1 := Lib.hid hn
  clear hn
  refine hK _ _ (fun _ => trivial) ?_
  clear hK K h
  refine lex_nil ?_
  go_wp2_with fail
  refine (CRd.goList listJob_reads H1.out (by simp only [fsize_append, fsize_nums, fsize, HN1.out, List.nil_append] <;> rfl)).mono ?_
  rintro e w2 ⟨rfl, v2, l2, b2, h⟩
  have H2 := Lib.hid h
  clear h
  go_wp2_with fail
  refine (CRd.goList listJob_reads H2.out (by simp only [fsize_append, fsize_nums, fsize, HN1.out, List.nil_append] <;> rfl)).mono ?_
  rintro e w3 ⟨rfl, v3, l3, b3, h⟩
  have H3 := Lib.hid h
  clear h
  go_wp2_with fail
  refine (CRd.goList listNode_reads H3.out (by simp only [fsize_append, fsize_nums, fsize, HN1.out, List.nil_append] <;> rfl)).mono ?_
  rintro e w4 ⟨rfl, v4, l4, b4, h⟩
  have H4 := Lib.hid h
  clear h
  go_wp2_with fail
  refine (CRd.goList listAlloc_reads H4.out (by simp only [fsize_append, fsize_nums, fsize, HN1.out, List.nil_append] <;> rfl)).mono ?_
  rintro e w5 ⟨rfl, v5, l5, b5, h⟩
  have H5 := Lib.hid h
  clear h
  go_wp2_with fail
  refine (CRd.goList listEval_reads H5.out (by simp only [fsize_append, fsize_nums, fsize, HN1.out, List.nil_append] <;> rfl)).mono ?_
  rintro e w6 ⟨rfl, v6, l6, b6, h⟩
  have H6 := Lib.hid h
  clear h
  go_wp2_with fail
  refine (CRd.goList listDeploy_reads H6.out (by simp only [fsize_append, fsize_nums, fsize, HN1.out, List.nil_append] <;> rfl)).mono ?_
  rintro e w7 ⟨rfl, v7, l7, b7, h⟩
  have H7 := Lib.hid h
  clear h
  go_wp2_with fail
  refine (CRd.goList listSeen_reads H7.out (by simp only [fsize_append, fsize_nums, fsize, HN1.out, List.nil_append] <;> rfl)).mono ?_
  rintro e w8 ⟨rfl, v8, l8, b8, h⟩
  have H8 := Lib.hid h
  clear h
  go_wp2_with fail
  go_end0
  exact CRd.fin H8.out (by simp only [List.map_append, nums_fst, HN1.out, List.append_assoc, List.map_cons, List.map_nil, List.nil_append]; rfl)
end Go.Proofs.Ytpoplipjombdbaa
/- codec's get[Store] and GetStore. -/
namespace Go.Proofs.Ytpoplipjombdbaa
open Go.RowKit Go.Lb Go.Rc

set_option maxRecDepth 20000 in
set_option maxHeartbeats 2000000 in
theorem getStore_any (a : Option Addr) (c : Nat) (l : List Nat) (w : World) (hb : Bytes w (· < w.heap.size) a l) (hc : l.length ≤ c ∧ c ≤ maxLen) :
    Calls Try.prog 57 #[.slice a l.length c, .func (.func 58) #[] #[]] w (GetIs sStore l w) := by
  have HB := Lib.hid hb
  have HC := Lib.hid hc
  clear hb hc
  go_enter Try.func57, Try.ntmps57
  go_wp2_with (refine wpList_alloc_blk rfl 91 rfl sStore.zc (zero91 _) ?_; intro wA hA uA)
  rename_i wB hB uB wC hC uC K1 a1 K2 a2
  have uW : Upd [] w (wA.alloc (.cells #[.slice a l.length c, .bool true, .bool false] 127)) := ((uB.trans uC (by simp)).trans uA (by simp)).alloc _
  have s1 := uB.size
  have s2 := uC.size
  have s3 := uA.size
  have l1 := hB.lt
  have l2 := hC.lt
  have l3 := hA.lt
  have hT := (uA.blk (uC.blk hB (by simp)) (by simp)).alloc (.cells #[.slice a l.length c, .bool true, .bool false] 127)
  have hX := (uA.blk hC (by simp)).alloc (.cells #[.slice a l.length c, .bool true, .bool false] 127)
  have hN := hA.alloc (.cells #[.slice a l.length c, .bool true, .bool false] 127)
  refine (store_reads w.heap.size wA.heap.size wB.heap.size 0 91 [] [] l false _ ⟨a, c, Blk.new wA 127 [.slice a l.length c, .bool true, .bool false], HB.out.upd uW (by simp), HC.out, by omega⟩ (by omega) (by omega) rfl (by simpa using hX)).mono ?_
  rintro e w1 ⟨rfl, v, cs, l', b', h1, h2, h3, h4, h5⟩
  have hlen : cs.length = 9 := h4.len
  have h3' : Blk w1 wB.heap.size 91 cs := by simpa using h3
  have hT1 : Blk w1 w.heap.size 91 sStore.zc := h2.blk hT (by simp; omega)
  have hN1 : Blk w1 wC.heap.size 91 sStore.zc := h2.blk hN (by simp; omega)
  have HU : Hid (Upd [] w w1) := Lib.hid (uW.trans h2 (by simp; omega))
  have HT := Lib.hid hT1
  have HN := Lib.hid hN1
  have HX := Lib.hid h3'
  have HRep := Lib.hid (h4.mono (ok' := fun k => w.heap.size < k) (fun b hb _ => by simp at hb; omega))
  have HR := Lib.hid h5
  obtain ⟨m2, _, _, _, _⟩ := fr_mark h1
  obtain ⟨a', c', hI⟩ := h1
  have f0 := hI.blk.cell (o := 0) rfl
  clear h2 h3 h4 h5 h3' hT1 hN1 hT hX hN hI uA uB uC hA hB hC uW
  by_cases hg : b' = false ∧ l' = []
  · obtain ⟨rfl, rfl⟩ := hg
    have f0' : w1.cell? ⟨wA.heap.size, 0, none⟩ = some (.slice a' 0 c') := f0
    clear f0
    go_wp2_with (first | (refine wpList_load_blk rfl 91 (.tmp 6) rfl wB.heap.size rfl HX.out Try.underlying91 rfl (by rw [hlen]; exact Try.size91) ?_) | (refine wpList_store_blk (o := ⟨none, .store 91 (.tmp 4) (.tmp 28), _, _, _, _⟩) rfl 91 (.tmp 4) (.tmp 28) rfl w.heap.size cs rfl rfl HT.out (by rw [hlen]; exact Try.size91) (by rw [hlen]; rfl) HRep.out.one ?_; intro w3 hb3 hu3))
    have hl := run_loadVar_blk (P := Try.prog) hb3 91 _ Try.underlying91 rfl (by rw [hlen]; exact Try.size91)
    refine bodyPost_ret (v := .tuple #[.agg cs.toArray, .bool true]) ?_ rfl ⟨HU.out.trans hu3 (by simp), cs, v, true, rfl, HRep.out.keep (fun k hk hl => ⟨Nat.le_of_lt hk, hu3.block k hl (by simp; omega)⟩) hu3.size, fun _ => (HR.out.good rfl).2, fun h => (by cases h)⟩
    · rw [results_cell_tmp Try.results57]; simp [asAddr, hl]
  · have t1 : b' = true ∨ (b' = false ∧ decide (0 < l'.length) = true) := by
      cases b' with
      | true => exact .inl rfl
      | false =>
        right
        refine ⟨rfl, ?_⟩
        rw [decide_eq_true_eq, List.length_pos_iff]
        exact fun h => hg ⟨rfl, h⟩
    have HG : Hid (∀ v', sStore.get l ≠ some (v', [])) := Lib.hid (fun v' hv => by
      cases b' with
      | true =>
        rcases HR.out.bad rfl with h | h
        · cases h
        · rw [hv] at h; cases h
      | false =>
        have := (HR.out.good rfl).2
        rw [hv] at this
        simp only [Option.some.injEq, Prod.mk.injEq] at this
        exact hg ⟨rfl, this.2.symm⟩)
    clear hg
    rcases t1 with rfl | ⟨rfl, t1⟩
    all_goals
      go_wp2_with (first | (refine wpList_load_blk rfl 91 (.tmp 7) rfl wC.heap.size rfl HN.out Try.underlying91 rfl (by exact Try.size91) ?_) | (refine wpList_store_blk (o := ⟨none, .store 91 (.tmp 4) (.tmp 27), _, _, _, _⟩) rfl 91 (.tmp 4) (.tmp 27) rfl w.heap.size sStore.zc rfl rfl HT.out (by exact Try.size91) (by rfl) (Sch.zc_one sStore) ?_; intro w3 hb3 hu3))
      have hl := run_loadVar_blk (P := Try.prog) hb3 91 _ Try.underlying91 rfl (by exact Try.size91)
      refine bodyPost_ret (v := .tuple #[.agg sStore.zc.toArray, .bool false]) ?_ rfl ⟨HU.out.trans hu3 (by simp), sStore.zc, sStore.zero, false, rfl, Sch.Rep.zero _ _ _, fun h => (by cases h), fun _ => ⟨HG.out, rfl⟩⟩
      rw [results_cell_tmp Try.results57]; simp [asAddr, hl]

set_option maxRecDepth 20000 in
set_option maxHeartbeats 2000000 in
theorem getStore_gets : Gets 37 sStore := by
  intro a c l w hb hc
  have HB := Lib.hid hb
  have HC := Lib.hid hc
  clear hb hc
  go_enter Try.func37, Try.ntmps37
  go_wp2_with (refine wpList_alloc_blk rfl 91 rfl sStore.zc (zero91 _) ?_; intro wA hA uA)
  have s1 := uA.size
  have l1 := hA.lt
  refine (getStore_any a c l wA ((HB.out.upd uA (by simp)).mono' s1) HC.out).mono ?_
  rintro e w1 ⟨u1, cs, v, r, rfl, hr, h1, h2⟩
  have hlen : cs.length = 9 := hr.len
  have HT := Lib.hid (u1.blk hA (by simp))
  have HU : Hid (Upd [] w w1) := Lib.hid (uA.trans u1 (by simp))
  have HRep := Lib.hid (hr.mono (ok' := fun k => w.heap.size < k) (fun b hb _ => by omega))
  have H1 := Lib.hid h1
  have H2 := Lib.hid h2
  clear hr h1 h2 u1 uA hA
  go_wp2_with (refine wpList_store_blk (o := ⟨none, .store 91 (.tmp 2) (.tmp 6), _, _, _, _⟩) rfl 91 (.tmp 2) (.tmp 6) rfl w.heap.size cs rfl rfl HT.out (by rw [hlen]; exact Try.size91) (by rw [hlen]; rfl) HRep.out.one ?_; intro w3 hb3 hu3)
  have hl := run_loadVar_blk (P := Try.prog) hb3 91 _ Try.underlying91 rfl (by rw [hlen]; exact Try.size91)
  refine bodyPost_ret (v := .tuple #[.agg cs.toArray, .bool r]) ?_ rfl ⟨HU.out.trans hu3 (by simp), cs, v, r, rfl, HRep.out.keep (fun k hk hl => ⟨Nat.le_of_lt hk, hu3.block k hl (by simp; omega)⟩) hu3.size, H1.out, H2.out⟩
  rw [results_cell_tmp Try.results37]; simp [asAddr, hl]
end Go.Proofs.Ytpoplipjombdbaa
