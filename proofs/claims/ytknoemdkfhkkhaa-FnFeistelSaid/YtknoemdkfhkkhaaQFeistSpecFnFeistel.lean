/- The reference's four passes. -/
import Derived.Test.YtknoemdkfhkkhaaQFeistImplFnFeistel
import Derived.Test.YtknoemdkfhkkhaaQAesSpecFnFeistel
import Derived.Test.YtknoemdkfhkkhaaQBeSpecFnFeistel
set_option linter.unusedVariables false
set_option linter.unusedSimpArgs false
namespace Go.Proofs.Ytknoemdkfhkkhaa.CFnFeistel
open Go Go.Proofs Go.Proofs.YtknoemdkfhkkhaaPM Go.Proofs.Ytknoemdkfhkkhaa.Q Go.Proofs.Ytknoemdkfhkkhaa.GFnFeistel

theorem bytesL_TM {m : Nat → Nat} (s : ByteArray) : bytesL (TM m s) = L s.size fun i => byteAt s i &&& m i := by
  rw [TM]
  exact bytesL_strL (Bytes_L fun i _ => and_lt (byteAt_lt _ _))
theorem setL2 {s : ByteArray} {n : Nat} (h1 : 0 < s.size) (hn : n % 2 = 1) (hs : s.size = (n + 1) / 2) :
    (bytesL s).set (s.size - 1) (Go.bits .and .u8 ((bytesL s).getD (s.size - 1) 0) 240) = bytesL (TM (mL n) s) := by
  rw [byteAt_bytesL, and240 ⟨_, byteAt_lt _ _⟩, bytesL_L, L_set, bytesL_TM]
  refine L_eq fun j hj => ?_
  unfold mL
  by_cases e : j = s.size - 1
  · subst e; rw [if_pos rfl, if_pos (by omega)]
  · rw [if_neg e, if_neg (by omega), and255 (byteAt_lt _ _)]
theorem setR2 {s : ByteArray} {n : Nat} (h1 : 0 < s.size) (hn : n % 2 = 1) :
    (bytesL s).set 0 (Go.bits .and .u8 ((bytesL s).getD 0 0) 15) = bytesL (TM (mR n) s) := by
  rw [byteAt_bytesL, and15 ⟨_, byteAt_lt _ _⟩, bytesL_L, L_set, bytesL_TM]
  refine L_eq fun j hj => ?_
  unfold mR
  by_cases e : j = 0
  · subst e; rw [if_pos rfl, if_pos ⟨hn, rfl⟩]
  · rw [if_neg e, if_neg (by omega), and255 (byteAt_lt _ _)]
theorem cut_spec {s : ByteArray} (hs : 2 ≤ s.size ∧ s.size ≤ 19) : EvP (fun N => spec_l7Cut N s) (fun r => r.2 = (bytesL (ct s).1, (bytesL (ct s).2, ()))) := by
  refine EvP.of (fun N => spec_l7Cut.eq N _) ?_
  have e0 : IntKind.i64.wrap (Int.tdiv (IntKind.i64.wrap ((s.size : Int) + 1)) 2) = (((s.size + 1) / 2 : Nat) : Int) := by
    rw [i64w (n := (s.size : Int) + 1) (by omega) (by omega), Int.tdiv_eq_ediv_of_nonneg (by omega), i64w (by omega) (by omega)]; omega
  rw [e0]
  have e1 : IntKind.i64.wrap ((s.size : Int) - (((s.size + 1) / 2 : Nat) : Int)) = ((s.size - (s.size + 1) / 2 : Nat) : Int) := by rw [i64w (by omega) (by omega)]; omega
  rw [e1, tmod2, i64w (n := (((s.size + 1) / 2 : Nat) : Int) - 1) (by omega) (by omega), show Int.toNat ((((s.size + 1) / 2 : Nat) : Int) - 1) = (s.size + 1) / 2 - 1 by omega, Int.toNat_natCast, Int.toNat_natCast, Int.toNat_natCast]
  have hl : (s.extract 0 ((s.size + 1) / 2)).size = (s.size + 1) / 2 := by rw [extract_size (by omega)]; omega
  have hr : (s.extract (s.size - (s.size + 1) / 2) s.size).size = (s.size + 1) / 2 := by rw [extract_size (by omega)]; omega
  unfold ct
  generalize s.extract 0 ((s.size + 1) / 2) = l at hl
  generalize s.extract (s.size - (s.size + 1) / 2) s.size = r at hr
  have hl2 : (bytesL l).length = l.size := bytesL_len l
  have hr2 : (bytesL r).length = r.size := bytesL_len r
  refine EvP.chk2 (by omega) (by omega) (EvP.chk3 (by omega) (by omega) (by omega) ?_)
  by_cases h : s.size % 2 = 1
  · refine EvP.pos (by omega) (EvP.chk2 (by omega) (by omega) (EvP.chk2 (by omega) (by omega) (EvP.chk1 (by omega) (EvP.chk1 (by omega) (EvP.some ?_)))))
    dsimp only
    rw [← setL2 (n := s.size) (by omega) h hl, ← setR2 (n := s.size) (by omega) h, hl]
  · refine EvP.neg (by omega) (EvP.some ?_)
    dsimp only
    rw [(TM_even (n := s.size) (by omega) l).1, (TM_even (n := s.size) (by omega) r).2]
theorem half_spec {s : ByteArray} {n p : Nat} (hs : s.size ≤ 14) : EvP (fun N => spec_l7Half N s (n : Int) (p : Int)) (· = ((hb s n p, ()), ())) := by
  refine EvP.of (fun N => spec_l7Half.eq N _ _ _) ?_
  rw [i64w (n := 14 - (s.size : Int)) (by omega) (by omega), tmod2, show Int.toNat (14 - (s.size : Int)) = 14 - s.size by omega, show strL (List.replicate (14 - s.size) (0 : Int)) = zs (14 - s.size) from rfl]
  have hz := zs_size (14 - s.size)
  have hsm : smallI (14 - (s.size : Int)) = true := by
    obtain ⟨z, hz⟩ : ∃ z : Nat, (14 : Int) - (s.size : Int) = (z : Int) := ⟨14 - s.size, by omega⟩
    rw [hz]
    show Nat.blt z 68719476736 = true
    rw [Nat.blt_eq]
    omega
  have hck : (decide (0 ≤ 14 - (s.size : Int)) && (smallI (14 - (s.size : Int)) && decide (14 - (s.size : Int) = 14 - (s.size : Int)))) = true := by
    rw [hsm, decide_eq_true (show (0 : Int) ≤ 14 - (s.size : Int) by omega), decide_eq_true rfl]; rfl
  unfold hb
  by_cases h : p % 2 = 1
  · rw [if_pos h]
    refine EvP.pos (by omega) (EvP.chk hck (EvP.chk1 (by omega) (EvP.to (fixed_ok _ 1 (by decide)) (EvP.chk1 (by (try dsimp only); rw [ByteArray.size_append, be_size]; omega) (EvP.to (fixed_ok _ 1 (by decide)) (EvP.chk1 (by (try dsimp only); rw [ByteArray.size_append, ByteArray.size_append, be_size, be_size]; omega) (EvP.some ?_)))))))
    dsimp only
    rw [app_assoc]
  · rw [if_neg h]
    exact EvP.neg (by omega) (EvP.to (fixed_ok _ 1 (by decide)) (EvP.to (fixed_ok _ 1 (by decide)) (EvP.chk1 (by (try dsimp only); rw [be_size, be_size]; omega) (EvP.chk hck (EvP.chk1 (by (try dsimp only); rw [ByteArray.size_append, be_size, be_size]; omega) (EvP.chk1 (by (try dsimp only); rw [ByteArray.size_append, ByteArray.size_append, be_size, be_size]; omega) (EvP.some rfl)))))))
theorem join_spec {n : Nat} {x : HS} (h : Ok n x) (hn : 2 ≤ n ∧ n ≤ 19) : EvP (fun N => spec_l7Join N (bytesL x.1) (bytesL x.2) (n : Int)) (fun r => r.1.1 = jn n x) := by
  have hl := h.l
  have hr := h.r
  have hl2 : (bytesL x.1).length = x.1.size := bytesL_len _
  have hr2 : (bytesL x.2).length = x.2.size := bytesL_len _
  refine EvP.of (fun N => spec_l7Join.eq N _ _ _) ?_
  rw [tmod2, strL_bytesL, strL_bytesL]
  by_cases hq : n % 2 = 0
  · refine EvP.pos (by omega) (EvP.chk1 (by omega) (EvP.some ?_))
    dsimp only
    refine str_ext (by rw [ByteArray.size_append, jn_size]; omega) fun i hi => ?_
    rw [ByteArray.size_append] at hi
    rw [byteAt_jn (by omega)]
    by_cases hi2 : i < x.1.size
    · rw [byteAt_app_left hi2, if_pos (by omega)]
    · rw [byteAt_app_right (by omega), if_neg (by omega), if_neg (by omega), show n - (n + 1) / 2 = x.1.size by omega]
  · have e1 : (strL [((byteAt x.1 (x.1.size - 1) ||| byteAt x.2 0 : Nat) : Int)]).size = 1 := by rw [strL_size]; rfl
    have e2 : (x.1.extract 0 (x.1.size - 1)).size = x.1.size - 1 := by rw [extract_size (by omega)]; omega
    have e3 : (x.2.extract 1 x.2.size).size = x.2.size - 1 := by rw [extract_size (by omega)]
    refine EvP.neg (by omega) ?_
    rw [hl2, hr2, i64w (n := (x.1.size : Int) - 1) (by omega) (by omega), show Int.toNat ((x.1.size : Int) - 1) = x.1.size - 1 by omega, byteAt_bytesL, byteAt_bytesL, or_u8 (byteAt_lt _ _) (byteAt_lt _ _)]
    have c1 : strL (cut (bytesL x.1) 0 ((x.1.size : Int) - 1)) = x.1.extract 0 (x.1.size - 1) := by
      unfold cut
      rw [show Int.toNat ((x.1.size : Int) - 1) = x.1.size - 1 by omega, show Int.toNat 0 = 0 from rfl, ← bytesL_extract, strL_bytesL]
    have c2 : strL (cut (bytesL x.2) 1 (x.2.size : Int)) = x.2.extract 1 x.2.size := by
      unfold cut
      rw [Int.toNat_natCast, show Int.toNat 1 = 1 from rfl, ← bytesL_extract, strL_bytesL]
    rw [c1, c2]
    refine EvP.chk2 (by omega) (by omega) (EvP.chk2 (by omega) (by omega) (EvP.chk1 (by omega) (EvP.chk1 (by omega) (EvP.chk2 (by omega) (by omega) (EvP.chk1 (by rw [ByteArray.size_append]; omega) (EvP.some ?_))))))
    dsimp only
    refine str_ext (by rw [ByteArray.size_append, ByteArray.size_append, jn_size]; omega) fun i hi => ?_
    rw [ByteArray.size_append, ByteArray.size_append] at hi
    rw [byteAt_jn (by omega)]
    by_cases hi2 : i < x.1.size - 1
    · rw [byteAt_app_left (by rw [ByteArray.size_append]; omega), byteAt_app_left (by omega), byteAt_extract (by omega), if_pos (by omega), Nat.zero_add]
    · rw [if_neg (by omega)]
      by_cases hi3 : i = x.1.size - 1
      · rw [byteAt_app_left (by rw [ByteArray.size_append]; omega), byteAt_app_right (by omega), if_pos (by omega), show i - (n - (n + 1) / 2) = 0 by omega, e2, hi3, Nat.sub_self]
        have hb : Bytes [((byteAt x.1 (x.1.size - 1) ||| byteAt x.2 0 : Nat) : Int)] := fun y hy => by
          rw [List.mem_singleton.1 hy]
          have := or_lt (byteAt_lt x.1 (x.1.size - 1)) (byteAt_lt x.2 0)
          omega
        have := byteAt_str hb 0
        have e4 : ([((byteAt x.1 (x.1.size - 1) ||| byteAt x.2 0 : Nat) : Int)] : List Int).getD 0 0 = ((byteAt x.1 (x.1.size - 1) ||| byteAt x.2 0 : Nat) : Int) := rfl
        rw [e4] at this
        omega
      · rw [byteAt_app_right (by rw [ByteArray.size_append]; omega), ByteArray.size_append, e1, e2, byteAt_extract (by omega), if_neg (by omega)]
        congr 1
        omega
theorem bytesL_xs (a b : ByteArray) : bytesL (xs a b) = L a.size fun i => byteAt a i ^^^ byteAt b i := by
  rw [xs]
  exact bytesL_strL (Bytes_L fun i _ => xor_lt (byteAt_lt _ _) (byteAt_lt _ _))
/-- One pass of the reference. -/
theorem step_spec {key s : ByteArray} {ts : List Int} {x : HS} (h : Ok s.size x) (hs : 2 ≤ s.size ∧ s.size ≤ 19) {i p : Nat} (hi : i < ts.length) (hl : ts.length ≤ 100) (hp : ts.getD i 0 = (p : Int)) {P : _ → Prop}
    (next : EvP (fun N => spec_l7Passes.l0 N s (((s.size + 1) / 2 : Nat) : Int) (decide (s.size % 2 = 1)) ts (ts.length : Int) (bytesL (ps key s.size p x).1) (bytesL (ps key s.size p x).2) ((i + 1 : Nat) : Int) (L 176 (KW key)) (L 256 sb)) P) :
    EvP (fun N => spec_l7Passes.l0 N s (((s.size + 1) / 2 : Nat) : Int) (decide (s.size % 2 = 1)) ts (ts.length : Int) (bytesL x.1) (bytesL x.2) (i : Int) (L 176 (KW key)) (L 256 sb)) P := by
  have hxl := h.l
  have hxr := h.r
  have sz : ∀ s, (aes key s).size = 16 := fun s => size16 _
  have wi : ∀ t : ByteArray, t.size = 16 → EvP (fun N => spec_l3With N (L 176 (KW key)) (L 256 sb) t) (· = ((aes key t, ()), ())) := fun t ht => with_ok (KW_by key) ht
  have cutb : ∀ t : ByteArray, ((bytesL (aes key t)).drop 0).take (Int.toNat (((s.size + 1) / 2 : Nat) : Int) - 0) = L ((s.size + 1) / 2) (byteAt (aes key t)) := fun t => by
    rw [List.drop_zero, Int.toNat_natCast, Nat.sub_zero, bytesL_L, sz, L_take (by omega)]
  refine EvP.step (fun N => spec_l7Passes.l0.eq N _ _ _ _ _ _ _ _ _ _) (EvP.pos (by omega) ?_)
  rw [Int.toNat_natCast, hp, tmod2, show IntKind.i64.wrap ((i : Int) + 1) = ((i + 1 : Nat) : Int) by rw [i64w (by omega) (by omega)]; omega]
  refine EvP.to (a := ((bytesL (ps key s.size p x).1, (bytesL (ps key s.size p x).2, ((), ((), ())))), ((), ((), (L 176 (KW key), (L 256 sb, ())))))) (EvP.chk2 (by omega) (by omega) ?_) next
  rw [strL_bytesL, strL_bytesL]
  by_cases hq : p % 2 = 1
  · refine EvP.pos (by omega) (EvP.to (half_spec (by omega)) (EvP.to (wi _ (hb_size (by omega))) (EvP.chk2 (by omega) (by rw [bytesL_len, sz]; omega) ?_)))
    rw [cutb, bytesL_L x.2]
    refine EvP.to (xor_ok (byteAt_lt _) (byteAt_lt _) (by omega) (by omega)) ?_
    dsimp only
    rw [← bytesL_xs, ps, if_pos hq]
    have hz : (xs x.2 (aes key (hb x.1 s.size p))).size = (s.size + 1) / 2 := by rw [xs_size]; exact hxr
    generalize xs x.2 (aes key (hb x.1 s.size p)) = y at hz
    refine EvP.ite (fun ho => EvP.chk1 (by rw [bytesL_len]; omega) (EvP.chk1 (by rw [bytesL_len]; omega) (EvP.some ?_))) (fun ho => EvP.some ?_)
    · rw [setR2 (n := s.size) (by omega) ho]
    · dsimp only
      rw [(TM_even (n := s.size) (by omega) y).2]
  · refine EvP.neg (by omega) (EvP.to (half_spec (by omega)) (EvP.to (wi _ (hb_size (by omega))) (EvP.chk2 (by omega) (by rw [bytesL_len, sz]; omega) ?_)))
    rw [cutb, bytesL_L x.1]
    refine EvP.to (xor_ok (byteAt_lt _) (byteAt_lt _) (by omega) (by omega)) ?_
    dsimp only
    rw [← bytesL_xs, ps, if_neg hq, i64w (n := (((s.size + 1) / 2 : Nat) : Int) - 1) (by omega) (by omega), show Int.toNat ((((s.size + 1) / 2 : Nat) : Int) - 1) = (s.size + 1) / 2 - 1 by omega]
    have hz : (xs x.1 (aes key (hb x.2 s.size p))).size = (s.size + 1) / 2 := by rw [xs_size]; exact hxl
    generalize xs x.1 (aes key (hb x.2 s.size p)) = y at hz
    refine EvP.ite (fun ho => EvP.chk2 (by omega) (by rw [bytesL_len]; omega) (EvP.chk2 (by omega) (by rw [bytesL_len]; omega) (EvP.some ?_))) (fun ho => EvP.some ?_)
    · rw [← setL2 (n := s.size) (by omega) ho hz, hz]
    · dsimp only
      rw [(TM_even (n := s.size) (by omega) y).1]
theorem passes_spec {key s : ByteArray} (hk : key.size = 16) (hs : 2 ≤ s.size ∧ s.size ≤ 19) : EvP (fun N => spec_l7Passes N key s [1, 2, 3, 4]) (· = ((fourP key s, ()), ())) := by
  have h0 := ct_ok (s := s) (by omega)
  have h1 := h0.ps key 1
  have h2 := h1.ps key 2
  have h3 := h2.ps key 3
  have h4 := h3.ps key 4
  refine EvP.of (fun N => spec_l7Passes.eq N _ _ _) (EvP.andK (cut_spec hs) ?_)
  rintro ⟨u1, u2⟩ hu
  dsimp only at hu
  subst hu
  refine EvP.andK (keys_spec hk) fun r hr => EvP.andK table_spec fun u hu => ?_
  rw [hr, hu]
  dsimp only
  rw [bytesL_len, h0.l, tmod2]
  have hd : decide (((s.size % 2 : Nat) : Int) = 1) = decide (s.size % 2 = 1) := dec_eq (fun h => by omega) (fun h => by omega)
  rw [hd]
  have hKW : (KS (byteAt key) 40).2 = KW key := rfl
  rw [hKW]
  refine EvP.to (a := ((bytesL (ps key s.size 4 (ps key s.size 3 (ps key s.size 2 (ps key s.size 1 (ct s))))).1, (bytesL (ps key s.size 4 (ps key s.size 3 (ps key s.size 2 (ps key s.size 1 (ct s))))).2, ())), ((), ((), (L 176 (KW key), (L 256 sb, ())))))) ?_ ?_
  · refine step_spec (i := 0) (p := 1) h0 hs (by decide) (by decide) rfl ?_
    refine step_spec (i := 1) (p := 2) h1 hs (by decide) (by decide) rfl ?_
    refine step_spec (i := 2) (p := 3) h2 hs (by decide) (by decide) rfl ?_
    refine step_spec (i := 3) (p := 4) h3 hs (by decide) (by decide) rfl ?_
    exact EvP.step (fun N => spec_l7Passes.l0.eq N _ _ _ _ _ _ _ _ _ _) (EvP.neg (by decide) (EvP.some rfl))
  · dsimp only
    have e : fourP key s = jn s.size (ps key s.size 4 (ps key s.size 3 (ps key s.size 2 (ps key s.size 1 (ct s))))) := rfl
    rw [e]
    generalize ps key s.size 4 (ps key s.size 3 (ps key s.size 2 (ps key s.size 1 (ct s)))) = y at h4 ⊢
    refine EvP.andK (join_spec h4 hs) ?_
    intro r hr
    exact EvP.some (by rw [hr])
end Go.Proofs.Ytknoemdkfhkkhaa.CFnFeistel
