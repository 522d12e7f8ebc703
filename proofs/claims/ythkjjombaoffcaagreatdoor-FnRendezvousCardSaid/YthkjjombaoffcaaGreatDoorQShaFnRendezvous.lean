/- What a block makes of a state: the same in both packages. -/
import Derived.Test.YthkjjombaoffcaaGreatDoorQNumImplFnRendezvous
import Derived.Test.YthkjjombaoffcaaGreatDoorQBigSpecFnRendezvous
import Derived.Test.YthkjjombaoffcaaGreatDoorQList
import Derived.Test.YthkjjombaoffcaaGreatDoorQTwin
set_option linter.unusedVariables false
set_option linter.unusedSimpArgs false
set_option maxRecDepth 10000
namespace Go.Proofs.YthkjjombaoffcaaGreatDoor.CFnRendezvous
open Go Go.Proofs Go.Proofs.YthkjjombaoffcaaGreatDoorPM Go.Proofs.YthkjjombaoffcaaGreatDoor.Q Go.Proofs.YthkjjombaoffcaaGreatDoor.GFnRendezvous

/-- A word turned right. -/
def rr (x n : Int) : Int := Go.bits .or .u32 (shrI .u32 x n) (shlI .u32 x (32 - n))
theorem or_comm32 (a b : Int) : Go.bits .or .u32 a b = Go.bits .or .u32 b a := by
  show IntKind.u32.wrap (((BitVec.ofInt _ a ||| BitVec.ofInt _ b).toNat : Nat) : Int) = IntKind.u32.wrap (((BitVec.ofInt _ b ||| BitVec.ofInt _ a).toNat : Nat) : Int)
  rw [BitVec.or_comm]
theorem right_spec (x n : Int) (h : 0 ≤ n) (h' : n ≤ 32) : EvP (fun N => spec_l4Right N x n) (· = ((rr x n, ()), ())) := by
  refine EvP.of (fun N => spec_l4Right.eq N _ _) ?_
  rw [u64i (n := 32 - n) (by omega) (by omega)]
  exact EvP.chk1 h (EvP.chk1 (by omega) (EvP.some rfl))
theorem right_impl (x n : Int) (h : 0 ≤ n) (h' : n ≤ 32) (hk : Go.bits .and .u64 (IntKind.u64.wrap (IntKind.i64.wrap (0 - n))) 31 = 32 - n) : EvP (fun N => impl_right N x n) (· = ((rr x n, ()), ())) := by
  refine EvP.of (fun N => impl_right.eq N _ _) (EvP.to (a := ((rr x n, ()), ())) ?_ (EvP.some rfl))
  refine EvP.of (fun N => math_bits_RotateLeft32.eq N _ _) ?_
  rw [hk, u64i (n := 32 - (32 - n)) (by omega) (by omega)]
  refine EvP.chk1 (by omega) (EvP.chk1 (by omega) (EvP.some ?_))
  rw [or_comm32, show 32 - (32 - n) = n by omega]
  rfl

/-- The words of a block. -/
def sch (b : ByteArray) (l : List Int) (i : Nat) : Int :=
  if i < 16 then IntKind.u32.wrap (vof (b.extract (4 * i) (4 * i + 4)))
  else IntKind.u32.wrap ((IntKind.u32.wrap ((IntKind.u32.wrap ((l.getD (i - 16) 0) + (Go.bits .xor .u32 (Go.bits .xor .u32 (rr (l.getD (i - 15) 0) 7) (rr (l.getD (i - 15) 0) 18)) (shrI .u32 (l.getD (i - 15) 0) 3)))) + (l.getD (i - 7) 0))) + (Go.bits .xor .u32 (Go.bits .xor .u32 (rr (l.getD (i - 2) 0) 17) (rr (l.getD (i - 2) 0) 19)) (shrI .u32 (l.getD (i - 2) 0) 10)))
def schL (b : ByteArray) : Nat → List Int
  | 0 => []
  | i + 1 => schL b i ++ [sch b (schL b i) i]
theorem schL_len (b : ByteArray) : ∀ i, (schL b i).length = i
  | 0 => rfl
  | i + 1 => by rw [schL, List.length_append, schL_len b i]; rfl
theorem sch_spec {G K : List Int} {b : ByteArray} (hb : b.size = 64) : EvP (fun N => spec_l4Round.l0 N G K b 0 []) (· = ((((), ()), (schL b 64, ())))) := by
  refine EvP.count (f := fun N i (a : List Int) => spec_l4Round.l0 N G K b i a) (n := 64) (inv := fun i a => a = schL b i) ?_ ?_ 0 _ (by omega) rfl
  · rintro i a hi rfl next
    have hl := schL_len b i
    refine EvP.step (fun N => spec_l4Round.l0.eq N _ _ _ _ _) (EvP.pos (by omega) ?_)
    refine EvP.to (a := (((), ()), (schL b (i + 1), ()))) ?_ ?_
    · refine EvP.ite (fun h => ?_) (fun h => ?_)
      · rw [i64w (n := 4 * (i : Int)) (by omega) (by omega), i64w (n := 4 * (i : Int) + 4) (by omega) (by omega)]
        refine EvP.chk3 (by omega) (by omega) (by omega) ?_
        rw [show Int.toNat (4 * (i : Int)) = 4 * i by omega, show Int.toNat (4 * (i : Int) + 4) = 4 * i + 4 by omega]
        refine EvP.to (big_ok _ (by rw [extract_size (by omega)]; omega)) (EvP.chk1 (show _ < (68719476736 : Nat) by omega) (EvP.some ?_))
        rw [schL, sch, if_pos (by omega)]
      · rw [i64w (n := (i : Int) - 15) (by omega) (by omega), i64w (n := (i : Int) - 2) (by omega) (by omega), i64w (n := (i : Int) - 16) (by omega) (by omega), i64w (n := (i : Int) - 7) (by omega) (by omega)]
        refine EvP.chk2 (by omega) (by omega) (EvP.chk2 (by omega) (by omega) (EvP.chk2 (by omega) (by omega) ?_))
        rw [show Int.toNat ((i : Int) - 15) = i - 15 by omega, show Int.toNat ((i : Int) - 2) = i - 2 by omega, show Int.toNat ((i : Int) - 16) = i - 16 by omega, show Int.toNat ((i : Int) - 7) = i - 7 by omega]
        refine EvP.to (right_spec _ 7 (by decide) (by decide)) (EvP.to (right_spec _ 18 (by decide) (by decide)) (EvP.chk2 (by omega) (by omega) (EvP.to (right_spec _ 17 (by decide) (by decide)) (EvP.to (right_spec _ 19 (by decide) (by decide)) (EvP.chk1 (show _ < (68719476736 : Nat) by omega) (EvP.some ?_))))))
        rw [schL, sch, if_neg (by omega)]
    · rw [show IntKind.i64.wrap ((i : Int) + 1) = ((i + 1 : Nat) : Int) by rw [i64w (by omega) (by omega)]; omega]
      exact next _ rfl
  · rintro a ha
    exact EvP.step (fun N => spec_l4Round.l0.eq N _ _ _ _ _) (EvP.neg (by omega) (EvP.some (by rw [ha])))
theorem set_zeros (l : List Int) (k : Nat) (v : Int) : (l ++ List.replicate (k + 1) 0).set l.length v = (l ++ [v]) ++ List.replicate k 0 := by
  rw [List.replicate_succ, List.set_append_right _ _ (Nat.le_refl _), Nat.sub_self, List.set_cons_zero, List.append_assoc]
  rfl
theorem getD_zeros {l m : List Int} {j : Nat} (h : j < l.length) : (l ++ m).getD j 0 = l.getD j 0 := by
  rw [List.getD_eq_getElem?_getD, List.getD_eq_getElem?_getD, List.getElem?_append_left h]
theorem sch_impl {G K : List Int} {b : ByteArray} (hb : b.size = 64) : EvP (fun N => impl_hashFrom.l0 N G b K 0 (List.replicate 64 0)) (· = ((((), ()), (schL b 64, ())))) := by
  refine EvP.count (f := fun N i (a : List Int) => impl_hashFrom.l0 N G b K i a) (n := 64) (inv := fun i a => a = schL b i ++ List.replicate (64 - i) 0) ?_ ?_ 0 _ (by omega) rfl
  · rintro i a hi rfl next
    have hl := schL_len b i
    obtain ⟨k, hk⟩ : ∃ k, 64 - i = k + 1 := ⟨63 - i, by omega⟩
    refine EvP.step (fun N => impl_hashFrom.l0.eq N _ _ _ _ _) (EvP.pos (by omega) ?_)
    refine EvP.to (a := (((), ()), (schL b (i + 1) ++ List.replicate (64 - (i + 1)) 0, ()))) ?_ ?_
    · have hset : ∀ v, (schL b i ++ List.replicate (64 - i) 0).set (0 + Int.toNat (i : Int)) v = (schL b i ++ [v]) ++ List.replicate (64 - (i + 1)) 0 := by
        intro v
        rw [Nat.zero_add, Int.toNat_natCast, hk, show 64 - (i + 1) = k by omega]
        have := set_zeros (schL b i) k v
        rw [hl] at this
        exact this
      refine EvP.ite (fun h => ?_) (fun h => ?_)
      · rw [i64w (n := 4 * (i : Int)) (by omega) (by omega), i64w (n := 4 * (i : Int) + 4) (by omega) (by omega)]
        refine EvP.chk3 (by omega) (by omega) (by omega) ?_
        rw [show Int.toNat (4 * (i : Int)) = 4 * i by omega, show Int.toNat (4 * (i : Int) + 4) = 4 * i + 4 by omega]
        refine EvP.to (number_ok _ (by rw [extract_size (by omega)]; omega)) (EvP.chk2 (by omega) (by omega) (EvP.some ?_))
        rw [hset, schL, sch, if_pos (by omega)]
      · rw [i64w (n := (i : Int) - 15) (by omega) (by omega), i64w (n := (i : Int) - 2) (by omega) (by omega), i64w (n := (i : Int) - 16) (by omega) (by omega), i64w (n := (i : Int) - 7) (by omega) (by omega)]
        refine EvP.chk2 (by omega) (by omega) (EvP.chk2 (by omega) (by omega) (EvP.chk2 (by omega) (by omega) ?_))
        rw [show Int.toNat ((i : Int) - 15) = i - 15 by omega, show Int.toNat ((i : Int) - 2) = i - 2 by omega, show Int.toNat ((i : Int) - 16) = i - 16 by omega, show Int.toNat ((i : Int) - 7) = i - 7 by omega, Nat.zero_add (i - 15), Nat.zero_add (i - 2), Nat.zero_add (i - 16), Nat.zero_add (i - 7),
          getD_zeros (j := i - 15) (by omega), getD_zeros (j := i - 2) (by omega), getD_zeros (j := i - 16) (by omega), getD_zeros (j := i - 7) (by omega)]
        refine EvP.to (right_impl _ 7 (by decide) (by decide) (by kernel_rfl)) (EvP.to (right_impl _ 18 (by decide) (by decide) (by kernel_rfl)) (EvP.chk2 (by omega) (by omega) (EvP.to (right_impl _ 17 (by decide) (by decide) (by kernel_rfl)) (EvP.to (right_impl _ 19 (by decide) (by decide) (by kernel_rfl)) (EvP.chk2 (by omega) (by omega) (EvP.some ?_))))))
        rw [hset, schL, sch, if_neg (by omega)]
    · rw [show IntKind.i64.wrap ((i : Int) + 1) = ((i + 1 : Nat) : Int) by rw [i64w (by omega) (by omega)]; omega]
      exact next _ rfl
  · rintro a ha
    rw [Nat.sub_self, List.replicate_zero, List.append_nil] at ha
    exact EvP.step (fun N => impl_hashFrom.l0.eq N _ _ _ _ _) (EvP.neg (by omega) (EvP.some (by rw [ha])))
/-- A round. -/
def rnd (K w : List Int) (i : Nat) (p : List Int) : List Int :=
  [(IntKind.u32.wrap ((IntKind.u32.wrap ((IntKind.u32.wrap ((IntKind.u32.wrap ((IntKind.u32.wrap ((p.getD 7 0) + (Go.bits .xor .u32 (Go.bits .xor .u32 (rr (p.getD 4 0) 6) (rr (p.getD 4 0) 11)) (rr (p.getD 4 0) 25)))) + (Go.bits .xor .u32 (Go.bits .and .u32 (p.getD 4 0) (p.getD 5 0)) (Go.bits .and .u32 (Go.bits .xor .u32 4294967295 (p.getD 4 0)) (p.getD 6 0))))) + (K.getD i 0))) + (w.getD i 0))) + (IntKind.u32.wrap ((Go.bits .xor .u32 (Go.bits .xor .u32 (rr (p.getD 0 0) 2) (rr (p.getD 0 0) 13)) (rr (p.getD 0 0) 22)) + (Go.bits .xor .u32 (Go.bits .xor .u32 (Go.bits .and .u32 (p.getD 0 0) (p.getD 1 0)) (Go.bits .and .u32 (p.getD 0 0) (p.getD 2 0))) (Go.bits .and .u32 (p.getD 1 0) (p.getD 2 0))))))), (p.getD 0 0), (p.getD 1 0), (p.getD 2 0),
   (IntKind.u32.wrap ((p.getD 3 0) + (IntKind.u32.wrap ((IntKind.u32.wrap ((IntKind.u32.wrap ((IntKind.u32.wrap ((p.getD 7 0) + (Go.bits .xor .u32 (Go.bits .xor .u32 (rr (p.getD 4 0) 6) (rr (p.getD 4 0) 11)) (rr (p.getD 4 0) 25)))) + (Go.bits .xor .u32 (Go.bits .and .u32 (p.getD 4 0) (p.getD 5 0)) (Go.bits .and .u32 (Go.bits .xor .u32 4294967295 (p.getD 4 0)) (p.getD 6 0))))) + (K.getD i 0))) + (w.getD i 0))))), (p.getD 4 0), (p.getD 5 0), (p.getD 6 0)]
def rndL (K w p : List Int) : Nat → List Int
  | 0 => p
  | i + 1 => rnd K w i (rndL K w p i)
theorem rndL_len {K w p : List Int} (h : p.length = 8) : ∀ i, (rndL K w p i).length = 8
  | 0 => h
  | _ + 1 => rfl
theorem rnd_spec {G K w : List Int} (hG : G.length = 8) (hK : K.length = 64) (hw : w.length = 64) : EvP (fun N => spec_l4Round.l1 N G K 0 w G) (· = ((((), ()), (w, ((), (rndL K w G 64, ())))))) := by
  refine EvP.count (f := fun N i (a : List Int) => spec_l4Round.l1 N G K i w a) (n := 64) (inv := fun i a => a = rndL K w G i) ?_ ?_ 0 _ (by omega) rfl
  · rintro i a hi rfl next
    have hl := rndL_len (K := K) (w := w) hG i
    refine EvP.step (fun N => spec_l4Round.l1.eq N _ _ _ _ _) (EvP.pos (by omega) ?_)
    rw [Int.toNat_natCast, show IntKind.i64.wrap ((i : Int) + 1) = ((i + 1 : Nat) : Int) by rw [i64w (by omega) (by omega)]; omega]
    refine EvP.chk1 (by omega) (EvP.chk1 (by omega) (EvP.chk1 (by omega) ?_))
    refine EvP.to (right_spec _ 6 (by decide) (by decide)) (EvP.to (right_spec _ 11 (by decide) (by decide)) (EvP.to (right_spec _ 25 (by decide) (by decide)) ?_))
    refine EvP.chk1 (by omega) (EvP.chk1 (by omega) (EvP.chk2 (by omega) (by omega) (EvP.chk2 (by omega) (by omega) ?_)))
    refine EvP.to (right_spec _ 2 (by decide) (by decide)) (EvP.to (right_spec _ 13 (by decide) (by decide)) (EvP.to (right_spec _ 22 (by decide) (by decide)) ?_))
    refine EvP.chk1 (by omega) (EvP.chk1 (by omega) (EvP.chk1 (by omega) (EvP.chk1 (by omega) (EvP.chk1 (by omega) (EvP.chk1 (by omega) (EvP.chk1 (by omega) (EvP.chk1 (by omega) (EvP.chk1 (by omega) ?_))))))))
    exact next _ rfl
  · rintro a rfl
    exact EvP.step (fun N => spec_l4Round.l1.eq N _ _ _ _ _) (EvP.neg (by omega) (EvP.some rfl))
theorem rnd_impl {G K w : List Int} (hG : G.length = 8) (hK : K.length = 64) (hw : w.length = 64) : EvP (fun N => impl_hashFrom.l1 N G K w 0 w G) (· = ((((), ()), (w, (rndL K w G 64, ()))))) := by
  refine EvP.count (f := fun N i (a : List Int) => impl_hashFrom.l1 N G K w i w a) (n := 64) (inv := fun i a => a = rndL K w G i) ?_ ?_ 0 _ (by omega) rfl
  · rintro i a hi rfl next
    have hl := rndL_len (K := K) (w := w) hG i
    refine EvP.step (fun N => impl_hashFrom.l1.eq N _ _ _ _ _ _) (EvP.pos (by omega) ?_)
    rw [Int.toNat_natCast, show IntKind.i64.wrap ((i : Int) + 1) = ((i + 1 : Nat) : Int) by rw [i64w (by omega) (by omega)]; omega]
    refine EvP.chk3 (by omega) (by omega) (by omega) ?_
    refine EvP.to (right_impl _ 6 (by decide) (by decide) (by kernel_rfl)) (EvP.to (right_impl _ 11 (by decide) (by decide) (by kernel_rfl)) (EvP.to (right_impl _ 25 (by decide) (by decide) (by kernel_rfl)) ?_))
    refine EvP.chk2 (by omega) (by omega) ?_
    refine EvP.to (right_impl _ 2 (by decide) (by decide) (by kernel_rfl)) (EvP.to (right_impl _ 13 (by decide) (by decide) (by kernel_rfl)) (EvP.to (right_impl _ 22 (by decide) (by decide) (by kernel_rfl)) ?_))
    refine EvP.chk (by rw [hl]; rfl) ?_
    exact next _ rfl
  · rintro a rfl
    exact EvP.step (fun N => impl_hashFrom.l1.eq N _ _ _ _ _ _) (EvP.neg (by omega) (EvP.some rfl))
/-- What comes out. -/
def finL (G p : List Int) : Nat → List Int
  | 0 => []
  | i + 1 => finL G p i ++ [IntKind.u32.wrap (G.getD i 0 + p.getD i 0)]
theorem finL_len (G p : List Int) : ∀ i, (finL G p i).length = i
  | 0 => rfl
  | i + 1 => by rw [finL, List.length_append, finL_len G p i]; rfl
def comp (G K : List Int) (b : ByteArray) : List Int := finL G (rndL K (schL b 64) G 64) 8
theorem comp_len (G K : List Int) (b : ByteArray) : (comp G K b).length = 8 := finL_len _ _ 8
theorem hash_impl {G K : List Int} {b : ByteArray} (hG : G.length = 8) (hK : K.length = 64) (hb : b.size = 64) : EvP (fun N => impl_hashFrom N G b K) (· = (((), ()), (comp G K b, ()))) := by
  refine EvP.of (fun N => impl_hashFrom.eq N _ _ _) (EvP.chk rfl (EvP.to (sch_impl hb) ?_))
  have hw := schL_len b 64
  have e1 : ((schL b 64).drop 0).take 64 = schL b 64 := by rw [List.drop_zero, List.take_of_length_le (by rw [hw]; exact Nat.le_refl _)]
  have e2 : G.take 8 = G := List.take_of_length_le (by rw [hG]; exact Nat.le_refl _)
  dsimp only
  rw [e1, e2]
  refine EvP.chk1 (by omega) (EvP.chk (by rw [hG]; rfl) (EvP.to (rnd_impl hG hK hw) ?_))
  have hr := rndL_len (K := K) (w := schL b 64) hG 64
  unfold comp
  generalize rndL K (schL b 64) G 64 = p at hr
  have e3 : (p.drop 0).take 8 = p := by rw [List.drop_zero, List.take_of_length_le (by rw [hr]; exact Nat.le_refl _)]
  dsimp only
  rw [e3]
  refine EvP.to (a := (((), ()), (schL b 64, (p, (finL G p 8, ()))))) ?_ (EvP.some rfl)
  refine EvP.count (f := fun N i (a : List Int) => impl_hashFrom.l2 N G p i (schL b 64) p a) (n := 8) (inv := fun i a => a = finL G p i) ?_ ?_ 0 _ (by omega) rfl
  · rintro i a hi rfl next
    have hl := finL_len G p i
    refine EvP.step (fun N => impl_hashFrom.l2.eq N _ _ _ _ _ _) (EvP.pos (by omega) (EvP.chk3 (by omega) (by omega) (by omega) (EvP.chk2 (by omega) (by omega) (EvP.chk1 (show _ < (68719476736 : Nat) by omega) ?_))))
    rw [Int.toNat_natCast, show IntKind.i64.wrap ((i : Int) + 1) = ((i + 1 : Nat) : Int) by rw [i64w (by omega) (by omega)]; omega]
    exact next _ rfl
  · rintro a rfl
    exact EvP.step (fun N => impl_hashFrom.l2.eq N _ _ _ _ _ _) (EvP.neg (by omega) (EvP.some rfl))
theorem hash_spec {G K : List Int} {b : ByteArray} (hG : G.length = 8) (hK : K.length = 64) (hb : b.size = 64) : EvP (fun N => spec_l4Round N G K b) (· = (((), ()), (comp G K b, ()))) := by
  refine EvP.of (fun N => spec_l4Round.eq N _ _ _) (EvP.to (sch_spec hb) (EvP.chk1 (show _ < (68719476736 : Nat) by omega) ?_))
  have hw := schL_len b 64
  rw [List.nil_append]
  refine EvP.to (rnd_spec hG hK hw) ?_
  have hr := rndL_len (K := K) (w := schL b 64) hG 64
  unfold comp
  generalize rndL K (schL b 64) G 64 = p at hr
  dsimp only
  refine EvP.to (a := (((), ()), (schL b 64, ((), (finL G p 8, ()))))) ?_ (EvP.some rfl)
  rw [hr]
  refine EvP.count (f := fun N i (a : List Int) => spec_l4Round.l2 N G ((8 : Nat) : Int) i (schL b 64) a) (n := 8) (inv := fun i a => a = finL G p i ++ p.drop i) ?_ ?_ 0 _ (by omega) rfl
  · rintro i a hi rfl next
    have hl := finL_len G p i
    have hlen : (finL G p i ++ p.drop i).length = 8 := by rw [List.length_append, List.length_drop, hl, hr]; omega
    refine EvP.step (fun N => spec_l4Round.l2.eq N _ _ _ _ _) (EvP.pos (by omega) (EvP.chk2 (by omega) (by omega) (EvP.chk2 (by omega) (by omega) (EvP.chk2 (by omega) (by omega) ?_))))
    rw [Int.toNat_natCast, show IntKind.i64.wrap ((i : Int) + 1) = ((i + 1 : Nat) : Int) by rw [i64w (by omega) (by omega)]; omega]
    refine next _ ?_
    have hip : i < p.length := by omega
    have hd : p.drop i = p[i] :: p.drop (i + 1) := List.drop_eq_getElem_cons hip
    have hg : (finL G p i ++ p.drop i).getD i 0 = p.getD i 0 := by
      rw [List.getD_eq_getElem?_getD, List.getD_eq_getElem?_getD, List.getElem?_append_right (by omega), hl, Nat.sub_self, List.getElem?_drop, Nat.add_zero]
    rw [hg, hd]
    have hs := List.set_append_right (s := finL G p i) (t := p[i] :: p.drop (i + 1)) i (IntKind.u32.wrap (p.getD i 0 + G.getD i 0)) (by omega)
    rw [hl, Nat.sub_self, List.set_cons_zero] at hs
    rw [hs, finL, List.append_assoc, Int.add_comm (p.getD i 0)]
    rfl
  · rintro a rfl
    refine EvP.step (fun N => spec_l4Round.l2.eq N _ _ _ _ _) (EvP.neg (by omega) (EvP.some ?_))
    rw [List.drop_of_length_le (by omega), List.append_nil]
end Go.Proofs.YthkjjombaoffcaaGreatDoor.CFnRendezvous
