/- The field of 128 bits has no divisors of nought. -/
import Derived.Test.YtakemokmdlogoaaQGLink
set_option linter.unusedVariables false
set_option linter.unusedSimpArgs false
set_option maxRecDepth 1000000
namespace Go.Proofs.Ytakemokmdlogoaa.G128
open Go Go.Proofs Go.Proofs.YtakemokmdlogoaaPM Go.Proofs.Ytakemokmdlogoaa.Q

def sq (a : V) : V := T a a
theorem sq_xo (a b : V) : sq (xo a b) = xo (sq a) (sq b) := by
  unfold sq
  rw [T_xo, T_xo_left, T_xo_left, T_comm b a, xo_assoc, ← xo_assoc (T a b), xo_self, zero_xo]
theorem T_zero_left (a : V) : T zero a = zero := by rw [T_comm, T_zero]
theorem sq_zero : sq zero = zero := T_zero _
theorem T_four (a b c d : V) : T (T a b) (T c d) = T (T a c) (T b d) := by
  rw [← T_assoc (T c d) b a, ← T_assoc (T b d) c a, T_T c b d]
theorem sq_T (a b : V) : sq (T a b) = T (sq a) (sq b) := T_four a b a b
theorem T_one (a : V) : T (E 0) a = a := by rw [T_comm, T_e0]
theorem X_T (a : V) : X a = T a (E 1) := by
  have h : X (E 0) = E 1 := E_step ⟨0, by decide⟩
  rw [← h, T_X, T_e0]
def sqn : Nat → V → V
  | 0, a => a
  | n + 1, a => sqn n (sq a)
theorem sqn_succ : ∀ (n : Nat) (a : V), sqn (n + 1) a = sq (sqn n a)
  | 0, _ => rfl
  | n + 1, a => by rw [sqn, sqn_succ n (sq a), sqn]
theorem sqn_xo : ∀ (n : Nat) (a b : V), sqn n (xo a b) = xo (sqn n a) (sqn n b)
  | 0, _, _ => rfl
  | n + 1, a, b => by rw [sqn, sq_xo, sqn_xo n, sqn, sqn]
theorem sqn_zero : ∀ n, sqn n zero = zero
  | 0 => rfl
  | n + 1 => by rw [sqn, sq_zero, sqn_zero n]
theorem sqn_T : ∀ (n : Nat) (a b : V), sqn n (T a b) = T (sqn n a) (sqn n b)
  | 0, _, _ => rfl
  | n + 1, a, b => by rw [sqn, sq_T, sqn_T n, sqn, sqn]
theorem sqn_one : ∀ n, sqn n (E 0) = E 0
  | 0 => rfl
  | n + 1 => by rw [sqn, show sq (E 0) = E 0 from T_e0 _, sqn_one n]
/-- The same, reckoned. -/
def itR : Nat → V → V
  | 0, v => v
  | n + 1, v => itR n (run v 128 0 v zero)
theorem itR_eq : ∀ (n : Nat) (v : V), itR n v = sqn n v
  | 0, _ => rfl
  | n + 1, v => by rw [itR, itR_eq n, run_T, sqn]; rfl
theorem frob_T : itR 128 (E 1) = E 1 := by kernel_rfl
theorem frob_E : ∀ i, i < 128 → sqn 128 (E i) = E i
  | 0, _ => sqn_one 128
  | i + 1, h => by
    have h1 : E (i + 1) = T (E i) (E 1) := by rw [← X_T]; exact (E_step ⟨i, by omega⟩).symm
    rw [h1, sqn_T, frob_E i (by omega), ← itR_eq, frob_T]
theorem sum_E (a : V) : S 128 (fun i => if bit a i then E i else zero) = a := by
  have h := T_e0 a
  unfold T at h
  exact (S_congr fun i hi => by rw [E_eq i hi]).trans h
/-- Squared so often, all comes back. -/
theorem frob (a : V) : sqn 128 a = a := by
  have h := sum_E a
  have e : sqn 128 a = sqn 128 (S 128 fun i => if bit a i then E i else zero) := by rw [h]
  rw [e, S_lin (sqn_xo 128) (sqn_zero 128)]
  refine (S_congr fun i hi => ?_).trans h
  have h0 := sqn_zero 128
  have h1 := frob_E i hi
  generalize sqn 128 = f at h0 h1
  cases bit a i
  · simp only [Bool.false_eq_true, if_false]; exact h0
  · simp only [if_true]; exact h1
/-! ### what is its own square is nought or one -/
def kc : List (Nat × Nat) := [(1211553125252814566, 11482153953605671572), (2319167367686035785, 10507154630812261287), (6930853386113423689, 10507154630812261287), (3478221664002490862, 7493157187169294706), (4625010376899729737, 10507154630812261287), (6229288357682799550, 949234687851984212), (2325300159395643886, 7493157187169294706), (1765300327737708463, 10270502209744077107), (5201471129203153225, 10507154630812261287), (2511340982778319854, 7598586921877248370), (5941057981531087806, 949234687851984212), (7709974958907325679, 17677236521571534677), (2469415347471499758, 7493157187169294706), (5114969883848211601, 13495575813957678183), (1837357921775636399, 10270502209744077107), (7236662466109164679, 15029605954701183701), (5237499926222117193, 10507154630812261287), (6695216390347253150, 3250696143283977556), (2493326584268837870, 7598586921877248370), (4559512835008051544, 8427610647896987520), (5932050782276346814, 949234687851984212), (3541801084950812464, 6357903466084704832), (7705471359279955183, 17677236521571534677), (1460672315667774679, 13568258934384764659), (2471667147285185006, 7493157187169294706), (1883888836302121743, 10417582476890769715), (5113843983941368977, 13495575813957678183), (3176405148014935702, 5706425302753427122), (1836794971822215087, 10270502209744077107), (2693674125035737151, 16528924674596901683), (7236380991132454023, 15029605954701183701), (4744392677445447464, 4096784015165715366), (5237640663710472521, 10507154630812261287), (6694534753360431094, 3338170814099779796), (6695286759091430814, 3250696143283977556), (4791858183283592072, 2650408042124999590), (2493361768640926702, 7598586921877248370), (2706222835756168951, 17245680514504797939), (4559530427194095960, 8427610647896987520), (1941212625790130335, 11507656770866455411), (5932059578369369022, 949234687851984212), (4313475194924787097, 16304995377863888833), (3541805482997323568, 6357903466084704832), (256250083352541656, 1194954006985093056), (7705473558303210735, 17677236521571534677), (3159129674042010431, 14354054513269379891), (1460671216156146903, 13568258934384764659), (7606124675222701607, 17251787156168637077), (2471667697040998894, 7493157187169294706), (2435948785998169310, 8420276713947675442), (1883888561424214799, 10417582476890769715), (6265376245128827615, 11437038280790924629), (5113844121380322449, 13495575813957678183), (8636973649590145481, 16292058037884738471), (3176405216734412438, 5706425302753427122), (8307074116358214352, 8567895610785655846), (1836794937462476719, 10270502209744077107), (3241382546365552158, 5031110546674457394), (2693674142215606335, 16528924674596901683), (3956157049165101297, 15083256602826801729), (7236380982542519431, 15029605954701183701), (8853016062102900241, 15334711620974965863), (4744392681740414760, 4096784015165715366), (334020517849576793, 10553224499453898689), (5237640661562988873, 10507154630812261287), (3647690838253638144, 5660620424892383232), (6694534754434172918, 3338170814099779796), (3956952183962692505, 15270631419113355137), (6695286759628301726, 3250696143283977556), (5053806621970512673, 13159433687981905447), (4791858183015156616, 2650408042124999590), (331584518386715985, 10876443065270678017), (2493361768775144430, 7598586921877248370), (6172954866968207879, 9257591356850893461), (2706222835823277815, 17245680514504797939), (8756957760434295273, 14668655826613234663), (4559530427160541528, 8427610647896987520), (3420067259384629854, 6099869321913219890), (1941212625773353119, 11507656770866455411), (5231506086801837073, 10866147818997369895), (5932059578377757630, 949234687851984212), (517016704073406561, 9431046256601600065), (4313475194920592793, 16304995377863888833), (6643853091072895302, 2402697388399055508), (3541805482999420720, 6357903466084704832), (8757261185228117721, 14494380376874545639), (256250083353590232, 1194954006985093056), (2907825378354621143, 15475077688252374707), (7705473558303735023, 17677236521571534677), (2797947818501559135, 17343862687044647731), (3159129674042272575, 14354054513269379891), (4394910866926874104, 7174794464274655168), (1460671216156015831, 13568258934384764659), (5004964732719265353, 12262604886369131431), (7606124675222636071, 17251787156168637077), (5474329663957317657, 10223589925878976999), (2471667697040966126, 7493157187169294706), (7155932300330331126, 5826222317552486548), (2435948785998185694, 8420276713947675442), (5473748910099799913, 10370746618916269031), (1883888561424206607, 10417582476890769715), (7233593319790642727, 15190732175745401557), (6265376245128823519, 11437038280790924629), (8768644744908186089, 14804773166722771943), (5113844121380320401, 13495575813957678183), (8078459498385098928, 7752079104152224806), (8636973649590146505, 16292058037884738471), (310372726743767465, 11036211237499743617), (3176405216734411926, 5706425302753427122), (6926823949295833574, 5203030597058779796), (8307074116358214608, 8567895610785655846), (7230838871894292983, 15539263084170801365), (1836794937462476591, 10270502209744077107), (14932961269768, 13727245530979776), (3241382546365552222, 5031110546674457394), (691986562685044289, 11578914105595594817), (2693674142215606303, 16528924674596901683), (6883415289771206910, 3760774647743189332), (3956157049165101281, 15083256602826801729), (5902786165167492598, 2015669924352527764), (7236380982542519439, 15029605954701183701), (0, 0), (8853016062102900245, 15334711620974965863), (3953099667523800597, 15334711620974965857), (4744392681740414762, 4096784015165715366), (3872266939550988173, 14913477675866468721), (334020517849576792, 10553224499453898689), (6874614110390578608, 4361322133666155804)]
def kAt : List (Nat × Nat) → V → Nat → V → V
  | [], _, _, acc => acc
  | p :: r, v, i, acc => kAt r v (i + 1) (if bit v i then xo acc (BitVec.ofNat 64 p.1, BitVec.ofNat 64 p.2) else acc)
def kV (i : Nat) : V := (BitVec.ofNat 64 (kc.getD i (0, 0)).1, BitVec.ofNat 64 (kc.getD i (0, 0)).2)
def KL (v : V) : V := S 128 fun i => if bit v i then kV i else zero
theorem bit_xo (a b : V) (i : Nat) : bit (xo a b) i = (bit a i ^^ bit b i) := by
  unfold bit xo
  split <;> simp
theorem bit_zero (i : Nat) : bit zero i = false := by
  unfold bit zero
  split <;> simp
theorem KL_xo (a b : V) : KL (xo a b) = xo (KL a) (KL b) := by
  unfold KL
  rw [← S_xo]
  refine S_congr fun i _ => ?_
  rw [bit_xo]
  cases bit a i <;> cases bit b i <;> simp [xo_zero, zero_xo, xo_self]
theorem KL_zero : KL zero = zero := by
  unfold KL
  refine (S_congr fun i _ => ?_).trans (S_zero 128)
  rw [bit_zero]; rfl
theorem kAt_eq (v : V) : ∀ (d i : Nat), i + d = 128 → kAt (kc.drop i) v i (S i fun i => if bit v i then kV i else zero) = KL v
  | 0, i, h => by
    obtain rfl : i = 128 := by omega
    rfl
  | d + 1, i, h => by
    have hl : kc.length = 128 := by decide
    rw [List.drop_eq_getElem_cons (by omega), kAt]
    have e : (BitVec.ofNat 64 (kc[i]'(by omega)).1, BitVec.ofNat 64 (kc[i]'(by omega)).2) = kV i := by
      unfold kV
      rw [List.getD_eq_getElem?_getD, List.getElem?_eq_getElem (by omega)]
      rfl
    rw [e, ← kAt_eq v d (i + 1) (by omega), S]
    congr 1
    cases bit v i
    · simp [xo_zero]
    · simp
def same (a b : V) : Bool := decide (a.1.toNat = b.1.toNat) && decide (a.2.toNat = b.2.toNat)
theorem same_eq {a b : V} (h : same a b = true) : a = b := by
  unfold same at h
  simp only [Bool.and_eq_true, decide_eq_true_eq] at h
  exact Prod.ext (BitVec.eq_of_toNat_eq h.1) (BitVec.eq_of_toNat_eq h.2)
def chkK : Nat → Nat → V → Bool
  | 0, _, _ => true
  | d + 1, i, s => same (kAt kc (xo s (E i)) 0 zero) (if i = 0 then zero else E i) && chkK d (i + 1) (X (X s))
theorem chk_T : chkK 128 0 (E 0) = true := by kernel_rfl
theorem chk_at : ∀ (d i : Nat) (s : V), chkK d i s = true → ∀ j, j < d → KL (xo (Xn (2 * j) s) (E (i + j))) = if i + j = 0 then zero else E (i + j)
  | 0, _, _, _, j, h => by omega
  | d + 1, i, s, hc, j, h => by
    unfold chkK at hc
    rw [Bool.and_eq_true] at hc
    cases j with
    | zero =>
      have := same_eq hc.1
      rw [← kAt_eq _ 128 0 rfl]
      exact this
    | succ j =>
      have := chk_at d (i + 1) (X (X s)) hc.2 j (by omega)
      rw [Xn_X, Xn_X, show i + 1 + j = i + (j + 1) by omega] at this
      exact this
theorem sq_E {i : Nat} (h : i < 128) : sq (E i) = Xn (2 * i) (E 0) := by
  have h1 := E_eq i h
  unfold sq
  rw [← h1, T_Xn, T_comm, T_Xn, T_e0, ← show Xn i (Xn i (E 0)) = Xn (2 * i) (E 0) from ?_]
  have : ∀ (n m : Nat) (a : V), Xn n (Xn m a) = Xn (n + m) a := by
    intro n
    induction n with
    | zero => intro m a; rw [Nat.zero_add]; rfl
    | succ n ih => intro m a; rw [Xn, ih, show n + 1 + m = (n + m) + 1 by omega, Xn]
  rw [this, show i + i = 2 * i by omega]
def low (a : V) : V := if bit a 0 then E 0 else zero
theorem K_sq (a : V) : KL (xo (sq a) a) = xo a (low a) := by
  have h := sum_E a
  have e1 : KL (xo (sq a) a) = S 128 fun i => if bit a i then (if i = 0 then zero else E i) else zero := by
    have e2 : KL (xo (sq a) a) = KL (xo (sq (S 128 fun i => if bit a i then E i else zero)) (S 128 fun i => if bit a i then E i else zero)) := by rw [h]
    rw [e2, S_lin (L := fun v => KL (xo (sq v) v)) (fun x y => ?_) (by show KL (xo (sq zero) zero) = zero; rw [sq_zero, xo_zero, KL_zero])]
    · refine S_congr fun i hi => ?_
      cases bit a i
      · simp only [Bool.false_eq_true, if_false]
        rw [sq_zero, xo_zero, KL_zero]
      · simp only [if_true]
        have := chk_at 128 0 (E 0) chk_T i hi
        rw [Nat.zero_add, ← sq_E hi] at this
        exact this
    · show KL (xo (sq (xo x y)) (xo x y)) = _
      rw [sq_xo, xo_four, KL_xo]
  rw [e1]
  have e3 : xo a (low a) = S 128 fun i => xo (if bit a i then E i else zero) (if i = 0 then low a else zero) := by
    rw [S_xo, h]
    congr 1
    have : ∀ n, S (n + 1) (fun i => if i = 0 then low a else zero) = low a := by
      intro n
      induction n with
      | zero => rw [S, S, zero_xo]; rfl
      | succ n ih => rw [S, ih, if_neg (by omega), xo_zero]
    exact (this 127).symm
  rw [e3]
  refine S_congr fun i hi => ?_
  by_cases h0 : i = 0
  · subst h0
    unfold low
    cases bit a 0
    · simp [xo_zero]
    · simp [xo_self]
  · simp [h0, xo_zero]
theorem idem {e : V} (h : sq e = e) : e = zero ∨ e = E 0 := by
  have h1 := K_sq e
  rw [h, xo_self, KL_zero] at h1
  have h2 := xo_cancel h1.symm
  unfold low at h2
  cases hb : bit e 0 with
  | false => rw [hb] at h2; exact .inl h2
  | true => rw [hb] at h2; exact .inr h2
/-- a to the power 2^n - 1. -/
def pw (a : V) : Nat → V
  | 0 => E 0
  | n + 1 => T a (sq (pw a n))
theorem T_pw (a : V) : ∀ n, T a (pw a n) = sqn n a
  | 0 => by rw [pw, T_e0]; rfl
  | n + 1 => by
    have h : T a (T a (sq (pw a n))) = sq (T a (pw a n)) := by
      rw [sq_T, T_assoc]
      rfl
    rw [pw, h, T_pw a n, sqn_succ]
/-- Nothing but nought times something that is not nought is nought. -/
theorem T_cancel {a b : V} (ha : a ≠ zero) (h : T a b = zero) : b = zero := by
  have h1 : T a (pw a 128) = a := by rw [T_pw, frob]
  have h2 : sq (pw a 128) = pw a 128 := by
    have e : pw a 128 = T a (sq (pw a 127)) := rfl
    show T (pw a 128) (pw a 128) = _
    conv => lhs; lhs; rw [e]
    rw [T_comm a, ← T_assoc, h1, T_comm, ← e]
  rcases idem h2 with h3 | h3
  · rw [h3, T_zero] at h1
    exact absurd h1.symm ha
  · have e : pw a 128 = T (sq (pw a 127)) a := by rw [T_comm]; rfl
    have : T (T (sq (pw a 127)) a) b = zero := by rw [← T_assoc, h, T_zero]
    rw [← e, h3, T_one] at this
    exact this
theorem T_inj {a b c : V} (ha : a ≠ zero) (h : T a b = T a c) : b = c := xo_cancel (T_cancel ha (by rw [T_xo, h, xo_self]))
/-! ### hashes of texts that are not alike in one block -/
theorem vOf_inj {s t : ByteArray} (hs : s.size = 16) (ht : t.size = 16) (h : vOf s = vOf t) : s = t := by rw [← tOf_vOf hs, ← tOf_vOf ht, h]
theorem tOf_inj {v w : V} (h : tOf v = tOf w) : v = w := by rw [← vOf_tOf v, ← vOf_tOf w, h]
theorem Gh_acc {h : V} (hh : h ≠ zero) (s : ByteArray) : ∀ (m i : Nat) (x y : V), Gh h s m i x = Gh h s m i y → x = y
  | 0, _, _, _, e => e
  | m + 1, i, x, y, e => by
    have := T_inj hh (Gh_acc hh s m (i + 16) _ _ e)
    have : xo (xo x (vOf (s.extract i (i + 16)))) (vOf (s.extract i (i + 16))) = xo (xo y (vOf (s.extract i (i + 16)))) (vOf (s.extract i (i + 16))) := by rw [this]
    rw [xo_assoc, xo_self, xo_zero, xo_assoc, xo_self, xo_zero] at this
    exact this
theorem Gh_same {h : V} {s t : ByteArray} : ∀ (m i : Nat) (x : V), (∀ k, k < m → s.extract (i + 16 * k) (i + 16 * k + 16) = t.extract (i + 16 * k) (i + 16 * k + 16)) → Gh h s m i x = Gh h t m i x
  | 0, _, _, _ => rfl
  | m + 1, i, x, e => by
    have e0 := e 0 (by omega)
    simp only [Nat.mul_zero, Nat.add_zero] at e0
    rw [Gh, Gh, e0]
    exact Gh_same m (i + 16) _ fun k hk => by have := e (k + 1) (by omega); rw [show i + 16 * (k + 1) = i + 16 + 16 * k by omega] at this; exact this
theorem Gh_other {h : V} (hh : h ≠ zero) {s t : ByteArray} (hs : s.size = t.size) : ∀ (m i : Nat) (x : V) (q : Nat), i + 16 * m ≤ s.size → q < m → (∀ k, k < m → k ≠ q → s.extract (i + 16 * k) (i + 16 * k + 16) = t.extract (i + 16 * k) (i + 16 * k + 16)) →
    s.extract (i + 16 * q) (i + 16 * q + 16) ≠ t.extract (i + 16 * q) (i + 16 * q + 16) → Gh h s m i x ≠ Gh h t m i x
  | 0, _, _, q, _, hq, _, _ => by omega
  | m + 1, i, x, q, hm, hq, e, hne => by
    intro he
    rw [Gh, Gh] at he
    cases q with
    | zero =>
      simp only [Nat.mul_zero, Nat.add_zero] at hne
      rw [Gh_same (s := s) (t := t) m (i + 16) _ fun k hk => by have := e (k + 1) (by omega) (by omega); rw [show i + 16 * (k + 1) = i + 16 + 16 * k by omega] at this; exact this] at he
      have h1 := T_inj hh (Gh_acc hh t m (i + 16) _ _ he)
      rw [xo_comm x, xo_comm x] at h1
      have h2 : xo (xo (vOf (s.extract i (i + 16))) x) x = xo (xo (vOf (t.extract i (i + 16))) x) x := by rw [h1]
      rw [xo_assoc, xo_self, xo_zero, xo_assoc, xo_self, xo_zero] at h2
      exact hne (vOf_inj (by rw [extract_size (by omega)]; omega) (by rw [extract_size (by omega)]; omega) h2)
    | succ q =>
      have e0 := e 0 (by omega) (by omega)
      simp only [Nat.mul_zero, Nat.add_zero] at e0
      rw [e0] at he
      refine Gh_other hh hs m (i + 16) _ q (by omega) (by omega) (fun k hk hkq => by have := e (k + 1) (by omega) (by omega); rw [show i + 16 * (k + 1) = i + 16 + 16 * k by omega] at this; exact this) ?_ he
      rw [show i + 16 * (q + 1) = i + 16 + 16 * q by omega] at hne
      exact hne
end Go.Proofs.Ytakemokmdlogoaa.G128
