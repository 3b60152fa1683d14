/- The three tables that the kernel reckons: squares, pairs, patterns. -/
import Derived.Test.YthanbjnpfenniaaDoorMR
namespace Go.Proofs.YthanbjnpfenniaaDoor.NumTh

/-- From p on, p odd, k times: no square of p is deceived by both 2 and 3. -/
def sqChk : Nat → Nat → Bool
  | 0, _ => true
  | k + 1, p => (!(Nat.beq (2 ^ (p - 1) % (p * p)) 1 && Nat.beq (3 ^ (p - 1) % (p * p)) 1)) && sqChk k (p + 2)

theorem sqChk_tells : ∀ k p, sqChk k p = true → ∀ i, i < k → ¬ (2 ^ (p + 2 * i - 1) % ((p + 2 * i) * (p + 2 * i)) = 1 ∧ 3 ^ (p + 2 * i - 1) % ((p + 2 * i) * (p + 2 * i)) = 1)
  | 0, _, _, _, h => absurd h (by omega)
  | k + 1, p, h, i, hi => by
    simp only [sqChk, Bool.and_eq_true, Bool.not_eq_true', Bool.and_eq_false_iff] at h
    cases i with
    | zero =>
      rintro ⟨h1, h2⟩
      rcases h.1 with g | g
      · rw [Nat.mul_zero, Nat.add_zero] at h1; rw [h1] at g; exact absurd g (by decide)
      · rw [Nat.mul_zero, Nat.add_zero] at h2; rw [h2] at g; exact absurd g (by decide)
    | succ i =>
      have := sqChk_tells k (p + 2) h.2 i (by omega)
      rw [show p + 2 * (i + 1) = p + 2 + 2 * i by omega]; exact this

set_option maxRecDepth 100000 in
theorem sq_a : sqChk 4096 41 = true := by decide +kernel
set_option maxRecDepth 100000 in
theorem sq_b : sqChk 4096 8233 = true := by decide +kernel

def gg (p : Nat) : Nat := Nat.gcd (2 ^ (p - 1) - 1) (Nat.gcd (3 ^ (p - 1) - 1) (Nat.gcd (5 ^ (p - 1) - 1) (Nat.gcd (7 ^ (p - 1) - 1) (Nat.gcd (11 ^ (p - 1) - 1) (13 ^ (p - 1) - 1)))))

def skip (p : Nat) : Bool := Nat.beq (p % 3) 0 || (Nat.beq (p % 5) 0 || (Nat.beq (p % 7) 0 || (Nat.beq p 4381 || (Nat.beq p 10561 || (Nat.beq p 10981 || (Nat.beq p 13067 || Nat.beq p 14041))))))

theorem skip_not {p : Nat} (h : Pr p) (hp : 41 ≤ p) : skip p = false := by
  have hd : ∀ d, 2 ≤ d → d < 41 → p % d ≠ 0 := by
    intro d h1 h2 h3
    rcases h.2 d (Nat.dvd_of_mod_eq_zero h3) with e | e <;> omega
  have hne : ∀ m d, m % d = 0 → 2 ≤ d → d < 80 → 80 ≤ m → p ≠ m := by
    intro m d h1 h2 h3 h4 h5
    subst h5
    rcases h.2 d (Nat.dvd_of_mod_eq_zero h1) with e | e <;> omega
  have hb : ∀ x y : Nat, x ≠ y → Nat.beq x y = false := by
    intro x y hxy
    cases e : Nat.beq x y with
    | false => rfl
    | true => exact absurd (Nat.eq_of_beq_eq_true e) hxy
  unfold skip
  rw [hb _ _ (hd 3 (by omega) (by omega)), hb _ _ (hd 5 (by omega) (by omega)), hb _ _ (hd 7 (by omega) (by omega)),
    hb _ _ (hne 4381 13 (by decide) (by omega) (by omega) (by omega)), hb _ _ (hne 10561 59 (by decide) (by omega) (by omega) (by omega)),
    hb _ _ (hne 10981 79 (by decide) (by omega) (by omega) (by omega)), hb _ _ (hne 13067 73 (by decide) (by omega) (by omega) (by omega)),
    hb _ _ (hne 14041 19 (by decide) (by omega) (by omega) (by omega))]
  rfl

/-- M: the product of the odd numbers from 3 up to p - 2. -/
def gChk : Nat → Nat → Nat → Bool
  | 0, _, _ => true
  | k + 1, p, M => match M * p with
    | 0 => false
    | L + 1 => (skip p || Nat.beq (((L + 1) % gg p) ^ 2 % gg p) 0) && gChk k (p + 2) (L + 1)

theorem gChk_tells : ∀ k p M, gChk k p M = true → (∀ q, Pr q → q ∣ M → q < p) →
    ∀ i, i < k → skip (p + 2 * i) = true ∨ ∀ q, Pr q → q ∣ gg (p + 2 * i) → q ≤ p + 2 * i
  | 0, _, _, _, _, _, h => absurd h (by omega)
  | k + 1, p, M, h, hM, i, hi => by
    have hML : M * p ≠ 0 → ∀ q, Pr q → q ∣ M * p → q < p + 2 := by
      intro hne q hq hd
      rcases hq.dvd_mul hd with x | x
      · have := hM q hq x; omega
      · have hp : p ≠ 0 := by rintro rfl; exact hne (Nat.mul_zero _)
        have := Nat.le_of_dvd (by omega) x; omega
    unfold gChk at h
    cases e : M * p with
    | zero => rw [e] at h; exact absurd h (by simp)
    | succ L =>
      rw [e] at h
      simp only [Bool.and_eq_true, Bool.or_eq_true] at h
      obtain ⟨h1, h2⟩ := h
      have hp : p ≠ 0 := by rintro rfl; rw [Nat.mul_zero] at e; omega
      cases i with
      | zero =>
        rcases h1 with h1 | h1
        · exact Or.inl h1
        · refine Or.inr (fun q hq hd => ?_)
          rw [Nat.mul_zero, Nat.add_zero] at hd ⊢
          have h3 := Nat.eq_of_beq_eq_true h1
          have h4 : gg p ∣ (L + 1) ^ 2 := by
            refine Nat.dvd_of_mod_eq_zero ?_
            rw [Nat.pow_mod]; exact h3
          have h5 := hq.dvd_pow 2 (Nat.dvd_trans hd h4)
          rw [← e] at h5
          rcases hq.dvd_mul h5 with x | x
          · have := hM q hq x; omega
          · exact Nat.le_of_dvd (by omega) x
      | succ i =>
        have := gChk_tells k (p + 2) (L + 1) h2 (by rw [← e]; exact hML (by omega)) i (by omega)
        rw [show p + 2 * (i + 1) = p + 2 + 2 * i by omega]; exact this

def M0 : Nat := 319830986772877770815625
theorem M0_below (q : Nat) (hq : Pr q) (h : q ∣ M0) : q < 41 := by
  have e : M0 = 3 * 5 * 7 * 9 * 11 * 13 * 15 * 17 * 19 * 21 * 23 * 25 * 27 * 29 * 31 * 33 * 35 * 37 * 39 := by decide +kernel
  rw [e] at h
  have step : ∀ a b, 0 < b → b < 41 → (q ∣ a → q < 41) → q ∣ a * b → q < 41 := by
    intro a b h1 h2 h3 h4
    rcases hq.dvd_mul h4 with x | x
    · exact h3 x
    · have := Nat.le_of_dvd h1 x; omega
  have last : q ∣ 3 → q < 41 := fun h => by have := Nat.le_of_dvd (by omega) h; omega
  exact step _ 39 (by omega) (by omega) (step _ 37 (by omega) (by omega) (step _ 35 (by omega) (by omega) (step _ 33 (by omega) (by omega)
    (step _ 31 (by omega) (by omega) (step _ 29 (by omega) (by omega) (step _ 27 (by omega) (by omega) (step _ 25 (by omega) (by omega)
    (step _ 23 (by omega) (by omega) (step _ 21 (by omega) (by omega) (step _ 19 (by omega) (by omega) (step _ 17 (by omega) (by omega)
    (step _ 15 (by omega) (by omega) (step _ 13 (by omega) (by omega) (step _ 11 (by omega) (by omega) (step _ 9 (by omega) (by omega)
    (step _ 7 (by omega) (by omega) (step _ 5 (by omega) (by omega) last))))))))))))))))) h

set_option maxRecDepth 1000000 in
theorem g_all : gChk 8172 41 M0 = true := by decide +kernel

/-! ### Patterns -/
def place (q : Nat) : Nat → Nat → Nat
  | 0, _ => 0
  | k + 1, u => if u = 1 then 0 else place q k (u * u % q) + 1

theorem place_lies {q : Nat} (hq : 2 ≤ q) : ∀ e u, u < q → u ^ (2 ^ e) % q = 1 → Lies q u (place q e u)
  | 0, u, hu, h => by
    intro t
    refine ⟨fun _ => Nat.zero_le _, fun _ => ?_⟩
    exact pow_up hq (Nat.zero_le t) h
  | e + 1, u, hu, h => by
    unfold place
    by_cases h1 : u = 1
    · rw [if_pos h1]
      intro t
      refine ⟨fun _ => Nat.zero_le _, fun _ => ?_⟩
      rw [h1, Nat.one_pow]; exact Nat.mod_eq_of_lt (by omega)
    · rw [if_neg h1]
      have hsq : ∀ t, u ^ (2 ^ (t + 1)) % q = (u * u % q) ^ (2 ^ t) % q := by
        intro t
        rw [Nat.pow_succ, Nat.mul_comm, Nat.pow_mul, Nat.pow_two, Nat.pow_mod]
      have ih := place_lies hq e (u * u % q) (Nat.mod_lt _ (by omega)) (by rw [← hsq]; exact h)
      intro t
      cases t with
      | zero =>
        refine ⟨fun g => ?_, fun g => absurd g (by omega)⟩
        rw [Nat.pow_zero, Nat.pow_one, Nat.mod_eq_of_lt hu] at g
        exact absurd g h1
      | succ t =>
        rw [hsq, ih t]; omega

/-- q - 1 = 2^e f with f odd: e and f. -/
def parts : Nat → Nat → Nat → Nat × Nat
  | 0, e, f => (e, f)
  | k + 1, e, f => if f % 2 = 0 then parts k (e + 1) (f / 2) else (e, f)
def pe (q : Nat) : Nat := (parts 12 0 (q - 1)).1
def pf (q : Nat) : Nat := (parts 12 0 (q - 1)).2
def code1 (q a : Nat) : Nat := place q (pe q) (a ^ pf q % q)
def bases : List Nat := [2, 3, 5, 7, 11, 13, 17, 19, 23, 29, 31, 37]
def code (q : Nat) : Nat := bases.foldl (fun c a => c * 16 + code1 q a) 0
def good1 (q : Nat) : Bool := Nat.beq (2 ^ pe q * pf q) (q - 1) && Nat.beq (pf q % 2) 1
def small : List Nat := [41, 43, 47, 53, 59, 61, 67, 71, 73, 79, 83, 89, 97, 101, 103, 107, 109, 113, 127, 131, 137, 139, 149, 151, 157, 163, 167, 173, 179, 181, 191, 193, 197, 
  199, 211, 223, 227, 229, 233, 239, 241, 251, 257, 263, 269, 271, 277, 281, 283, 293, 307, 311, 313, 317, 331, 337, 347, 349, 353, 359, 367, 373, 379, 
  383, 389, 397, 401, 409, 419, 421, 431, 433, 439, 443, 449, 457, 461, 463, 467, 479, 487, 491, 499, 503, 509, 521, 523, 541, 547, 557, 563, 569, 571, 
  577, 587, 593, 599, 601, 607, 613, 617, 619, 631, 641, 643, 647, 653, 659, 661, 673, 677, 683, 691, 701, 709, 719, 727, 733, 739, 743, 751, 757, 761, 
  769, 773, 787, 797, 809, 811, 821, 823, 827, 829, 839, 853, 857, 859, 863, 877, 881, 883, 887, 907, 911, 919, 929, 937, 941, 947, 953, 967, 971, 977, 
  983, 991, 997, 1009, 1013, 1019, 1021, 1031, 1033, 1039, 1049, 1051, 1061, 1063, 1069, 1087, 1091, 1093, 1097, 1103, 1109, 1117, 1123, 1129, 1151, 
  1153, 1163, 1171, 1181, 1187, 1193, 1201, 1213, 1217, 1223, 1229, 1231, 1237, 1249, 1259, 1277, 1279, 1283, 1289, 1291, 1297, 1301, 1303, 1307, 1319, 
  1321, 1327, 1361, 1367, 1373, 1381, 1399, 1409, 1423, 1427, 1429, 1433, 1439, 1447, 1451, 1453, 1459, 1471, 1481, 1483, 1487, 1489, 1493, 1499, 1511, 
  1523, 1531, 1543, 1549, 1553, 1559, 1567, 1571, 1579, 1583, 1597, 1601, 1607, 1609, 1613, 1619, 1621, 1627, 1637, 1657, 1663, 1667, 1669, 1693, 1697, 
  1699, 1709, 1721, 1723, 1733, 1741, 1747, 1753, 1759, 1777, 1783, 1787, 1789, 1801, 1811, 1823, 1831, 1847, 1861, 1867, 1871, 1873, 1877, 1879, 1889, 
  1901, 1907, 1913, 1931, 1933, 1949, 1951, 1973, 1979, 1987, 1993, 1997, 1999, 2003, 2011, 2017, 2027, 2029, 2039, 2053, 2063, 2069, 2081, 2083, 2087, 
  2089, 2099, 2111, 2113, 2129, 2131, 2137, 2141, 2143, 2153, 2161, 2179, 2203, 2207, 2213, 2221, 2237, 2239, 2243, 2251, 2267, 2269, 2273, 2281, 2287, 
  2293, 2297, 2309, 2311, 2333, 2339, 2341, 2347, 2351, 2357, 2371, 2377, 2381, 2383, 2389, 2393, 2399, 2411, 2417, 2423, 2437, 2441, 2447, 2459, 2467, 
  2473, 2477, 2503, 2521, 2531, 2539, 2543, 2549, 2551, 2557]
def codesApart : List Nat → Bool
  | [] => true
  | c :: cs => cs.all (fun d => !(Nat.beq c d)) && codesApart cs
def codes : List Nat := [38634089812752, 18764712182017, 69004759312, 37525398888737, 17592471261201, 36361732170274, 18764997328912, 4581232656, 2418925511472, 1103807643905, 
  17660922363904, 3449179812659, 75133026129221, 37392539980288, 1168499539985, 17665201537040, 35184944750866, 39862451586100, 1172526076160, 
  17592187162897, 38698244780850, 18691698790400, 37388260745216, 1103823376384, 36429929390608, 18764998447377, 68737306625, 37529980108817, 
  17596749451265, 35193232695329, 4563468561, 92785896478294, 37525701853216, 1099781177345, 18695993692432, 1168516321280, 17660923346961, 
  35261983498784, 3514125254944, 4311814145, 56299576640324, 17592454545665, 79750686599032, 73014509824, 37392272720416, 1099528474880, 35326661755170, 
  21037607760163, 18760418263057, 37529994797585, 18760433930512, 269553937, 35403720634931, 37525165048321, 18696277856513, 3587375907906, 
  17665201606657, 36361764602113, 58640081109845, 4311810320, 1168500654336, 36426172473361, 18696278901008, 69004689409, 37383395418658, 36429948260352, 
  57188366434628, 37397136089907, 17592455594000, 35257421275650, 4312793105, 53069471827011, 1099512680465, 17665468993808, 94644812007014, 
  37594705506611, 37392556753442, 1172811354113, 17661174022417, 17891601, 1172812337153, 17596481081600, 18696278970369, 68720591121, 37461006876961, 
  38565085130769, 18760417148929, 35189239644690, 18764713168913, 37525700747554, 17660905521425, 38492338074419, 18695993753600, 75206325720598, 
  17661190803457, 39875620508193, 4563407120, 151166067505, 1168232157457, 36421893103904, 21106059784962, 18691983999232, 1104091873281, 
  113689167886197, 18760703475713, 68987981825, 37521121612290, 17596481011984, 36361227870482, 74029437621330, 37529963340321, 17665486753809, 
  18691984003088, 37452652748818, 35253395660834, 269553664, 1168499605777, 35330972525056, 18696009486592, 73032270080, 1104076079376, 35321811116578, 
  38565369225778, 128061034104952, 37529726362144, 18760434974720, 37529425420834, 38621188006707, 18691715502096, 37456982315041, 1172795625728, 
  17665218314497, 35192978932258, 286261520, 36430485197314, 38702792512035, 18691966177537, 73299660800, 36421895323904, 4622244856899, 18764980621313, 
  68720529680, 18764981600529, 4564451585, 1103806660625, 76095098594387, 1319379284258, 37392557941025, 17665486819585, 38694201536818, 1172542918913, 
  17592454480144, 57463243293460, 69005738240, 1104076083201, 36430451573266, 56290986705731, 37529711546914, 17596497788929, 36292508385570, 4296081425, 
  20006815413025, 1099780067344, 21041601589555, 18696010534929, 37383699436048, 1168231104784, 36293027373089, 1172811354385, 17592187093249, 
  35321813270546, 21110622200371, 73299722256, 37460974247969, 35326645113345, 18760702361873, 37461563745075, 17895440, 95070820185719, 17665218384144, 
  18696261075201, 37460738445857, 17665201602832, 21110069604914, 37603583935556, 35322081648642, 59813432288548, 68719546385, 37456982450690, 
  1099512680448, 35330703098368, 39880182027587, 17592471322896, 37529424232482, 1099796906256, 17665200492544, 3441127718947, 18691966112016, 
  54164960973892, 37460973261090, 1172795621649, 17661190734096, 17830145, 35334749630977, 1172526141457, 57330316358692, 73300705281, 37521137406465, 
  35253628572192, 1099529453584, 113672339285861, 1172812398865, 17660905525264, 36284438483490, 3518135218946, 4564455680, 1168231104768, 
  17596498907153, 35321812156960, 18691698720784, 1103823372560, 21028966441778, 18760685649920, 68736319744, 56230588662835, 37525701861906, 
  17596750565377, 268439809, 17665486749969, 18691697741825, 1168499609600, 36356931850786, 22283435647555, 1118225, 1168517435393, 17592472305665, 
  18696009416704, 73014509841, 35326676509202, 77268179247909, 73299722496, 2211911512867, 37529977950738, 17596497858576, 35184390971921, 
  18760434974976, 37529426460945, 35404271198755, 1172527120657, 17665200488705, 35262254088225, 36430451712513, 76231732245845, 18691966107920, 
  37456712966657, 3380726543139, 18764729942288, 37521388011778, 36292492656898, 18764997328897, 20010842075699, 1103806660865, 21183906198579, 
  1168516387088, 17665485771024, 36357469769762, 1242103493425, 17592186109953, 68719480848, 1104092921873, 68720590864, 36293045264401, 18760435044625, 
  4563472640, 56350814061636, 37525701927456, 1099796910097, 58503159170133, 37456411893778, 17661175070737, 3514139091506, 17592203870480, 
  36426173514273, 37392524320800, 1099780063488, 37529693786369, 17592187097089, 18760433996032, 36503768150787, 37521404862753, 1103807709440, 
  17665469976849, 18696262189313, 75128194282565, 17665468928257, 35261683736594, 4580245504, 36426154577922, 68720594944, 37452150546977, 
  76091055494212, 18764980555776, 73031286801, 2350188277811, 17592471326976, 4312797185, 41121466049877, 39665097966660, 18691698721025, 36499222573617, 
  37461241761794, 1172811288848, 38689924329506, 56298971612228, 18696278900752, 18760703414289, 73015492865, 37521390051616, 35257959121425, 
  37520853307410, 1099512746001, 17660922368257, 18696010531089, 17661191852048, 36283918458913, 58640620148033, 19941855073059, 1168231170048, 
  36425652376097, 38697691132465, 37392557937186, 1104075030529, 37521137475602, 17596482064657, 35261968880145, 18764997333248, 17826049, 
  37529694773760, 18691714453504, 37589607456817, 37456711844370, 1168232153089, 36357451948560, 21110605423410, 285278465, 17592203935745, 
  57459200963650, 73299660817, 36426190168066, 3312228377138, 73282883841, 17596498837521, 18760685654288, 18907018765107, 37529996759570, 1172542849025, 
  36426426299139, 17596749517073, 18691967160337, 73032339472, 37388228370944, 1099511693329, 35326108111137]
set_option maxRecDepth 1000000 in
theorem codes_eq : small.map code = codes := by decide +kernel
set_option maxRecDepth 1000000 in
theorem codes_apart : codesApart codes = true := by decide +kernel
set_option maxRecDepth 1000000 in
theorem small_good : small.all good1 = true := by decide +kernel
/-- Every number from 41 on below 2560 is one of the small ones or has a divisor below 52. -/
def hasDiv (n : Nat) : Nat → Bool
  | 0 => false
  | k + 1 => (Nat.beq (n % (k + 2)) 0 && !(Nat.beq n (k + 2))) || hasDiv n k
def cover : Nat → Nat → List Nat → Bool
  | 0, _, _ => true
  | k + 1, n, [] => hasDiv n 50 && cover k (n + 1) []
  | k + 1, n, x :: xs => if Nat.beq n x then cover k (n + 1) xs else hasDiv n 50 && cover k (n + 1) (x :: xs)
set_option maxRecDepth 1000000 in
theorem small_cover : cover 2519 41 small = true := by decide +kernel

end Go.Proofs.YthanbjnpfenniaaDoor.NumTh
