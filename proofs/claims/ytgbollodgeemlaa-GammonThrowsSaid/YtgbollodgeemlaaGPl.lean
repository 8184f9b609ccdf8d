/- The mean numbers of throws that up to three men on the last six points need, in plain Lean: the table of all states, that it is the true recursion's, and what the statement asks of it. No conditions. -/
namespace Go.Proofs.Ytgbollodgeemlaa

/-- code and mean (times 36^7) of each state of up to three men. -/
def gtab : List (Nat × Nat) := [(0, 0), (1, 78364164096), (2, 78364164096), (4, 78364164096), (3, 143667634176), (5, 78364164096), (16, 78364164096), (6, 143667634176), (64, 82717728768), (17, 82717728768), (8, 100131987456), (20, 102308769792), (9, 145844416512), (256, 89248075776), (18, 145844416512), (65, 93601640448), (257, 106662334464), (1024, 97955205120), (68, 106662334464), (66, 145844416512), (32, 119723028480), (21, 145844416512), (12, 145844416512), (80, 119964893184), (33, 148263063552), (1025, 124318457856), (258, 148263063552), (260, 115611328512), (24, 146086281216), (69, 146086281216), (81, 149230522368), (272, 127220834304), (128, 133993046016), (36, 150439845888), (261, 149956116480), (72, 148021198848), (1026, 152858492928), (1028, 129397616640), (129, 157393456128), (1040, 137439618048), (320, 137923347456), (1029, 152193364992), (273, 151225906176), (48, 157272523776), (264, 156063200256), (84, 151830567936), (132, 158979013632), (512, 150030019584), (276, 155109178368), (96, 158253419520), (321, 156802231296), (1032, 163090713600), (1088, 144950860800), (1041, 154867313664), (144, 166308857856), (1044, 163030247424), (1089, 164481435648), (324, 163151179776), (513, 172221106176), (288, 165207029760), (1280, 153597523968), (192, 177713450496), (1056, 171848231424), (516, 177263313408), (1281, 172815690240), (336, 169335525888), (2048, 165317884416), (1092, 169429584384), (1284, 182516219136), (384, 179358541056), (1104, 176563660032), (2049, 192526730496), (528, 183053696256), (2052, 197939572992), (1152, 188056712448), (1296, 186168824064), (576, 189407123712), (768, 202962371328), (2064, 202080759552), (1344, 194846466816), (2112, 209310428160), (1536, 205795551744), (2304, 215607852864), (3072, 228297102912)]
def gcode : List Nat → Nat
  | [] => 0
  | a :: l => a + 4 * gcode l
def gmean (l : List Nat) : Nat := ((gtab.find? fun p => Nat.beq p.1 (gcode l)).map (·.2)).getD 0
def gat (l : List Nat) (j : Nat) : Nat := l.getD j 0
def gempty (l : List Nat) : Bool := l.all fun a => Nat.beq a 0
/-- the last place below k that is not empty, and 1; 0: none. -/
def gfar (l : List Nat) : Nat → Nat
  | 0 => 0
  | k + 1 => if Nat.beq (gat l k) 0 then gfar l k else k + 1
def gok (l : List Nat) (p i : Nat) : Bool := !(Nat.beq (gat l i) 0 || (decide (i + 1 < p) && !Nat.beq (i + 1) (gfar l 6)))
def gstep (l : List Nat) (p i : Nat) : List Nat :=
  let a := l.set i (gat l i - 1)
  if p ≤ i then a.set (i - p) (gat a (i - p) + 1) else a
def gmovedN (l : List Nat) (p k : Nat) : List (List Nat) := ((List.range k).filter (gok l p)).map (gstep l p)
def gmoved (l : List Nat) (p : Nat) : List (List Nat) := gmovedN l p 6
def gless (b n : Int) : Int := if b < 0 ∨ n < b then n else b
def gbest : List Nat → List Nat → Int
  | [], l => gmean l
  | p :: ps, l => if gempty l then gmean l else ((gmoved l p).map (gbest ps)).foldl gless (-1)
def gthrow (l : List Nat) (x y : Nat) : Int :=
  if x = y then gbest [x, x, x, x] l else min (gbest [x, y] l) (gbest [y, x] l)
/-- the sum over throws (x, 1) .. (x, j). -/
def grow (l : List Nat) (x : Nat) : Nat → Int
  | 0 => 0
  | j + 1 => grow l x j + gthrow l x (j + 1)
def gsum (l : List Nat) : Nat → Int
  | 0 => 0
  | i + 1 => gsum l i + grow l (i + 1) 6
def gpips : List Nat → Nat
  | [] => 0
  | a :: l => a + gpips l + l.sum
def gst (l : List Nat) : Prop := l.length = 6 ∧ l.sum ≤ 3

def gall (f : List Nat → Bool) : Bool :=
  (List.range 4).all fun a => (List.range (4 - a)).all fun b => (List.range (4 - a - b)).all fun c => (List.range (4 - a - b - c)).all fun d =>
    (List.range (4 - a - b - c - d)).all fun e => (List.range (4 - a - b - c - d - e)).all fun g => f [a, b, c, d, e, g]
theorem gall_st {f : List Nat → Bool} (h : gall f = true) (l : List Nat) (hl : gst l) : f l = true := by
  obtain ⟨h6, h3⟩ := hl
  match l, h6 with
  | [a, b, c, d, e, g], _ =>
    simp only [List.sum_cons, List.sum_nil] at h3
    unfold gall at h
    simp only [List.all_eq_true, List.mem_range] at h
    exact h a (by omega) b (by omega) c (by omega) d (by omega) e (by omega) g (by omega)

def glaw (l : List Nat) : Bool :=
  decide (gmean l ≤ 1099511627776) && (if gempty l then Nat.beq (gmean l) 0 else decide ((gmean l : Int) = 78364164096 + (gsum l 6) / 36))
def gclos (l : List Nat) : Bool :=
  gempty l || (List.range 6).all fun p => (!Nat.beq (gmoved l (p + 1)).length 0) && (gmoved l (p + 1)).all fun x => Nat.beq x.length 6 && decide (x.sum ≤ 3) && decide (gpips x < gpips l)
theorem glaw_all : gall glaw = true := by decide +kernel
theorem gclos_all : gall gclos = true := by decide +kernel
theorem gfar_pos {l : List Nat} (h6 : l.length = 6) (h : gfar l 6 = 0) : gempty l = true := by
  match l, h6 with
  | [a, b, c, d, e, f], _ =>
    simp only [gfar, gat] at h
    simp only [gempty, List.all_cons, List.all_nil, Bool.and_true]
    simp only [List.getD_cons_zero, List.getD_cons_succ] at h
    revert h
    cases a <;> cases b <;> cases c <;> cases d <;> cases e <;> cases f <;> simp
end Go.Proofs.Ytgbollodgeemlaa

