/- The struct types of the program, made by structs.py: their cells, how fields are read and written. -/
import Derived.Test.YtpkdekhmjjcljaaGreatFxR
namespace Go.Fx

theorem Idn.pl (x : Idn) : Pl x.enc := by
  intro u hu
  simp only [Idn.enc, List.mem_map] at hu
  obtain ⟨i, _, rfl⟩ := hu
  rfl

/-- where a slice lies, its length, its room -/
structure Slv where
  p : Option Addr
  n : Nat
  c : Nat
deriving DecidableEq
abbrev Slv.v (x : Slv) : Value := .slice x.p x.n x.c
theorem Slv.v_inj {x y : Slv} (h : x.v = y.v) : x = y := by cases x; cases y; cases h; rfl
def slS (key : Option Nat) (n c : Nat) : Slv := ⟨key.map fun b => ⟨b, 0, none⟩, n, c⟩

structure ar2_api_ID where
  E0 : Idn
  E1 : Idn
deriving DecidableEq
def ar2_api_ID.enc (x : ar2_api_ID) : Array Value := catA [(x.E0).enc, (x.E1).enc]
theorem ar2_api_ID.size (x : ar2_api_ID) : x.enc.size = 32 := by rw [ar2_api_ID.enc, catA_size]; simp [szs, Idn.size]
theorem ar2_api_ID.one (x : ar2_api_ID) : Ones x.enc := Ones.cat (by
  intro p hp
  simp only [List.mem_cons, List.not_mem_nil, or_false] at hp
  rcases hp with rfl | rfl
  · exact Idn.one _
  · exact Idn.one _)
theorem ar2_api_ID.pl (x : ar2_api_ID) : Pl x.enc := Pl.cat (by
  intro p hp
  simp only [List.mem_cons, List.not_mem_nil, or_false] at hp
  rcases hp with rfl | rfl
  · exact Idn.pl _
  · exact Idn.pl _)
theorem ar2_api_ID.s_E0 (x : ar2_api_ID) : Sel x.enc 0 16 ((x.E0).enc) := Sel.cat [] ((x.E0).enc) [(x.E1).enc] (rfl) (Idn.size _)
theorem ar2_api_ID.u_E0 (x : ar2_api_ID) (v : Idn) : Upd x.enc 0 (v.enc) (ar2_api_ID.enc { x with E0 := v }) := Upd.cat [] ((x.E0).enc) (v.enc) [(x.E1).enc] (rfl) (by simp [Idn.size])
theorem ar2_api_ID.s_E1 (x : ar2_api_ID) : Sel x.enc 16 16 ((x.E1).enc) := Sel.cat [(x.E0).enc] ((x.E1).enc) [] (by simp [szs, Idn.size]) (Idn.size _)
theorem ar2_api_ID.u_E1 (x : ar2_api_ID) (v : Idn) : Upd x.enc 16 (v.enc) (ar2_api_ID.enc { x with E1 := v }) := Upd.cat [(x.E0).enc] ((x.E1).enc) (v.enc) [] (by simp [szs, Idn.size]) (by simp [Idn.size])
def ar2_api_ID.zero : ar2_api_ID := ⟨Idn.zero, Idn.zero⟩
theorem ar2_api_ID.inj {x y : ar2_api_ID} (h : x.enc = y.enc) : x = y := by
  have h0 := Idn.enc_inj (((ar2_api_ID.s_E0 x).2.symm.trans (by rw [h])).trans (ar2_api_ID.s_E0 y).2)
  have h1 := Idn.enc_inj (((ar2_api_ID.s_E1 x).2.symm.trans (by rw [h])).trans (ar2_api_ID.s_E1 y).2)
  cases x; cases y; simp only at h0 h1; subst h0 h1; rfl

structure api_Path where
  Who : Idn
  N : Int
deriving DecidableEq
def api_Path.enc (x : api_Path) : Array Value := catA [(x.Who).enc, #[Value.int .i64 x.N]]
theorem api_Path.size (x : api_Path) : x.enc.size = 17 := by rw [api_Path.enc, catA_size]; simp [szs, Idn.size]
theorem api_Path.one (x : api_Path) : Ones x.enc := Ones.cat (by
  intro p hp
  simp only [List.mem_cons, List.not_mem_nil, or_false] at hp
  rcases hp with rfl | rfl
  · exact Idn.one _
  · exact Ones.single rfl)
theorem api_Path.pl (x : api_Path) : Pl x.enc := Pl.cat (by
  intro p hp
  simp only [List.mem_cons, List.not_mem_nil, or_false] at hp
  rcases hp with rfl | rfl
  · exact Idn.pl _
  · exact Pl.single rfl)
theorem api_Path.s_Who (x : api_Path) : Sel x.enc 0 16 ((x.Who).enc) := Sel.cat [] ((x.Who).enc) [#[Value.int .i64 x.N]] (rfl) (Idn.size _)
theorem api_Path.u_Who (x : api_Path) (v : Idn) : Upd x.enc 0 (v.enc) (api_Path.enc { x with Who := v }) := Upd.cat [] ((x.Who).enc) (v.enc) [#[Value.int .i64 x.N]] (rfl) (by simp [Idn.size])
theorem api_Path.s_N (x : api_Path) : Sel x.enc 16 1 (#[Value.int .i64 x.N]) := Sel.cat [(x.Who).enc] (#[Value.int .i64 x.N]) [] (by simp [szs, Idn.size]) (rfl)
theorem api_Path.u_N (x : api_Path) (v : Int) : Upd x.enc 16 (#[Value.int .i64 v]) (api_Path.enc { x with N := v }) := Upd.cat [(x.Who).enc] (#[Value.int .i64 x.N]) (#[Value.int .i64 v]) [] (by simp [szs, Idn.size]) (rfl)
theorem api_Path.g_N (x : api_Path) : x.enc[16]? = some (Value.int .i64 x.N) := (api_Path.s_N x).one
def api_Path.zero : api_Path := ⟨Idn.zero, 0⟩
theorem api_Path.inj {x y : api_Path} (h : x.enc = y.enc) : x = y := by
  have h0 := Idn.enc_inj (((api_Path.s_Who x).2.symm.trans (by rw [h])).trans (api_Path.s_Who y).2)
  have h1 := Option.some.inj (((api_Path.g_N x).symm.trans (by rw [h])).trans (api_Path.g_N y))
  simp only [Value.int.injEq, true_and] at h1
  cases x; cases y; simp only at h0 h1; subst h0 h1; rfl

structure api_Entry where
  P : api_Path
  A : Idn
  B : Idn
  Na : Int
  Nb : Int
deriving DecidableEq
def api_Entry.enc (x : api_Entry) : Array Value := catA [(x.P).enc, (x.A).enc, (x.B).enc, #[Value.int .i64 x.Na], #[Value.int .i64 x.Nb]]
theorem api_Entry.size (x : api_Entry) : x.enc.size = 51 := by rw [api_Entry.enc, catA_size]; simp [szs, api_Path.size, Idn.size]
theorem api_Entry.one (x : api_Entry) : Ones x.enc := Ones.cat (by
  intro p hp
  simp only [List.mem_cons, List.not_mem_nil, or_false] at hp
  rcases hp with rfl | rfl | rfl | rfl | rfl
  · exact api_Path.one _
  · exact Idn.one _
  · exact Idn.one _
  · exact Ones.single rfl
  · exact Ones.single rfl)
theorem api_Entry.pl (x : api_Entry) : Pl x.enc := Pl.cat (by
  intro p hp
  simp only [List.mem_cons, List.not_mem_nil, or_false] at hp
  rcases hp with rfl | rfl | rfl | rfl | rfl
  · exact api_Path.pl _
  · exact Idn.pl _
  · exact Idn.pl _
  · exact Pl.single rfl
  · exact Pl.single rfl)
theorem api_Entry.s_P (x : api_Entry) : Sel x.enc 0 17 ((x.P).enc) := Sel.cat [] ((x.P).enc) [(x.A).enc, (x.B).enc, #[Value.int .i64 x.Na], #[Value.int .i64 x.Nb]] (rfl) (api_Path.size _)
theorem api_Entry.u_P (x : api_Entry) (v : api_Path) : Upd x.enc 0 (v.enc) (api_Entry.enc { x with P := v }) := Upd.cat [] ((x.P).enc) (v.enc) [(x.A).enc, (x.B).enc, #[Value.int .i64 x.Na], #[Value.int .i64 x.Nb]] (rfl) (by simp [api_Path.size])
theorem api_Entry.s_A (x : api_Entry) : Sel x.enc 17 16 ((x.A).enc) := Sel.cat [(x.P).enc] ((x.A).enc) [(x.B).enc, #[Value.int .i64 x.Na], #[Value.int .i64 x.Nb]] (by simp [szs, api_Path.size]) (Idn.size _)
theorem api_Entry.u_A (x : api_Entry) (v : Idn) : Upd x.enc 17 (v.enc) (api_Entry.enc { x with A := v }) := Upd.cat [(x.P).enc] ((x.A).enc) (v.enc) [(x.B).enc, #[Value.int .i64 x.Na], #[Value.int .i64 x.Nb]] (by simp [szs, api_Path.size]) (by simp [Idn.size])
theorem api_Entry.s_B (x : api_Entry) : Sel x.enc 33 16 ((x.B).enc) := Sel.cat [(x.P).enc, (x.A).enc] ((x.B).enc) [#[Value.int .i64 x.Na], #[Value.int .i64 x.Nb]] (by simp [szs, api_Path.size, Idn.size]) (Idn.size _)
theorem api_Entry.u_B (x : api_Entry) (v : Idn) : Upd x.enc 33 (v.enc) (api_Entry.enc { x with B := v }) := Upd.cat [(x.P).enc, (x.A).enc] ((x.B).enc) (v.enc) [#[Value.int .i64 x.Na], #[Value.int .i64 x.Nb]] (by simp [szs, api_Path.size, Idn.size]) (by simp [Idn.size])
theorem api_Entry.s_Na (x : api_Entry) : Sel x.enc 49 1 (#[Value.int .i64 x.Na]) := Sel.cat [(x.P).enc, (x.A).enc, (x.B).enc] (#[Value.int .i64 x.Na]) [#[Value.int .i64 x.Nb]] (by simp [szs, api_Path.size, Idn.size]) (rfl)
theorem api_Entry.u_Na (x : api_Entry) (v : Int) : Upd x.enc 49 (#[Value.int .i64 v]) (api_Entry.enc { x with Na := v }) := Upd.cat [(x.P).enc, (x.A).enc, (x.B).enc] (#[Value.int .i64 x.Na]) (#[Value.int .i64 v]) [#[Value.int .i64 x.Nb]] (by simp [szs, api_Path.size, Idn.size]) (rfl)
theorem api_Entry.g_Na (x : api_Entry) : x.enc[49]? = some (Value.int .i64 x.Na) := (api_Entry.s_Na x).one
theorem api_Entry.s_Nb (x : api_Entry) : Sel x.enc 50 1 (#[Value.int .i64 x.Nb]) := Sel.cat [(x.P).enc, (x.A).enc, (x.B).enc, #[Value.int .i64 x.Na]] (#[Value.int .i64 x.Nb]) [] (by simp [szs, api_Path.size, Idn.size]) (rfl)
theorem api_Entry.u_Nb (x : api_Entry) (v : Int) : Upd x.enc 50 (#[Value.int .i64 v]) (api_Entry.enc { x with Nb := v }) := Upd.cat [(x.P).enc, (x.A).enc, (x.B).enc, #[Value.int .i64 x.Na]] (#[Value.int .i64 x.Nb]) (#[Value.int .i64 v]) [] (by simp [szs, api_Path.size, Idn.size]) (rfl)
theorem api_Entry.g_Nb (x : api_Entry) : x.enc[50]? = some (Value.int .i64 x.Nb) := (api_Entry.s_Nb x).one
theorem api_Entry.s_P_Who (x : api_Entry) : Sel x.enc 0 16 (x.P.Who.enc) := (api_Entry.s_P x).trans (api_Path.s_Who _)
theorem api_Entry.u_P_Who (x : api_Entry) (v : Idn) : Upd x.enc 0 (v.enc) (api_Entry.enc { x with P := { x.P with Who := v } }) := Upd.trans (o := 0) (o' := 0) (api_Entry.s_P x) (api_Path.u_Who _ v) (by simp [Idn.size]) (api_Entry.u_P x _)
theorem api_Entry.g_P_N (x : api_Entry) : x.enc[16]? = some (Value.int .i64 x.P.N) := (api_Entry.s_P x).get (api_Path.g_N _)
theorem api_Entry.u_P_N (x : api_Entry) (v : Int) : Upd x.enc 16 (#[Value.int .i64 v]) (api_Entry.enc { x with P := { x.P with N := v } }) := Upd.trans (o := 0) (o' := 16) (api_Entry.s_P x) (api_Path.u_N _ v) (by simp) (api_Entry.u_P x _)
def api_Entry.zero : api_Entry := ⟨api_Path.zero, Idn.zero, Idn.zero, 0, 0⟩
theorem api_Entry.inj {x y : api_Entry} (h : x.enc = y.enc) : x = y := by
  have h0 := api_Path.inj (((api_Entry.s_P x).2.symm.trans (by rw [h])).trans (api_Entry.s_P y).2)
  have h1 := Idn.enc_inj (((api_Entry.s_A x).2.symm.trans (by rw [h])).trans (api_Entry.s_A y).2)
  have h2 := Idn.enc_inj (((api_Entry.s_B x).2.symm.trans (by rw [h])).trans (api_Entry.s_B y).2)
  have h3 := Option.some.inj (((api_Entry.g_Na x).symm.trans (by rw [h])).trans (api_Entry.g_Na y))
  simp only [Value.int.injEq, true_and] at h3
  have h4 := Option.some.inj (((api_Entry.g_Nb x).symm.trans (by rw [h])).trans (api_Entry.g_Nb y))
  simp only [Value.int.injEq, true_and] at h4
  cases x; cases y; simp only at h0 h1 h2 h3 h4; subst h0 h1 h2 h3 h4; rfl

structure annuletref12_Table where
  L : Slv
  Most : Int
deriving DecidableEq
def annuletref12_Table.enc (x : annuletref12_Table) : Array Value := catA [#[x.L.v], #[Value.int .i64 x.Most]]
theorem annuletref12_Table.size (x : annuletref12_Table) : x.enc.size = 2 := by rw [annuletref12_Table.enc, catA_size]; simp [szs]
theorem annuletref12_Table.one (x : annuletref12_Table) : Ones x.enc := Ones.cat (by
  intro p hp
  simp only [List.mem_cons, List.not_mem_nil, or_false] at hp
  rcases hp with rfl | rfl
  · exact Ones.single rfl
  · exact Ones.single rfl)
theorem annuletref12_Table.s_L (x : annuletref12_Table) : Sel x.enc 0 1 (#[x.L.v]) := Sel.cat [] (#[x.L.v]) [#[Value.int .i64 x.Most]] (rfl) (rfl)
theorem annuletref12_Table.u_L (x : annuletref12_Table) (v : Slv) : Upd x.enc 0 (#[v.v]) (annuletref12_Table.enc { x with L := v }) := Upd.cat [] (#[x.L.v]) (#[v.v]) [#[Value.int .i64 x.Most]] (rfl) (rfl)
theorem annuletref12_Table.g_L (x : annuletref12_Table) : x.enc[0]? = some (x.L.v) := (annuletref12_Table.s_L x).one
theorem annuletref12_Table.s_Most (x : annuletref12_Table) : Sel x.enc 1 1 (#[Value.int .i64 x.Most]) := Sel.cat [#[x.L.v]] (#[Value.int .i64 x.Most]) [] (by simp [szs]) (rfl)
theorem annuletref12_Table.u_Most (x : annuletref12_Table) (v : Int) : Upd x.enc 1 (#[Value.int .i64 v]) (annuletref12_Table.enc { x with Most := v }) := Upd.cat [#[x.L.v]] (#[Value.int .i64 x.Most]) (#[Value.int .i64 v]) [] (by simp [szs]) (rfl)
theorem annuletref12_Table.g_Most (x : annuletref12_Table) : x.enc[1]? = some (Value.int .i64 x.Most) := (annuletref12_Table.s_Most x).one
def annuletref12_Table.zero : annuletref12_Table := ⟨⟨none, 0, 0⟩, 0⟩
theorem annuletref12_Table.inj {x y : annuletref12_Table} (h : x.enc = y.enc) : x = y := by
  have h0 := Option.some.inj (((annuletref12_Table.g_L x).symm.trans (by rw [h])).trans (annuletref12_Table.g_L y))
  replace h0 := Slv.v_inj h0
  have h1 := Option.some.inj (((annuletref12_Table.g_Most x).symm.trans (by rw [h])).trans (annuletref12_Table.g_Most y))
  simp only [Value.int.injEq, true_and] at h1
  cases x; cases y; simp only at h0 h1; subst h0 h1; rfl

structure tear_Torn where
  Out : Slv
  Lost : Slv
deriving DecidableEq
def tear_Torn.enc (x : tear_Torn) : Array Value := catA [#[x.Out.v], #[x.Lost.v]]
theorem tear_Torn.size (x : tear_Torn) : x.enc.size = 2 := by rw [tear_Torn.enc, catA_size]; simp [szs]
theorem tear_Torn.one (x : tear_Torn) : Ones x.enc := Ones.cat (by
  intro p hp
  simp only [List.mem_cons, List.not_mem_nil, or_false] at hp
  rcases hp with rfl | rfl
  · exact Ones.single rfl
  · exact Ones.single rfl)
theorem tear_Torn.s_Out (x : tear_Torn) : Sel x.enc 0 1 (#[x.Out.v]) := Sel.cat [] (#[x.Out.v]) [#[x.Lost.v]] (rfl) (rfl)
theorem tear_Torn.u_Out (x : tear_Torn) (v : Slv) : Upd x.enc 0 (#[v.v]) (tear_Torn.enc { x with Out := v }) := Upd.cat [] (#[x.Out.v]) (#[v.v]) [#[x.Lost.v]] (rfl) (rfl)
theorem tear_Torn.g_Out (x : tear_Torn) : x.enc[0]? = some (x.Out.v) := (tear_Torn.s_Out x).one
theorem tear_Torn.s_Lost (x : tear_Torn) : Sel x.enc 1 1 (#[x.Lost.v]) := Sel.cat [#[x.Out.v]] (#[x.Lost.v]) [] (by simp [szs]) (rfl)
theorem tear_Torn.u_Lost (x : tear_Torn) (v : Slv) : Upd x.enc 1 (#[v.v]) (tear_Torn.enc { x with Lost := v }) := Upd.cat [#[x.Out.v]] (#[x.Lost.v]) (#[v.v]) [] (by simp [szs]) (rfl)
theorem tear_Torn.g_Lost (x : tear_Torn) : x.enc[1]? = some (x.Lost.v) := (tear_Torn.s_Lost x).one
def tear_Torn.zero : tear_Torn := ⟨⟨none, 0, 0⟩, ⟨none, 0, 0⟩⟩
theorem tear_Torn.inj {x y : tear_Torn} (h : x.enc = y.enc) : x = y := by
  have h0 := Option.some.inj (((tear_Torn.g_Out x).symm.trans (by rw [h])).trans (tear_Torn.g_Out y))
  replace h0 := Slv.v_inj h0
  have h1 := Option.some.inj (((tear_Torn.g_Lost x).symm.trans (by rw [h])).trans (tear_Torn.g_Lost y))
  replace h1 := Slv.v_inj h1
  cases x; cases y; simp only at h0 h1; subst h0 h1; rfl

structure api_Num where
  Inc : Int
  N : Int
deriving DecidableEq
def api_Num.enc (x : api_Num) : Array Value := catA [#[Value.int .i64 x.Inc], #[Value.int .i64 x.N]]
theorem api_Num.size (x : api_Num) : x.enc.size = 2 := by rw [api_Num.enc, catA_size]; simp [szs]
theorem api_Num.one (x : api_Num) : Ones x.enc := Ones.cat (by
  intro p hp
  simp only [List.mem_cons, List.not_mem_nil, or_false] at hp
  rcases hp with rfl | rfl
  · exact Ones.single rfl
  · exact Ones.single rfl)
theorem api_Num.pl (x : api_Num) : Pl x.enc := Pl.cat (by
  intro p hp
  simp only [List.mem_cons, List.not_mem_nil, or_false] at hp
  rcases hp with rfl | rfl
  · exact Pl.single rfl
  · exact Pl.single rfl)
theorem api_Num.s_Inc (x : api_Num) : Sel x.enc 0 1 (#[Value.int .i64 x.Inc]) := Sel.cat [] (#[Value.int .i64 x.Inc]) [#[Value.int .i64 x.N]] (rfl) (rfl)
theorem api_Num.u_Inc (x : api_Num) (v : Int) : Upd x.enc 0 (#[Value.int .i64 v]) (api_Num.enc { x with Inc := v }) := Upd.cat [] (#[Value.int .i64 x.Inc]) (#[Value.int .i64 v]) [#[Value.int .i64 x.N]] (rfl) (rfl)
theorem api_Num.g_Inc (x : api_Num) : x.enc[0]? = some (Value.int .i64 x.Inc) := (api_Num.s_Inc x).one
theorem api_Num.s_N (x : api_Num) : Sel x.enc 1 1 (#[Value.int .i64 x.N]) := Sel.cat [#[Value.int .i64 x.Inc]] (#[Value.int .i64 x.N]) [] (by simp [szs]) (rfl)
theorem api_Num.u_N (x : api_Num) (v : Int) : Upd x.enc 1 (#[Value.int .i64 v]) (api_Num.enc { x with N := v }) := Upd.cat [#[Value.int .i64 x.Inc]] (#[Value.int .i64 x.N]) (#[Value.int .i64 v]) [] (by simp [szs]) (rfl)
theorem api_Num.g_N (x : api_Num) : x.enc[1]? = some (Value.int .i64 x.N) := (api_Num.s_N x).one
def api_Num.zero : api_Num := ⟨0, 0⟩
theorem api_Num.inj {x y : api_Num} (h : x.enc = y.enc) : x = y := by
  have h0 := Option.some.inj (((api_Num.g_Inc x).symm.trans (by rw [h])).trans (api_Num.g_Inc y))
  simp only [Value.int.injEq, true_and] at h0
  have h1 := Option.some.inj (((api_Num.g_N x).symm.trans (by rw [h])).trans (api_Num.g_N y))
  simp only [Value.int.injEq, true_and] at h1
  cases x; cases y; simp only at h0 h1; subst h0 h1; rfl

structure api_Ver where
  N : Int
  Who : Idn
deriving DecidableEq
def api_Ver.enc (x : api_Ver) : Array Value := catA [#[Value.int .i64 x.N], (x.Who).enc]
theorem api_Ver.size (x : api_Ver) : x.enc.size = 17 := by rw [api_Ver.enc, catA_size]; simp [szs, Idn.size]
theorem api_Ver.one (x : api_Ver) : Ones x.enc := Ones.cat (by
  intro p hp
  simp only [List.mem_cons, List.not_mem_nil, or_false] at hp
  rcases hp with rfl | rfl
  · exact Ones.single rfl
  · exact Idn.one _)
theorem api_Ver.pl (x : api_Ver) : Pl x.enc := Pl.cat (by
  intro p hp
  simp only [List.mem_cons, List.not_mem_nil, or_false] at hp
  rcases hp with rfl | rfl
  · exact Pl.single rfl
  · exact Idn.pl _)
theorem api_Ver.s_N (x : api_Ver) : Sel x.enc 0 1 (#[Value.int .i64 x.N]) := Sel.cat [] (#[Value.int .i64 x.N]) [(x.Who).enc] (rfl) (rfl)
theorem api_Ver.u_N (x : api_Ver) (v : Int) : Upd x.enc 0 (#[Value.int .i64 v]) (api_Ver.enc { x with N := v }) := Upd.cat [] (#[Value.int .i64 x.N]) (#[Value.int .i64 v]) [(x.Who).enc] (rfl) (rfl)
theorem api_Ver.g_N (x : api_Ver) : x.enc[0]? = some (Value.int .i64 x.N) := (api_Ver.s_N x).one
theorem api_Ver.s_Who (x : api_Ver) : Sel x.enc 1 16 ((x.Who).enc) := Sel.cat [#[Value.int .i64 x.N]] ((x.Who).enc) [] (by simp [szs]) (Idn.size _)
theorem api_Ver.u_Who (x : api_Ver) (v : Idn) : Upd x.enc 1 (v.enc) (api_Ver.enc { x with Who := v }) := Upd.cat [#[Value.int .i64 x.N]] ((x.Who).enc) (v.enc) [] (by simp [szs]) (by simp [Idn.size])
def api_Ver.zero : api_Ver := ⟨0, Idn.zero⟩
theorem api_Ver.inj {x y : api_Ver} (h : x.enc = y.enc) : x = y := by
  have h0 := Option.some.inj (((api_Ver.g_N x).symm.trans (by rw [h])).trans (api_Ver.g_N y))
  simp only [Value.int.injEq, true_and] at h0
  have h1 := Idn.enc_inj (((api_Ver.s_Who x).2.symm.trans (by rw [h])).trans (api_Ver.s_Who y).2)
  cases x; cases y; simp only at h0 h1; subst h0 h1; rfl

structure api_Item where
  Key : Idn
  Ver : api_Ver
  Val : Slv
deriving DecidableEq
def api_Item.enc (x : api_Item) : Array Value := catA [(x.Key).enc, (x.Ver).enc, #[x.Val.v]]
theorem api_Item.size (x : api_Item) : x.enc.size = 34 := by rw [api_Item.enc, catA_size]; simp [szs, Idn.size, api_Ver.size]
theorem api_Item.one (x : api_Item) : Ones x.enc := Ones.cat (by
  intro p hp
  simp only [List.mem_cons, List.not_mem_nil, or_false] at hp
  rcases hp with rfl | rfl | rfl
  · exact Idn.one _
  · exact api_Ver.one _
  · exact Ones.single rfl)
theorem api_Item.s_Key (x : api_Item) : Sel x.enc 0 16 ((x.Key).enc) := Sel.cat [] ((x.Key).enc) [(x.Ver).enc, #[x.Val.v]] (rfl) (Idn.size _)
theorem api_Item.u_Key (x : api_Item) (v : Idn) : Upd x.enc 0 (v.enc) (api_Item.enc { x with Key := v }) := Upd.cat [] ((x.Key).enc) (v.enc) [(x.Ver).enc, #[x.Val.v]] (rfl) (by simp [Idn.size])
theorem api_Item.s_Ver (x : api_Item) : Sel x.enc 16 17 ((x.Ver).enc) := Sel.cat [(x.Key).enc] ((x.Ver).enc) [#[x.Val.v]] (by simp [szs, Idn.size]) (api_Ver.size _)
theorem api_Item.u_Ver (x : api_Item) (v : api_Ver) : Upd x.enc 16 (v.enc) (api_Item.enc { x with Ver := v }) := Upd.cat [(x.Key).enc] ((x.Ver).enc) (v.enc) [#[x.Val.v]] (by simp [szs, Idn.size]) (by simp [api_Ver.size])
theorem api_Item.s_Val (x : api_Item) : Sel x.enc 33 1 (#[x.Val.v]) := Sel.cat [(x.Key).enc, (x.Ver).enc] (#[x.Val.v]) [] (by simp [szs, Idn.size, api_Ver.size]) (rfl)
theorem api_Item.u_Val (x : api_Item) (v : Slv) : Upd x.enc 33 (#[v.v]) (api_Item.enc { x with Val := v }) := Upd.cat [(x.Key).enc, (x.Ver).enc] (#[x.Val.v]) (#[v.v]) [] (by simp [szs, Idn.size, api_Ver.size]) (rfl)
theorem api_Item.g_Val (x : api_Item) : x.enc[33]? = some (x.Val.v) := (api_Item.s_Val x).one
theorem api_Item.g_Ver_N (x : api_Item) : x.enc[16]? = some (Value.int .i64 x.Ver.N) := (api_Item.s_Ver x).get (api_Ver.g_N _)
theorem api_Item.u_Ver_N (x : api_Item) (v : Int) : Upd x.enc 16 (#[Value.int .i64 v]) (api_Item.enc { x with Ver := { x.Ver with N := v } }) := Upd.trans (o := 16) (o' := 0) (api_Item.s_Ver x) (api_Ver.u_N _ v) (by simp) (api_Item.u_Ver x _)
theorem api_Item.s_Ver_Who (x : api_Item) : Sel x.enc 17 16 (x.Ver.Who.enc) := (api_Item.s_Ver x).trans (api_Ver.s_Who _)
theorem api_Item.u_Ver_Who (x : api_Item) (v : Idn) : Upd x.enc 17 (v.enc) (api_Item.enc { x with Ver := { x.Ver with Who := v } }) := Upd.trans (o := 16) (o' := 1) (api_Item.s_Ver x) (api_Ver.u_Who _ v) (by simp [Idn.size]) (api_Item.u_Ver x _)
def api_Item.zero : api_Item := ⟨Idn.zero, api_Ver.zero, ⟨none, 0, 0⟩⟩
theorem api_Item.inj {x y : api_Item} (h : x.enc = y.enc) : x = y := by
  have h0 := Idn.enc_inj (((api_Item.s_Key x).2.symm.trans (by rw [h])).trans (api_Item.s_Key y).2)
  have h1 := api_Ver.inj (((api_Item.s_Ver x).2.symm.trans (by rw [h])).trans (api_Item.s_Ver y).2)
  have h2 := Option.some.inj (((api_Item.g_Val x).symm.trans (by rw [h])).trans (api_Item.g_Val y))
  replace h2 := Slv.v_inj h2
  cases x; cases y; simp only at h0 h1 h2; subst h0 h1 h2; rfl

structure api_Frame where
  Kind : Int
  P : api_Path
  ToA : Bool
  A : Idn
  B : Idn
  N : Int
  From : api_Num
  To : api_Num
  Trail : Slv
  IDs : Slv
  Itm : api_Item
  Op : Int
  TTL : Int
  Text : Slv
deriving DecidableEq
def api_Frame.enc (x : api_Frame) : Array Value := catA [#[Value.int .i64 x.Kind], (x.P).enc, #[Value.bool x.ToA], (x.A).enc, (x.B).enc, #[Value.int .i64 x.N], (x.From).enc, (x.To).enc, #[x.Trail.v], #[x.IDs.v], (x.Itm).enc, #[Value.int .i64 x.Op], #[Value.int .i64 x.TTL], #[x.Text.v]]
theorem api_Frame.size (x : api_Frame) : x.enc.size = 95 := by rw [api_Frame.enc, catA_size]; simp [szs, api_Path.size, Idn.size, api_Num.size, api_Item.size]
theorem api_Frame.one (x : api_Frame) : Ones x.enc := Ones.cat (by
  intro p hp
  simp only [List.mem_cons, List.not_mem_nil, or_false] at hp
  rcases hp with rfl | rfl | rfl | rfl | rfl | rfl | rfl | rfl | rfl | rfl | rfl | rfl | rfl | rfl
  · exact Ones.single rfl
  · exact api_Path.one _
  · exact Ones.single rfl
  · exact Idn.one _
  · exact Idn.one _
  · exact Ones.single rfl
  · exact api_Num.one _
  · exact api_Num.one _
  · exact Ones.single rfl
  · exact Ones.single rfl
  · exact api_Item.one _
  · exact Ones.single rfl
  · exact Ones.single rfl
  · exact Ones.single rfl)
theorem api_Frame.s_Kind (x : api_Frame) : Sel x.enc 0 1 (#[Value.int .i64 x.Kind]) := Sel.cat [] (#[Value.int .i64 x.Kind]) [(x.P).enc, #[Value.bool x.ToA], (x.A).enc, (x.B).enc, #[Value.int .i64 x.N], (x.From).enc, (x.To).enc, #[x.Trail.v], #[x.IDs.v], (x.Itm).enc, #[Value.int .i64 x.Op], #[Value.int .i64 x.TTL], #[x.Text.v]] (rfl) (rfl)
theorem api_Frame.u_Kind (x : api_Frame) (v : Int) : Upd x.enc 0 (#[Value.int .i64 v]) (api_Frame.enc { x with Kind := v }) := Upd.cat [] (#[Value.int .i64 x.Kind]) (#[Value.int .i64 v]) [(x.P).enc, #[Value.bool x.ToA], (x.A).enc, (x.B).enc, #[Value.int .i64 x.N], (x.From).enc, (x.To).enc, #[x.Trail.v], #[x.IDs.v], (x.Itm).enc, #[Value.int .i64 x.Op], #[Value.int .i64 x.TTL], #[x.Text.v]] (rfl) (rfl)
theorem api_Frame.g_Kind (x : api_Frame) : x.enc[0]? = some (Value.int .i64 x.Kind) := (api_Frame.s_Kind x).one
theorem api_Frame.s_P (x : api_Frame) : Sel x.enc 1 17 ((x.P).enc) := Sel.cat [#[Value.int .i64 x.Kind]] ((x.P).enc) [#[Value.bool x.ToA], (x.A).enc, (x.B).enc, #[Value.int .i64 x.N], (x.From).enc, (x.To).enc, #[x.Trail.v], #[x.IDs.v], (x.Itm).enc, #[Value.int .i64 x.Op], #[Value.int .i64 x.TTL], #[x.Text.v]] (by simp [szs]) (api_Path.size _)
theorem api_Frame.u_P (x : api_Frame) (v : api_Path) : Upd x.enc 1 (v.enc) (api_Frame.enc { x with P := v }) := Upd.cat [#[Value.int .i64 x.Kind]] ((x.P).enc) (v.enc) [#[Value.bool x.ToA], (x.A).enc, (x.B).enc, #[Value.int .i64 x.N], (x.From).enc, (x.To).enc, #[x.Trail.v], #[x.IDs.v], (x.Itm).enc, #[Value.int .i64 x.Op], #[Value.int .i64 x.TTL], #[x.Text.v]] (by simp [szs]) (by simp [api_Path.size])
theorem api_Frame.s_ToA (x : api_Frame) : Sel x.enc 18 1 (#[Value.bool x.ToA]) := Sel.cat [#[Value.int .i64 x.Kind], (x.P).enc] (#[Value.bool x.ToA]) [(x.A).enc, (x.B).enc, #[Value.int .i64 x.N], (x.From).enc, (x.To).enc, #[x.Trail.v], #[x.IDs.v], (x.Itm).enc, #[Value.int .i64 x.Op], #[Value.int .i64 x.TTL], #[x.Text.v]] (by simp [szs, api_Path.size]) (rfl)
theorem api_Frame.u_ToA (x : api_Frame) (v : Bool) : Upd x.enc 18 (#[Value.bool v]) (api_Frame.enc { x with ToA := v }) := Upd.cat [#[Value.int .i64 x.Kind], (x.P).enc] (#[Value.bool x.ToA]) (#[Value.bool v]) [(x.A).enc, (x.B).enc, #[Value.int .i64 x.N], (x.From).enc, (x.To).enc, #[x.Trail.v], #[x.IDs.v], (x.Itm).enc, #[Value.int .i64 x.Op], #[Value.int .i64 x.TTL], #[x.Text.v]] (by simp [szs, api_Path.size]) (rfl)
theorem api_Frame.g_ToA (x : api_Frame) : x.enc[18]? = some (Value.bool x.ToA) := (api_Frame.s_ToA x).one
theorem api_Frame.s_A (x : api_Frame) : Sel x.enc 19 16 ((x.A).enc) := Sel.cat [#[Value.int .i64 x.Kind], (x.P).enc, #[Value.bool x.ToA]] ((x.A).enc) [(x.B).enc, #[Value.int .i64 x.N], (x.From).enc, (x.To).enc, #[x.Trail.v], #[x.IDs.v], (x.Itm).enc, #[Value.int .i64 x.Op], #[Value.int .i64 x.TTL], #[x.Text.v]] (by simp [szs, api_Path.size]) (Idn.size _)
theorem api_Frame.u_A (x : api_Frame) (v : Idn) : Upd x.enc 19 (v.enc) (api_Frame.enc { x with A := v }) := Upd.cat [#[Value.int .i64 x.Kind], (x.P).enc, #[Value.bool x.ToA]] ((x.A).enc) (v.enc) [(x.B).enc, #[Value.int .i64 x.N], (x.From).enc, (x.To).enc, #[x.Trail.v], #[x.IDs.v], (x.Itm).enc, #[Value.int .i64 x.Op], #[Value.int .i64 x.TTL], #[x.Text.v]] (by simp [szs, api_Path.size]) (by simp [Idn.size])
theorem api_Frame.s_B (x : api_Frame) : Sel x.enc 35 16 ((x.B).enc) := Sel.cat [#[Value.int .i64 x.Kind], (x.P).enc, #[Value.bool x.ToA], (x.A).enc] ((x.B).enc) [#[Value.int .i64 x.N], (x.From).enc, (x.To).enc, #[x.Trail.v], #[x.IDs.v], (x.Itm).enc, #[Value.int .i64 x.Op], #[Value.int .i64 x.TTL], #[x.Text.v]] (by simp [szs, api_Path.size, Idn.size]) (Idn.size _)
theorem api_Frame.u_B (x : api_Frame) (v : Idn) : Upd x.enc 35 (v.enc) (api_Frame.enc { x with B := v }) := Upd.cat [#[Value.int .i64 x.Kind], (x.P).enc, #[Value.bool x.ToA], (x.A).enc] ((x.B).enc) (v.enc) [#[Value.int .i64 x.N], (x.From).enc, (x.To).enc, #[x.Trail.v], #[x.IDs.v], (x.Itm).enc, #[Value.int .i64 x.Op], #[Value.int .i64 x.TTL], #[x.Text.v]] (by simp [szs, api_Path.size, Idn.size]) (by simp [Idn.size])
theorem api_Frame.s_N (x : api_Frame) : Sel x.enc 51 1 (#[Value.int .i64 x.N]) := Sel.cat [#[Value.int .i64 x.Kind], (x.P).enc, #[Value.bool x.ToA], (x.A).enc, (x.B).enc] (#[Value.int .i64 x.N]) [(x.From).enc, (x.To).enc, #[x.Trail.v], #[x.IDs.v], (x.Itm).enc, #[Value.int .i64 x.Op], #[Value.int .i64 x.TTL], #[x.Text.v]] (by simp [szs, api_Path.size, Idn.size]) (rfl)
theorem api_Frame.u_N (x : api_Frame) (v : Int) : Upd x.enc 51 (#[Value.int .i64 v]) (api_Frame.enc { x with N := v }) := Upd.cat [#[Value.int .i64 x.Kind], (x.P).enc, #[Value.bool x.ToA], (x.A).enc, (x.B).enc] (#[Value.int .i64 x.N]) (#[Value.int .i64 v]) [(x.From).enc, (x.To).enc, #[x.Trail.v], #[x.IDs.v], (x.Itm).enc, #[Value.int .i64 x.Op], #[Value.int .i64 x.TTL], #[x.Text.v]] (by simp [szs, api_Path.size, Idn.size]) (rfl)
theorem api_Frame.g_N (x : api_Frame) : x.enc[51]? = some (Value.int .i64 x.N) := (api_Frame.s_N x).one
theorem api_Frame.s_From (x : api_Frame) : Sel x.enc 52 2 ((x.From).enc) := Sel.cat [#[Value.int .i64 x.Kind], (x.P).enc, #[Value.bool x.ToA], (x.A).enc, (x.B).enc, #[Value.int .i64 x.N]] ((x.From).enc) [(x.To).enc, #[x.Trail.v], #[x.IDs.v], (x.Itm).enc, #[Value.int .i64 x.Op], #[Value.int .i64 x.TTL], #[x.Text.v]] (by simp [szs, api_Path.size, Idn.size]) (api_Num.size _)
theorem api_Frame.u_From (x : api_Frame) (v : api_Num) : Upd x.enc 52 (v.enc) (api_Frame.enc { x with From := v }) := Upd.cat [#[Value.int .i64 x.Kind], (x.P).enc, #[Value.bool x.ToA], (x.A).enc, (x.B).enc, #[Value.int .i64 x.N]] ((x.From).enc) (v.enc) [(x.To).enc, #[x.Trail.v], #[x.IDs.v], (x.Itm).enc, #[Value.int .i64 x.Op], #[Value.int .i64 x.TTL], #[x.Text.v]] (by simp [szs, api_Path.size, Idn.size]) (by simp [api_Num.size])
theorem api_Frame.s_To (x : api_Frame) : Sel x.enc 54 2 ((x.To).enc) := Sel.cat [#[Value.int .i64 x.Kind], (x.P).enc, #[Value.bool x.ToA], (x.A).enc, (x.B).enc, #[Value.int .i64 x.N], (x.From).enc] ((x.To).enc) [#[x.Trail.v], #[x.IDs.v], (x.Itm).enc, #[Value.int .i64 x.Op], #[Value.int .i64 x.TTL], #[x.Text.v]] (by simp [szs, api_Path.size, Idn.size, api_Num.size]) (api_Num.size _)
theorem api_Frame.u_To (x : api_Frame) (v : api_Num) : Upd x.enc 54 (v.enc) (api_Frame.enc { x with To := v }) := Upd.cat [#[Value.int .i64 x.Kind], (x.P).enc, #[Value.bool x.ToA], (x.A).enc, (x.B).enc, #[Value.int .i64 x.N], (x.From).enc] ((x.To).enc) (v.enc) [#[x.Trail.v], #[x.IDs.v], (x.Itm).enc, #[Value.int .i64 x.Op], #[Value.int .i64 x.TTL], #[x.Text.v]] (by simp [szs, api_Path.size, Idn.size, api_Num.size]) (by simp [api_Num.size])
theorem api_Frame.s_Trail (x : api_Frame) : Sel x.enc 56 1 (#[x.Trail.v]) := Sel.cat [#[Value.int .i64 x.Kind], (x.P).enc, #[Value.bool x.ToA], (x.A).enc, (x.B).enc, #[Value.int .i64 x.N], (x.From).enc, (x.To).enc] (#[x.Trail.v]) [#[x.IDs.v], (x.Itm).enc, #[Value.int .i64 x.Op], #[Value.int .i64 x.TTL], #[x.Text.v]] (by simp [szs, api_Path.size, Idn.size, api_Num.size]) (rfl)
theorem api_Frame.u_Trail (x : api_Frame) (v : Slv) : Upd x.enc 56 (#[v.v]) (api_Frame.enc { x with Trail := v }) := Upd.cat [#[Value.int .i64 x.Kind], (x.P).enc, #[Value.bool x.ToA], (x.A).enc, (x.B).enc, #[Value.int .i64 x.N], (x.From).enc, (x.To).enc] (#[x.Trail.v]) (#[v.v]) [#[x.IDs.v], (x.Itm).enc, #[Value.int .i64 x.Op], #[Value.int .i64 x.TTL], #[x.Text.v]] (by simp [szs, api_Path.size, Idn.size, api_Num.size]) (rfl)
theorem api_Frame.g_Trail (x : api_Frame) : x.enc[56]? = some (x.Trail.v) := (api_Frame.s_Trail x).one
theorem api_Frame.s_IDs (x : api_Frame) : Sel x.enc 57 1 (#[x.IDs.v]) := Sel.cat [#[Value.int .i64 x.Kind], (x.P).enc, #[Value.bool x.ToA], (x.A).enc, (x.B).enc, #[Value.int .i64 x.N], (x.From).enc, (x.To).enc, #[x.Trail.v]] (#[x.IDs.v]) [(x.Itm).enc, #[Value.int .i64 x.Op], #[Value.int .i64 x.TTL], #[x.Text.v]] (by simp [szs, api_Path.size, Idn.size, api_Num.size]) (rfl)
theorem api_Frame.u_IDs (x : api_Frame) (v : Slv) : Upd x.enc 57 (#[v.v]) (api_Frame.enc { x with IDs := v }) := Upd.cat [#[Value.int .i64 x.Kind], (x.P).enc, #[Value.bool x.ToA], (x.A).enc, (x.B).enc, #[Value.int .i64 x.N], (x.From).enc, (x.To).enc, #[x.Trail.v]] (#[x.IDs.v]) (#[v.v]) [(x.Itm).enc, #[Value.int .i64 x.Op], #[Value.int .i64 x.TTL], #[x.Text.v]] (by simp [szs, api_Path.size, Idn.size, api_Num.size]) (rfl)
theorem api_Frame.g_IDs (x : api_Frame) : x.enc[57]? = some (x.IDs.v) := (api_Frame.s_IDs x).one
theorem api_Frame.s_Itm (x : api_Frame) : Sel x.enc 58 34 ((x.Itm).enc) := Sel.cat [#[Value.int .i64 x.Kind], (x.P).enc, #[Value.bool x.ToA], (x.A).enc, (x.B).enc, #[Value.int .i64 x.N], (x.From).enc, (x.To).enc, #[x.Trail.v], #[x.IDs.v]] ((x.Itm).enc) [#[Value.int .i64 x.Op], #[Value.int .i64 x.TTL], #[x.Text.v]] (by simp [szs, api_Path.size, Idn.size, api_Num.size]) (api_Item.size _)
theorem api_Frame.u_Itm (x : api_Frame) (v : api_Item) : Upd x.enc 58 (v.enc) (api_Frame.enc { x with Itm := v }) := Upd.cat [#[Value.int .i64 x.Kind], (x.P).enc, #[Value.bool x.ToA], (x.A).enc, (x.B).enc, #[Value.int .i64 x.N], (x.From).enc, (x.To).enc, #[x.Trail.v], #[x.IDs.v]] ((x.Itm).enc) (v.enc) [#[Value.int .i64 x.Op], #[Value.int .i64 x.TTL], #[x.Text.v]] (by simp [szs, api_Path.size, Idn.size, api_Num.size]) (by simp [api_Item.size])
theorem api_Frame.s_Op (x : api_Frame) : Sel x.enc 92 1 (#[Value.int .i64 x.Op]) := Sel.cat [#[Value.int .i64 x.Kind], (x.P).enc, #[Value.bool x.ToA], (x.A).enc, (x.B).enc, #[Value.int .i64 x.N], (x.From).enc, (x.To).enc, #[x.Trail.v], #[x.IDs.v], (x.Itm).enc] (#[Value.int .i64 x.Op]) [#[Value.int .i64 x.TTL], #[x.Text.v]] (by simp [szs, api_Path.size, Idn.size, api_Num.size, api_Item.size]) (rfl)
theorem api_Frame.u_Op (x : api_Frame) (v : Int) : Upd x.enc 92 (#[Value.int .i64 v]) (api_Frame.enc { x with Op := v }) := Upd.cat [#[Value.int .i64 x.Kind], (x.P).enc, #[Value.bool x.ToA], (x.A).enc, (x.B).enc, #[Value.int .i64 x.N], (x.From).enc, (x.To).enc, #[x.Trail.v], #[x.IDs.v], (x.Itm).enc] (#[Value.int .i64 x.Op]) (#[Value.int .i64 v]) [#[Value.int .i64 x.TTL], #[x.Text.v]] (by simp [szs, api_Path.size, Idn.size, api_Num.size, api_Item.size]) (rfl)
theorem api_Frame.g_Op (x : api_Frame) : x.enc[92]? = some (Value.int .i64 x.Op) := (api_Frame.s_Op x).one
theorem api_Frame.s_TTL (x : api_Frame) : Sel x.enc 93 1 (#[Value.int .i64 x.TTL]) := Sel.cat [#[Value.int .i64 x.Kind], (x.P).enc, #[Value.bool x.ToA], (x.A).enc, (x.B).enc, #[Value.int .i64 x.N], (x.From).enc, (x.To).enc, #[x.Trail.v], #[x.IDs.v], (x.Itm).enc, #[Value.int .i64 x.Op]] (#[Value.int .i64 x.TTL]) [#[x.Text.v]] (by simp [szs, api_Path.size, Idn.size, api_Num.size, api_Item.size]) (rfl)
theorem api_Frame.u_TTL (x : api_Frame) (v : Int) : Upd x.enc 93 (#[Value.int .i64 v]) (api_Frame.enc { x with TTL := v }) := Upd.cat [#[Value.int .i64 x.Kind], (x.P).enc, #[Value.bool x.ToA], (x.A).enc, (x.B).enc, #[Value.int .i64 x.N], (x.From).enc, (x.To).enc, #[x.Trail.v], #[x.IDs.v], (x.Itm).enc, #[Value.int .i64 x.Op]] (#[Value.int .i64 x.TTL]) (#[Value.int .i64 v]) [#[x.Text.v]] (by simp [szs, api_Path.size, Idn.size, api_Num.size, api_Item.size]) (rfl)
theorem api_Frame.g_TTL (x : api_Frame) : x.enc[93]? = some (Value.int .i64 x.TTL) := (api_Frame.s_TTL x).one
theorem api_Frame.s_Text (x : api_Frame) : Sel x.enc 94 1 (#[x.Text.v]) := Sel.cat [#[Value.int .i64 x.Kind], (x.P).enc, #[Value.bool x.ToA], (x.A).enc, (x.B).enc, #[Value.int .i64 x.N], (x.From).enc, (x.To).enc, #[x.Trail.v], #[x.IDs.v], (x.Itm).enc, #[Value.int .i64 x.Op], #[Value.int .i64 x.TTL]] (#[x.Text.v]) [] (by simp [szs, api_Path.size, Idn.size, api_Num.size, api_Item.size]) (rfl)
theorem api_Frame.u_Text (x : api_Frame) (v : Slv) : Upd x.enc 94 (#[v.v]) (api_Frame.enc { x with Text := v }) := Upd.cat [#[Value.int .i64 x.Kind], (x.P).enc, #[Value.bool x.ToA], (x.A).enc, (x.B).enc, #[Value.int .i64 x.N], (x.From).enc, (x.To).enc, #[x.Trail.v], #[x.IDs.v], (x.Itm).enc, #[Value.int .i64 x.Op], #[Value.int .i64 x.TTL]] (#[x.Text.v]) (#[v.v]) [] (by simp [szs, api_Path.size, Idn.size, api_Num.size, api_Item.size]) (rfl)
theorem api_Frame.g_Text (x : api_Frame) : x.enc[94]? = some (x.Text.v) := (api_Frame.s_Text x).one
theorem api_Frame.s_P_Who (x : api_Frame) : Sel x.enc 1 16 (x.P.Who.enc) := (api_Frame.s_P x).trans (api_Path.s_Who _)
theorem api_Frame.u_P_Who (x : api_Frame) (v : Idn) : Upd x.enc 1 (v.enc) (api_Frame.enc { x with P := { x.P with Who := v } }) := Upd.trans (o := 1) (o' := 0) (api_Frame.s_P x) (api_Path.u_Who _ v) (by simp [Idn.size]) (api_Frame.u_P x _)
theorem api_Frame.g_P_N (x : api_Frame) : x.enc[17]? = some (Value.int .i64 x.P.N) := (api_Frame.s_P x).get (api_Path.g_N _)
theorem api_Frame.u_P_N (x : api_Frame) (v : Int) : Upd x.enc 17 (#[Value.int .i64 v]) (api_Frame.enc { x with P := { x.P with N := v } }) := Upd.trans (o := 1) (o' := 16) (api_Frame.s_P x) (api_Path.u_N _ v) (by simp) (api_Frame.u_P x _)
theorem api_Frame.g_From_Inc (x : api_Frame) : x.enc[52]? = some (Value.int .i64 x.From.Inc) := (api_Frame.s_From x).get (api_Num.g_Inc _)
theorem api_Frame.u_From_Inc (x : api_Frame) (v : Int) : Upd x.enc 52 (#[Value.int .i64 v]) (api_Frame.enc { x with From := { x.From with Inc := v } }) := Upd.trans (o := 52) (o' := 0) (api_Frame.s_From x) (api_Num.u_Inc _ v) (by simp) (api_Frame.u_From x _)
theorem api_Frame.g_From_N (x : api_Frame) : x.enc[53]? = some (Value.int .i64 x.From.N) := (api_Frame.s_From x).get (api_Num.g_N _)
theorem api_Frame.u_From_N (x : api_Frame) (v : Int) : Upd x.enc 53 (#[Value.int .i64 v]) (api_Frame.enc { x with From := { x.From with N := v } }) := Upd.trans (o := 52) (o' := 1) (api_Frame.s_From x) (api_Num.u_N _ v) (by simp) (api_Frame.u_From x _)
theorem api_Frame.g_To_Inc (x : api_Frame) : x.enc[54]? = some (Value.int .i64 x.To.Inc) := (api_Frame.s_To x).get (api_Num.g_Inc _)
theorem api_Frame.u_To_Inc (x : api_Frame) (v : Int) : Upd x.enc 54 (#[Value.int .i64 v]) (api_Frame.enc { x with To := { x.To with Inc := v } }) := Upd.trans (o := 54) (o' := 0) (api_Frame.s_To x) (api_Num.u_Inc _ v) (by simp) (api_Frame.u_To x _)
theorem api_Frame.g_To_N (x : api_Frame) : x.enc[55]? = some (Value.int .i64 x.To.N) := (api_Frame.s_To x).get (api_Num.g_N _)
theorem api_Frame.u_To_N (x : api_Frame) (v : Int) : Upd x.enc 55 (#[Value.int .i64 v]) (api_Frame.enc { x with To := { x.To with N := v } }) := Upd.trans (o := 54) (o' := 1) (api_Frame.s_To x) (api_Num.u_N _ v) (by simp) (api_Frame.u_To x _)
theorem api_Frame.s_Itm_Key (x : api_Frame) : Sel x.enc 58 16 (x.Itm.Key.enc) := (api_Frame.s_Itm x).trans (api_Item.s_Key _)
theorem api_Frame.u_Itm_Key (x : api_Frame) (v : Idn) : Upd x.enc 58 (v.enc) (api_Frame.enc { x with Itm := { x.Itm with Key := v } }) := Upd.trans (o := 58) (o' := 0) (api_Frame.s_Itm x) (api_Item.u_Key _ v) (by simp [Idn.size]) (api_Frame.u_Itm x _)
theorem api_Frame.s_Itm_Ver (x : api_Frame) : Sel x.enc 74 17 (x.Itm.Ver.enc) := (api_Frame.s_Itm x).trans (api_Item.s_Ver _)
theorem api_Frame.u_Itm_Ver (x : api_Frame) (v : api_Ver) : Upd x.enc 74 (v.enc) (api_Frame.enc { x with Itm := { x.Itm with Ver := v } }) := Upd.trans (o := 58) (o' := 16) (api_Frame.s_Itm x) (api_Item.u_Ver _ v) (by simp [api_Ver.size]) (api_Frame.u_Itm x _)
theorem api_Frame.g_Itm_Ver_N (x : api_Frame) : x.enc[74]? = some (Value.int .i64 x.Itm.Ver.N) := (api_Frame.s_Itm x).get (api_Item.g_Ver_N _)
theorem api_Frame.u_Itm_Ver_N (x : api_Frame) (v : Int) : Upd x.enc 74 (#[Value.int .i64 v]) (api_Frame.enc { x with Itm := { x.Itm with Ver := { x.Itm.Ver with N := v } } }) := Upd.trans (o := 58) (o' := 16) (api_Frame.s_Itm x) (api_Item.u_Ver_N _ v) (by simp) (api_Frame.u_Itm x _)
theorem api_Frame.s_Itm_Ver_Who (x : api_Frame) : Sel x.enc 75 16 (x.Itm.Ver.Who.enc) := (api_Frame.s_Itm x).trans (api_Item.s_Ver_Who _)
theorem api_Frame.u_Itm_Ver_Who (x : api_Frame) (v : Idn) : Upd x.enc 75 (v.enc) (api_Frame.enc { x with Itm := { x.Itm with Ver := { x.Itm.Ver with Who := v } } }) := Upd.trans (o := 58) (o' := 17) (api_Frame.s_Itm x) (api_Item.u_Ver_Who _ v) (by simp [Idn.size]) (api_Frame.u_Itm x _)
theorem api_Frame.g_Itm_Val (x : api_Frame) : x.enc[91]? = some (x.Itm.Val.v) := (api_Frame.s_Itm x).get (api_Item.g_Val _)
theorem api_Frame.u_Itm_Val (x : api_Frame) (v : Slv) : Upd x.enc 91 (#[v.v]) (api_Frame.enc { x with Itm := { x.Itm with Val := v } }) := Upd.trans (o := 58) (o' := 33) (api_Frame.s_Itm x) (api_Item.u_Val _ v) (by simp) (api_Frame.u_Itm x _)
def api_Frame.zero : api_Frame := ⟨0, api_Path.zero, false, Idn.zero, Idn.zero, 0, api_Num.zero, api_Num.zero, ⟨none, 0, 0⟩, ⟨none, 0, 0⟩, api_Item.zero, 0, 0, ⟨none, 0, 0⟩⟩
theorem api_Frame.inj {x y : api_Frame} (h : x.enc = y.enc) : x = y := by
  have h0 := Option.some.inj (((api_Frame.g_Kind x).symm.trans (by rw [h])).trans (api_Frame.g_Kind y))
  simp only [Value.int.injEq, true_and] at h0
  have h1 := api_Path.inj (((api_Frame.s_P x).2.symm.trans (by rw [h])).trans (api_Frame.s_P y).2)
  have h2 := Option.some.inj (((api_Frame.g_ToA x).symm.trans (by rw [h])).trans (api_Frame.g_ToA y))
  simp only [Value.bool.injEq] at h2
  have h3 := Idn.enc_inj (((api_Frame.s_A x).2.symm.trans (by rw [h])).trans (api_Frame.s_A y).2)
  have h4 := Idn.enc_inj (((api_Frame.s_B x).2.symm.trans (by rw [h])).trans (api_Frame.s_B y).2)
  have h5 := Option.some.inj (((api_Frame.g_N x).symm.trans (by rw [h])).trans (api_Frame.g_N y))
  simp only [Value.int.injEq, true_and] at h5
  have h6 := api_Num.inj (((api_Frame.s_From x).2.symm.trans (by rw [h])).trans (api_Frame.s_From y).2)
  have h7 := api_Num.inj (((api_Frame.s_To x).2.symm.trans (by rw [h])).trans (api_Frame.s_To y).2)
  have h8 := Option.some.inj (((api_Frame.g_Trail x).symm.trans (by rw [h])).trans (api_Frame.g_Trail y))
  replace h8 := Slv.v_inj h8
  have h9 := Option.some.inj (((api_Frame.g_IDs x).symm.trans (by rw [h])).trans (api_Frame.g_IDs y))
  replace h9 := Slv.v_inj h9
  have h10 := api_Item.inj (((api_Frame.s_Itm x).2.symm.trans (by rw [h])).trans (api_Frame.s_Itm y).2)
  have h11 := Option.some.inj (((api_Frame.g_Op x).symm.trans (by rw [h])).trans (api_Frame.g_Op y))
  simp only [Value.int.injEq, true_and] at h11
  have h12 := Option.some.inj (((api_Frame.g_TTL x).symm.trans (by rw [h])).trans (api_Frame.g_TTL y))
  simp only [Value.int.injEq, true_and] at h12
  have h13 := Option.some.inj (((api_Frame.g_Text x).symm.trans (by rw [h])).trans (api_Frame.g_Text y))
  replace h13 := Slv.v_inj h13
  cases x; cases y; simp only at h0 h1 h2 h3 h4 h5 h6 h7 h8 h9 h10 h11 h12 h13; subst h0 h1 h2 h3 h4 h5 h6 h7 h8 h9 h10 h11 h12 h13; rfl

structure api_Hop where
  N : Int
  F : api_Frame
deriving DecidableEq
def api_Hop.enc (x : api_Hop) : Array Value := catA [#[Value.int .i64 x.N], (x.F).enc]
theorem api_Hop.size (x : api_Hop) : x.enc.size = 96 := by rw [api_Hop.enc, catA_size]; simp [szs, api_Frame.size]
theorem api_Hop.one (x : api_Hop) : Ones x.enc := Ones.cat (by
  intro p hp
  simp only [List.mem_cons, List.not_mem_nil, or_false] at hp
  rcases hp with rfl | rfl
  · exact Ones.single rfl
  · exact api_Frame.one _)
theorem api_Hop.s_N (x : api_Hop) : Sel x.enc 0 1 (#[Value.int .i64 x.N]) := Sel.cat [] (#[Value.int .i64 x.N]) [(x.F).enc] (rfl) (rfl)
theorem api_Hop.u_N (x : api_Hop) (v : Int) : Upd x.enc 0 (#[Value.int .i64 v]) (api_Hop.enc { x with N := v }) := Upd.cat [] (#[Value.int .i64 x.N]) (#[Value.int .i64 v]) [(x.F).enc] (rfl) (rfl)
theorem api_Hop.g_N (x : api_Hop) : x.enc[0]? = some (Value.int .i64 x.N) := (api_Hop.s_N x).one
theorem api_Hop.s_F (x : api_Hop) : Sel x.enc 1 95 ((x.F).enc) := Sel.cat [#[Value.int .i64 x.N]] ((x.F).enc) [] (by simp [szs]) (api_Frame.size _)
theorem api_Hop.u_F (x : api_Hop) (v : api_Frame) : Upd x.enc 1 (v.enc) (api_Hop.enc { x with F := v }) := Upd.cat [#[Value.int .i64 x.N]] ((x.F).enc) (v.enc) [] (by simp [szs]) (by simp [api_Frame.size])
theorem api_Hop.g_F_Kind (x : api_Hop) : x.enc[1]? = some (Value.int .i64 x.F.Kind) := (api_Hop.s_F x).get (api_Frame.g_Kind _)
theorem api_Hop.u_F_Kind (x : api_Hop) (v : Int) : Upd x.enc 1 (#[Value.int .i64 v]) (api_Hop.enc { x with F := { x.F with Kind := v } }) := Upd.trans (o := 1) (o' := 0) (api_Hop.s_F x) (api_Frame.u_Kind _ v) (by simp) (api_Hop.u_F x _)
theorem api_Hop.s_F_P (x : api_Hop) : Sel x.enc 2 17 (x.F.P.enc) := (api_Hop.s_F x).trans (api_Frame.s_P _)
theorem api_Hop.u_F_P (x : api_Hop) (v : api_Path) : Upd x.enc 2 (v.enc) (api_Hop.enc { x with F := { x.F with P := v } }) := Upd.trans (o := 1) (o' := 1) (api_Hop.s_F x) (api_Frame.u_P _ v) (by simp [api_Path.size]) (api_Hop.u_F x _)
theorem api_Hop.s_F_P_Who (x : api_Hop) : Sel x.enc 2 16 (x.F.P.Who.enc) := (api_Hop.s_F x).trans (api_Frame.s_P_Who _)
theorem api_Hop.u_F_P_Who (x : api_Hop) (v : Idn) : Upd x.enc 2 (v.enc) (api_Hop.enc { x with F := { x.F with P := { x.F.P with Who := v } } }) := Upd.trans (o := 1) (o' := 1) (api_Hop.s_F x) (api_Frame.u_P_Who _ v) (by simp [Idn.size]) (api_Hop.u_F x _)
theorem api_Hop.g_F_P_N (x : api_Hop) : x.enc[18]? = some (Value.int .i64 x.F.P.N) := (api_Hop.s_F x).get (api_Frame.g_P_N _)
theorem api_Hop.u_F_P_N (x : api_Hop) (v : Int) : Upd x.enc 18 (#[Value.int .i64 v]) (api_Hop.enc { x with F := { x.F with P := { x.F.P with N := v } } }) := Upd.trans (o := 1) (o' := 17) (api_Hop.s_F x) (api_Frame.u_P_N _ v) (by simp) (api_Hop.u_F x _)
theorem api_Hop.g_F_ToA (x : api_Hop) : x.enc[19]? = some (Value.bool x.F.ToA) := (api_Hop.s_F x).get (api_Frame.g_ToA _)
theorem api_Hop.u_F_ToA (x : api_Hop) (v : Bool) : Upd x.enc 19 (#[Value.bool v]) (api_Hop.enc { x with F := { x.F with ToA := v } }) := Upd.trans (o := 1) (o' := 18) (api_Hop.s_F x) (api_Frame.u_ToA _ v) (by simp) (api_Hop.u_F x _)
theorem api_Hop.s_F_A (x : api_Hop) : Sel x.enc 20 16 (x.F.A.enc) := (api_Hop.s_F x).trans (api_Frame.s_A _)
theorem api_Hop.u_F_A (x : api_Hop) (v : Idn) : Upd x.enc 20 (v.enc) (api_Hop.enc { x with F := { x.F with A := v } }) := Upd.trans (o := 1) (o' := 19) (api_Hop.s_F x) (api_Frame.u_A _ v) (by simp [Idn.size]) (api_Hop.u_F x _)
theorem api_Hop.s_F_B (x : api_Hop) : Sel x.enc 36 16 (x.F.B.enc) := (api_Hop.s_F x).trans (api_Frame.s_B _)
theorem api_Hop.u_F_B (x : api_Hop) (v : Idn) : Upd x.enc 36 (v.enc) (api_Hop.enc { x with F := { x.F with B := v } }) := Upd.trans (o := 1) (o' := 35) (api_Hop.s_F x) (api_Frame.u_B _ v) (by simp [Idn.size]) (api_Hop.u_F x _)
theorem api_Hop.g_F_N (x : api_Hop) : x.enc[52]? = some (Value.int .i64 x.F.N) := (api_Hop.s_F x).get (api_Frame.g_N _)
theorem api_Hop.u_F_N (x : api_Hop) (v : Int) : Upd x.enc 52 (#[Value.int .i64 v]) (api_Hop.enc { x with F := { x.F with N := v } }) := Upd.trans (o := 1) (o' := 51) (api_Hop.s_F x) (api_Frame.u_N _ v) (by simp) (api_Hop.u_F x _)
theorem api_Hop.s_F_From (x : api_Hop) : Sel x.enc 53 2 (x.F.From.enc) := (api_Hop.s_F x).trans (api_Frame.s_From _)
theorem api_Hop.u_F_From (x : api_Hop) (v : api_Num) : Upd x.enc 53 (v.enc) (api_Hop.enc { x with F := { x.F with From := v } }) := Upd.trans (o := 1) (o' := 52) (api_Hop.s_F x) (api_Frame.u_From _ v) (by simp [api_Num.size]) (api_Hop.u_F x _)
theorem api_Hop.g_F_From_Inc (x : api_Hop) : x.enc[53]? = some (Value.int .i64 x.F.From.Inc) := (api_Hop.s_F x).get (api_Frame.g_From_Inc _)
theorem api_Hop.u_F_From_Inc (x : api_Hop) (v : Int) : Upd x.enc 53 (#[Value.int .i64 v]) (api_Hop.enc { x with F := { x.F with From := { x.F.From with Inc := v } } }) := Upd.trans (o := 1) (o' := 52) (api_Hop.s_F x) (api_Frame.u_From_Inc _ v) (by simp) (api_Hop.u_F x _)
theorem api_Hop.g_F_From_N (x : api_Hop) : x.enc[54]? = some (Value.int .i64 x.F.From.N) := (api_Hop.s_F x).get (api_Frame.g_From_N _)
theorem api_Hop.u_F_From_N (x : api_Hop) (v : Int) : Upd x.enc 54 (#[Value.int .i64 v]) (api_Hop.enc { x with F := { x.F with From := { x.F.From with N := v } } }) := Upd.trans (o := 1) (o' := 53) (api_Hop.s_F x) (api_Frame.u_From_N _ v) (by simp) (api_Hop.u_F x _)
theorem api_Hop.s_F_To (x : api_Hop) : Sel x.enc 55 2 (x.F.To.enc) := (api_Hop.s_F x).trans (api_Frame.s_To _)
theorem api_Hop.u_F_To (x : api_Hop) (v : api_Num) : Upd x.enc 55 (v.enc) (api_Hop.enc { x with F := { x.F with To := v } }) := Upd.trans (o := 1) (o' := 54) (api_Hop.s_F x) (api_Frame.u_To _ v) (by simp [api_Num.size]) (api_Hop.u_F x _)
theorem api_Hop.g_F_To_Inc (x : api_Hop) : x.enc[55]? = some (Value.int .i64 x.F.To.Inc) := (api_Hop.s_F x).get (api_Frame.g_To_Inc _)
theorem api_Hop.u_F_To_Inc (x : api_Hop) (v : Int) : Upd x.enc 55 (#[Value.int .i64 v]) (api_Hop.enc { x with F := { x.F with To := { x.F.To with Inc := v } } }) := Upd.trans (o := 1) (o' := 54) (api_Hop.s_F x) (api_Frame.u_To_Inc _ v) (by simp) (api_Hop.u_F x _)
theorem api_Hop.g_F_To_N (x : api_Hop) : x.enc[56]? = some (Value.int .i64 x.F.To.N) := (api_Hop.s_F x).get (api_Frame.g_To_N _)
theorem api_Hop.u_F_To_N (x : api_Hop) (v : Int) : Upd x.enc 56 (#[Value.int .i64 v]) (api_Hop.enc { x with F := { x.F with To := { x.F.To with N := v } } }) := Upd.trans (o := 1) (o' := 55) (api_Hop.s_F x) (api_Frame.u_To_N _ v) (by simp) (api_Hop.u_F x _)
theorem api_Hop.g_F_Trail (x : api_Hop) : x.enc[57]? = some (x.F.Trail.v) := (api_Hop.s_F x).get (api_Frame.g_Trail _)
theorem api_Hop.u_F_Trail (x : api_Hop) (v : Slv) : Upd x.enc 57 (#[v.v]) (api_Hop.enc { x with F := { x.F with Trail := v } }) := Upd.trans (o := 1) (o' := 56) (api_Hop.s_F x) (api_Frame.u_Trail _ v) (by simp) (api_Hop.u_F x _)
theorem api_Hop.g_F_IDs (x : api_Hop) : x.enc[58]? = some (x.F.IDs.v) := (api_Hop.s_F x).get (api_Frame.g_IDs _)
theorem api_Hop.u_F_IDs (x : api_Hop) (v : Slv) : Upd x.enc 58 (#[v.v]) (api_Hop.enc { x with F := { x.F with IDs := v } }) := Upd.trans (o := 1) (o' := 57) (api_Hop.s_F x) (api_Frame.u_IDs _ v) (by simp) (api_Hop.u_F x _)
theorem api_Hop.s_F_Itm (x : api_Hop) : Sel x.enc 59 34 (x.F.Itm.enc) := (api_Hop.s_F x).trans (api_Frame.s_Itm _)
theorem api_Hop.u_F_Itm (x : api_Hop) (v : api_Item) : Upd x.enc 59 (v.enc) (api_Hop.enc { x with F := { x.F with Itm := v } }) := Upd.trans (o := 1) (o' := 58) (api_Hop.s_F x) (api_Frame.u_Itm _ v) (by simp [api_Item.size]) (api_Hop.u_F x _)
theorem api_Hop.s_F_Itm_Key (x : api_Hop) : Sel x.enc 59 16 (x.F.Itm.Key.enc) := (api_Hop.s_F x).trans (api_Frame.s_Itm_Key _)
theorem api_Hop.u_F_Itm_Key (x : api_Hop) (v : Idn) : Upd x.enc 59 (v.enc) (api_Hop.enc { x with F := { x.F with Itm := { x.F.Itm with Key := v } } }) := Upd.trans (o := 1) (o' := 58) (api_Hop.s_F x) (api_Frame.u_Itm_Key _ v) (by simp [Idn.size]) (api_Hop.u_F x _)
theorem api_Hop.s_F_Itm_Ver (x : api_Hop) : Sel x.enc 75 17 (x.F.Itm.Ver.enc) := (api_Hop.s_F x).trans (api_Frame.s_Itm_Ver _)
theorem api_Hop.u_F_Itm_Ver (x : api_Hop) (v : api_Ver) : Upd x.enc 75 (v.enc) (api_Hop.enc { x with F := { x.F with Itm := { x.F.Itm with Ver := v } } }) := Upd.trans (o := 1) (o' := 74) (api_Hop.s_F x) (api_Frame.u_Itm_Ver _ v) (by simp [api_Ver.size]) (api_Hop.u_F x _)
theorem api_Hop.g_F_Itm_Ver_N (x : api_Hop) : x.enc[75]? = some (Value.int .i64 x.F.Itm.Ver.N) := (api_Hop.s_F x).get (api_Frame.g_Itm_Ver_N _)
theorem api_Hop.u_F_Itm_Ver_N (x : api_Hop) (v : Int) : Upd x.enc 75 (#[Value.int .i64 v]) (api_Hop.enc { x with F := { x.F with Itm := { x.F.Itm with Ver := { x.F.Itm.Ver with N := v } } } }) := Upd.trans (o := 1) (o' := 74) (api_Hop.s_F x) (api_Frame.u_Itm_Ver_N _ v) (by simp) (api_Hop.u_F x _)
theorem api_Hop.s_F_Itm_Ver_Who (x : api_Hop) : Sel x.enc 76 16 (x.F.Itm.Ver.Who.enc) := (api_Hop.s_F x).trans (api_Frame.s_Itm_Ver_Who _)
theorem api_Hop.u_F_Itm_Ver_Who (x : api_Hop) (v : Idn) : Upd x.enc 76 (v.enc) (api_Hop.enc { x with F := { x.F with Itm := { x.F.Itm with Ver := { x.F.Itm.Ver with Who := v } } } }) := Upd.trans (o := 1) (o' := 75) (api_Hop.s_F x) (api_Frame.u_Itm_Ver_Who _ v) (by simp [Idn.size]) (api_Hop.u_F x _)
theorem api_Hop.g_F_Itm_Val (x : api_Hop) : x.enc[92]? = some (x.F.Itm.Val.v) := (api_Hop.s_F x).get (api_Frame.g_Itm_Val _)
theorem api_Hop.u_F_Itm_Val (x : api_Hop) (v : Slv) : Upd x.enc 92 (#[v.v]) (api_Hop.enc { x with F := { x.F with Itm := { x.F.Itm with Val := v } } }) := Upd.trans (o := 1) (o' := 91) (api_Hop.s_F x) (api_Frame.u_Itm_Val _ v) (by simp) (api_Hop.u_F x _)
theorem api_Hop.g_F_Op (x : api_Hop) : x.enc[93]? = some (Value.int .i64 x.F.Op) := (api_Hop.s_F x).get (api_Frame.g_Op _)
theorem api_Hop.u_F_Op (x : api_Hop) (v : Int) : Upd x.enc 93 (#[Value.int .i64 v]) (api_Hop.enc { x with F := { x.F with Op := v } }) := Upd.trans (o := 1) (o' := 92) (api_Hop.s_F x) (api_Frame.u_Op _ v) (by simp) (api_Hop.u_F x _)
theorem api_Hop.g_F_TTL (x : api_Hop) : x.enc[94]? = some (Value.int .i64 x.F.TTL) := (api_Hop.s_F x).get (api_Frame.g_TTL _)
theorem api_Hop.u_F_TTL (x : api_Hop) (v : Int) : Upd x.enc 94 (#[Value.int .i64 v]) (api_Hop.enc { x with F := { x.F with TTL := v } }) := Upd.trans (o := 1) (o' := 93) (api_Hop.s_F x) (api_Frame.u_TTL _ v) (by simp) (api_Hop.u_F x _)
theorem api_Hop.g_F_Text (x : api_Hop) : x.enc[95]? = some (x.F.Text.v) := (api_Hop.s_F x).get (api_Frame.g_Text _)
theorem api_Hop.u_F_Text (x : api_Hop) (v : Slv) : Upd x.enc 95 (#[v.v]) (api_Hop.enc { x with F := { x.F with Text := v } }) := Upd.trans (o := 1) (o' := 94) (api_Hop.s_F x) (api_Frame.u_Text _ v) (by simp) (api_Hop.u_F x _)
def api_Hop.zero : api_Hop := ⟨0, api_Frame.zero⟩
theorem api_Hop.inj {x y : api_Hop} (h : x.enc = y.enc) : x = y := by
  have h0 := Option.some.inj (((api_Hop.g_N x).symm.trans (by rw [h])).trans (api_Hop.g_N y))
  simp only [Value.int.injEq, true_and] at h0
  have h1 := api_Frame.inj (((api_Hop.s_F x).2.symm.trans (by rw [h])).trans (api_Hop.s_F y).2)
  cases x; cases y; simp only at h0 h1; subst h0 h1; rfl

structure table_Table where
  most : Int
  m : Value
def table_Table.enc (x : table_Table) : Array Value := catA [#[Value.int .i64 x.most], #[x.m]]
theorem table_Table.size (x : table_Table) : x.enc.size = 2 := by rw [table_Table.enc, catA_size]; simp [szs]
theorem table_Table.one (x : table_Table) (h0 : x.m.oneCell' = true) : Ones x.enc := Ones.cat (by
  intro p hp
  simp only [List.mem_cons, List.not_mem_nil, or_false] at hp
  rcases hp with rfl | rfl
  · exact Ones.single rfl
  · exact Ones.single h0)
theorem table_Table.s_most (x : table_Table) : Sel x.enc 0 1 (#[Value.int .i64 x.most]) := Sel.cat [] (#[Value.int .i64 x.most]) [#[x.m]] (rfl) (rfl)
theorem table_Table.u_most (x : table_Table) (v : Int) : Upd x.enc 0 (#[Value.int .i64 v]) (table_Table.enc { x with most := v }) := Upd.cat [] (#[Value.int .i64 x.most]) (#[Value.int .i64 v]) [#[x.m]] (rfl) (rfl)
theorem table_Table.g_most (x : table_Table) : x.enc[0]? = some (Value.int .i64 x.most) := (table_Table.s_most x).one
theorem table_Table.s_m (x : table_Table) : Sel x.enc 1 1 (#[x.m]) := Sel.cat [#[Value.int .i64 x.most]] (#[x.m]) [] (by simp [szs]) (rfl)
theorem table_Table.u_m (x : table_Table) (v : Value) : Upd x.enc 1 (#[v]) (table_Table.enc { x with m := v }) := Upd.cat [#[Value.int .i64 x.most]] (#[x.m]) (#[v]) [] (by simp [szs]) (rfl)
theorem table_Table.g_m (x : table_Table) : x.enc[1]? = some (x.m) := (table_Table.s_m x).one
def table_Table.zero : table_Table := ⟨0, .map none⟩

structure frame_Drop where
  P : api_Path
deriving DecidableEq
def frame_Drop.enc (x : frame_Drop) : Array Value := catA [(x.P).enc]
theorem frame_Drop.size (x : frame_Drop) : x.enc.size = 17 := by rw [frame_Drop.enc, catA_size]; simp [szs, api_Path.size]
theorem frame_Drop.one (x : frame_Drop) : Ones x.enc := Ones.cat (by
  intro p hp
  simp only [List.mem_cons, List.not_mem_nil, or_false] at hp
  rcases hp with rfl
  · exact api_Path.one _)
theorem frame_Drop.pl (x : frame_Drop) : Pl x.enc := Pl.cat (by
  intro p hp
  simp only [List.mem_cons, List.not_mem_nil, or_false] at hp
  rcases hp with rfl
  · exact api_Path.pl _)
theorem frame_Drop.s_P (x : frame_Drop) : Sel x.enc 0 17 ((x.P).enc) := Sel.cat [] ((x.P).enc) [] (rfl) (api_Path.size _)
theorem frame_Drop.u_P (x : frame_Drop) (v : api_Path) : Upd x.enc 0 (v.enc) (frame_Drop.enc { x with P := v }) := Upd.cat [] ((x.P).enc) (v.enc) [] (rfl) (by simp [api_Path.size])
theorem frame_Drop.s_P_Who (x : frame_Drop) : Sel x.enc 0 16 (x.P.Who.enc) := (frame_Drop.s_P x).trans (api_Path.s_Who _)
theorem frame_Drop.u_P_Who (x : frame_Drop) (v : Idn) : Upd x.enc 0 (v.enc) (frame_Drop.enc { x with P := { x.P with Who := v } }) := Upd.trans (o := 0) (o' := 0) (frame_Drop.s_P x) (api_Path.u_Who _ v) (by simp [Idn.size]) (frame_Drop.u_P x _)
theorem frame_Drop.g_P_N (x : frame_Drop) : x.enc[16]? = some (Value.int .i64 x.P.N) := (frame_Drop.s_P x).get (api_Path.g_N _)
theorem frame_Drop.u_P_N (x : frame_Drop) (v : Int) : Upd x.enc 16 (#[Value.int .i64 v]) (frame_Drop.enc { x with P := { x.P with N := v } }) := Upd.trans (o := 0) (o' := 16) (frame_Drop.s_P x) (api_Path.u_N _ v) (by simp) (frame_Drop.u_P x _)
def frame_Drop.zero : frame_Drop := ⟨api_Path.zero⟩
theorem frame_Drop.inj {x y : frame_Drop} (h : x.enc = y.enc) : x = y := by
  have h0 := api_Path.inj (((frame_Drop.s_P x).2.symm.trans (by rw [h])).trans (frame_Drop.s_P y).2)
  cases x; cases y; simp only at h0; subst h0; rfl

structure frame_Hello where
  Mine : api_Num
  Seen : api_Num
  ID : Idn
deriving DecidableEq
def frame_Hello.enc (x : frame_Hello) : Array Value := catA [(x.Mine).enc, (x.Seen).enc, (x.ID).enc]
theorem frame_Hello.size (x : frame_Hello) : x.enc.size = 20 := by rw [frame_Hello.enc, catA_size]; simp [szs, api_Num.size, Idn.size]
theorem frame_Hello.one (x : frame_Hello) : Ones x.enc := Ones.cat (by
  intro p hp
  simp only [List.mem_cons, List.not_mem_nil, or_false] at hp
  rcases hp with rfl | rfl | rfl
  · exact api_Num.one _
  · exact api_Num.one _
  · exact Idn.one _)
theorem frame_Hello.pl (x : frame_Hello) : Pl x.enc := Pl.cat (by
  intro p hp
  simp only [List.mem_cons, List.not_mem_nil, or_false] at hp
  rcases hp with rfl | rfl | rfl
  · exact api_Num.pl _
  · exact api_Num.pl _
  · exact Idn.pl _)
theorem frame_Hello.s_Mine (x : frame_Hello) : Sel x.enc 0 2 ((x.Mine).enc) := Sel.cat [] ((x.Mine).enc) [(x.Seen).enc, (x.ID).enc] (rfl) (api_Num.size _)
theorem frame_Hello.u_Mine (x : frame_Hello) (v : api_Num) : Upd x.enc 0 (v.enc) (frame_Hello.enc { x with Mine := v }) := Upd.cat [] ((x.Mine).enc) (v.enc) [(x.Seen).enc, (x.ID).enc] (rfl) (by simp [api_Num.size])
theorem frame_Hello.s_Seen (x : frame_Hello) : Sel x.enc 2 2 ((x.Seen).enc) := Sel.cat [(x.Mine).enc] ((x.Seen).enc) [(x.ID).enc] (by simp [szs, api_Num.size]) (api_Num.size _)
theorem frame_Hello.u_Seen (x : frame_Hello) (v : api_Num) : Upd x.enc 2 (v.enc) (frame_Hello.enc { x with Seen := v }) := Upd.cat [(x.Mine).enc] ((x.Seen).enc) (v.enc) [(x.ID).enc] (by simp [szs, api_Num.size]) (by simp [api_Num.size])
theorem frame_Hello.s_ID (x : frame_Hello) : Sel x.enc 4 16 ((x.ID).enc) := Sel.cat [(x.Mine).enc, (x.Seen).enc] ((x.ID).enc) [] (by simp [szs, api_Num.size]) (Idn.size _)
theorem frame_Hello.u_ID (x : frame_Hello) (v : Idn) : Upd x.enc 4 (v.enc) (frame_Hello.enc { x with ID := v }) := Upd.cat [(x.Mine).enc, (x.Seen).enc] ((x.ID).enc) (v.enc) [] (by simp [szs, api_Num.size]) (by simp [Idn.size])
theorem frame_Hello.g_Mine_Inc (x : frame_Hello) : x.enc[0]? = some (Value.int .i64 x.Mine.Inc) := (frame_Hello.s_Mine x).get (api_Num.g_Inc _)
theorem frame_Hello.u_Mine_Inc (x : frame_Hello) (v : Int) : Upd x.enc 0 (#[Value.int .i64 v]) (frame_Hello.enc { x with Mine := { x.Mine with Inc := v } }) := Upd.trans (o := 0) (o' := 0) (frame_Hello.s_Mine x) (api_Num.u_Inc _ v) (by simp) (frame_Hello.u_Mine x _)
theorem frame_Hello.g_Mine_N (x : frame_Hello) : x.enc[1]? = some (Value.int .i64 x.Mine.N) := (frame_Hello.s_Mine x).get (api_Num.g_N _)
theorem frame_Hello.u_Mine_N (x : frame_Hello) (v : Int) : Upd x.enc 1 (#[Value.int .i64 v]) (frame_Hello.enc { x with Mine := { x.Mine with N := v } }) := Upd.trans (o := 0) (o' := 1) (frame_Hello.s_Mine x) (api_Num.u_N _ v) (by simp) (frame_Hello.u_Mine x _)
theorem frame_Hello.g_Seen_Inc (x : frame_Hello) : x.enc[2]? = some (Value.int .i64 x.Seen.Inc) := (frame_Hello.s_Seen x).get (api_Num.g_Inc _)
theorem frame_Hello.u_Seen_Inc (x : frame_Hello) (v : Int) : Upd x.enc 2 (#[Value.int .i64 v]) (frame_Hello.enc { x with Seen := { x.Seen with Inc := v } }) := Upd.trans (o := 2) (o' := 0) (frame_Hello.s_Seen x) (api_Num.u_Inc _ v) (by simp) (frame_Hello.u_Seen x _)
theorem frame_Hello.g_Seen_N (x : frame_Hello) : x.enc[3]? = some (Value.int .i64 x.Seen.N) := (frame_Hello.s_Seen x).get (api_Num.g_N _)
theorem frame_Hello.u_Seen_N (x : frame_Hello) (v : Int) : Upd x.enc 3 (#[Value.int .i64 v]) (frame_Hello.enc { x with Seen := { x.Seen with N := v } }) := Upd.trans (o := 2) (o' := 1) (frame_Hello.s_Seen x) (api_Num.u_N _ v) (by simp) (frame_Hello.u_Seen x _)
def frame_Hello.zero : frame_Hello := ⟨api_Num.zero, api_Num.zero, Idn.zero⟩
theorem frame_Hello.inj {x y : frame_Hello} (h : x.enc = y.enc) : x = y := by
  have h0 := api_Num.inj (((frame_Hello.s_Mine x).2.symm.trans (by rw [h])).trans (frame_Hello.s_Mine y).2)
  have h1 := api_Num.inj (((frame_Hello.s_Seen x).2.symm.trans (by rw [h])).trans (frame_Hello.s_Seen y).2)
  have h2 := Idn.enc_inj (((frame_Hello.s_ID x).2.symm.trans (by rw [h])).trans (frame_Hello.s_ID y).2)
  cases x; cases y; simp only at h0 h1 h2; subst h0 h1 h2; rfl

structure frame_Data where
  From : api_Num
  To : api_Num
  N : Int
  Text : Slv
deriving DecidableEq
def frame_Data.enc (x : frame_Data) : Array Value := catA [(x.From).enc, (x.To).enc, #[Value.int .i64 x.N], #[x.Text.v]]
theorem frame_Data.size (x : frame_Data) : x.enc.size = 6 := by rw [frame_Data.enc, catA_size]; simp [szs, api_Num.size]
theorem frame_Data.one (x : frame_Data) : Ones x.enc := Ones.cat (by
  intro p hp
  simp only [List.mem_cons, List.not_mem_nil, or_false] at hp
  rcases hp with rfl | rfl | rfl | rfl
  · exact api_Num.one _
  · exact api_Num.one _
  · exact Ones.single rfl
  · exact Ones.single rfl)
theorem frame_Data.s_From (x : frame_Data) : Sel x.enc 0 2 ((x.From).enc) := Sel.cat [] ((x.From).enc) [(x.To).enc, #[Value.int .i64 x.N], #[x.Text.v]] (rfl) (api_Num.size _)
theorem frame_Data.u_From (x : frame_Data) (v : api_Num) : Upd x.enc 0 (v.enc) (frame_Data.enc { x with From := v }) := Upd.cat [] ((x.From).enc) (v.enc) [(x.To).enc, #[Value.int .i64 x.N], #[x.Text.v]] (rfl) (by simp [api_Num.size])
theorem frame_Data.s_To (x : frame_Data) : Sel x.enc 2 2 ((x.To).enc) := Sel.cat [(x.From).enc] ((x.To).enc) [#[Value.int .i64 x.N], #[x.Text.v]] (by simp [szs, api_Num.size]) (api_Num.size _)
theorem frame_Data.u_To (x : frame_Data) (v : api_Num) : Upd x.enc 2 (v.enc) (frame_Data.enc { x with To := v }) := Upd.cat [(x.From).enc] ((x.To).enc) (v.enc) [#[Value.int .i64 x.N], #[x.Text.v]] (by simp [szs, api_Num.size]) (by simp [api_Num.size])
theorem frame_Data.s_N (x : frame_Data) : Sel x.enc 4 1 (#[Value.int .i64 x.N]) := Sel.cat [(x.From).enc, (x.To).enc] (#[Value.int .i64 x.N]) [#[x.Text.v]] (by simp [szs, api_Num.size]) (rfl)
theorem frame_Data.u_N (x : frame_Data) (v : Int) : Upd x.enc 4 (#[Value.int .i64 v]) (frame_Data.enc { x with N := v }) := Upd.cat [(x.From).enc, (x.To).enc] (#[Value.int .i64 x.N]) (#[Value.int .i64 v]) [#[x.Text.v]] (by simp [szs, api_Num.size]) (rfl)
theorem frame_Data.g_N (x : frame_Data) : x.enc[4]? = some (Value.int .i64 x.N) := (frame_Data.s_N x).one
theorem frame_Data.s_Text (x : frame_Data) : Sel x.enc 5 1 (#[x.Text.v]) := Sel.cat [(x.From).enc, (x.To).enc, #[Value.int .i64 x.N]] (#[x.Text.v]) [] (by simp [szs, api_Num.size]) (rfl)
theorem frame_Data.u_Text (x : frame_Data) (v : Slv) : Upd x.enc 5 (#[v.v]) (frame_Data.enc { x with Text := v }) := Upd.cat [(x.From).enc, (x.To).enc, #[Value.int .i64 x.N]] (#[x.Text.v]) (#[v.v]) [] (by simp [szs, api_Num.size]) (rfl)
theorem frame_Data.g_Text (x : frame_Data) : x.enc[5]? = some (x.Text.v) := (frame_Data.s_Text x).one
theorem frame_Data.g_From_Inc (x : frame_Data) : x.enc[0]? = some (Value.int .i64 x.From.Inc) := (frame_Data.s_From x).get (api_Num.g_Inc _)
theorem frame_Data.u_From_Inc (x : frame_Data) (v : Int) : Upd x.enc 0 (#[Value.int .i64 v]) (frame_Data.enc { x with From := { x.From with Inc := v } }) := Upd.trans (o := 0) (o' := 0) (frame_Data.s_From x) (api_Num.u_Inc _ v) (by simp) (frame_Data.u_From x _)
theorem frame_Data.g_From_N (x : frame_Data) : x.enc[1]? = some (Value.int .i64 x.From.N) := (frame_Data.s_From x).get (api_Num.g_N _)
theorem frame_Data.u_From_N (x : frame_Data) (v : Int) : Upd x.enc 1 (#[Value.int .i64 v]) (frame_Data.enc { x with From := { x.From with N := v } }) := Upd.trans (o := 0) (o' := 1) (frame_Data.s_From x) (api_Num.u_N _ v) (by simp) (frame_Data.u_From x _)
theorem frame_Data.g_To_Inc (x : frame_Data) : x.enc[2]? = some (Value.int .i64 x.To.Inc) := (frame_Data.s_To x).get (api_Num.g_Inc _)
theorem frame_Data.u_To_Inc (x : frame_Data) (v : Int) : Upd x.enc 2 (#[Value.int .i64 v]) (frame_Data.enc { x with To := { x.To with Inc := v } }) := Upd.trans (o := 2) (o' := 0) (frame_Data.s_To x) (api_Num.u_Inc _ v) (by simp) (frame_Data.u_To x _)
theorem frame_Data.g_To_N (x : frame_Data) : x.enc[3]? = some (Value.int .i64 x.To.N) := (frame_Data.s_To x).get (api_Num.g_N _)
theorem frame_Data.u_To_N (x : frame_Data) (v : Int) : Upd x.enc 3 (#[Value.int .i64 v]) (frame_Data.enc { x with To := { x.To with N := v } }) := Upd.trans (o := 2) (o' := 1) (frame_Data.s_To x) (api_Num.u_N _ v) (by simp) (frame_Data.u_To x _)
def frame_Data.zero : frame_Data := ⟨api_Num.zero, api_Num.zero, 0, ⟨none, 0, 0⟩⟩
theorem frame_Data.inj {x y : frame_Data} (h : x.enc = y.enc) : x = y := by
  have h0 := api_Num.inj (((frame_Data.s_From x).2.symm.trans (by rw [h])).trans (frame_Data.s_From y).2)
  have h1 := api_Num.inj (((frame_Data.s_To x).2.symm.trans (by rw [h])).trans (frame_Data.s_To y).2)
  have h2 := Option.some.inj (((frame_Data.g_N x).symm.trans (by rw [h])).trans (frame_Data.g_N y))
  simp only [Value.int.injEq, true_and] at h2
  have h3 := Option.some.inj (((frame_Data.g_Text x).symm.trans (by rw [h])).trans (frame_Data.g_Text y))
  replace h3 := Slv.v_inj h3
  cases x; cases y; simp only at h0 h1 h2 h3; subst h0 h1 h2 h3; rfl

structure frame_Ack where
  From : api_Num
  To : api_Num
  N : Int
deriving DecidableEq
def frame_Ack.enc (x : frame_Ack) : Array Value := catA [(x.From).enc, (x.To).enc, #[Value.int .i64 x.N]]
theorem frame_Ack.size (x : frame_Ack) : x.enc.size = 5 := by rw [frame_Ack.enc, catA_size]; simp [szs, api_Num.size]
theorem frame_Ack.one (x : frame_Ack) : Ones x.enc := Ones.cat (by
  intro p hp
  simp only [List.mem_cons, List.not_mem_nil, or_false] at hp
  rcases hp with rfl | rfl | rfl
  · exact api_Num.one _
  · exact api_Num.one _
  · exact Ones.single rfl)
theorem frame_Ack.pl (x : frame_Ack) : Pl x.enc := Pl.cat (by
  intro p hp
  simp only [List.mem_cons, List.not_mem_nil, or_false] at hp
  rcases hp with rfl | rfl | rfl
  · exact api_Num.pl _
  · exact api_Num.pl _
  · exact Pl.single rfl)
theorem frame_Ack.s_From (x : frame_Ack) : Sel x.enc 0 2 ((x.From).enc) := Sel.cat [] ((x.From).enc) [(x.To).enc, #[Value.int .i64 x.N]] (rfl) (api_Num.size _)
theorem frame_Ack.u_From (x : frame_Ack) (v : api_Num) : Upd x.enc 0 (v.enc) (frame_Ack.enc { x with From := v }) := Upd.cat [] ((x.From).enc) (v.enc) [(x.To).enc, #[Value.int .i64 x.N]] (rfl) (by simp [api_Num.size])
theorem frame_Ack.s_To (x : frame_Ack) : Sel x.enc 2 2 ((x.To).enc) := Sel.cat [(x.From).enc] ((x.To).enc) [#[Value.int .i64 x.N]] (by simp [szs, api_Num.size]) (api_Num.size _)
theorem frame_Ack.u_To (x : frame_Ack) (v : api_Num) : Upd x.enc 2 (v.enc) (frame_Ack.enc { x with To := v }) := Upd.cat [(x.From).enc] ((x.To).enc) (v.enc) [#[Value.int .i64 x.N]] (by simp [szs, api_Num.size]) (by simp [api_Num.size])
theorem frame_Ack.s_N (x : frame_Ack) : Sel x.enc 4 1 (#[Value.int .i64 x.N]) := Sel.cat [(x.From).enc, (x.To).enc] (#[Value.int .i64 x.N]) [] (by simp [szs, api_Num.size]) (rfl)
theorem frame_Ack.u_N (x : frame_Ack) (v : Int) : Upd x.enc 4 (#[Value.int .i64 v]) (frame_Ack.enc { x with N := v }) := Upd.cat [(x.From).enc, (x.To).enc] (#[Value.int .i64 x.N]) (#[Value.int .i64 v]) [] (by simp [szs, api_Num.size]) (rfl)
theorem frame_Ack.g_N (x : frame_Ack) : x.enc[4]? = some (Value.int .i64 x.N) := (frame_Ack.s_N x).one
theorem frame_Ack.g_From_Inc (x : frame_Ack) : x.enc[0]? = some (Value.int .i64 x.From.Inc) := (frame_Ack.s_From x).get (api_Num.g_Inc _)
theorem frame_Ack.u_From_Inc (x : frame_Ack) (v : Int) : Upd x.enc 0 (#[Value.int .i64 v]) (frame_Ack.enc { x with From := { x.From with Inc := v } }) := Upd.trans (o := 0) (o' := 0) (frame_Ack.s_From x) (api_Num.u_Inc _ v) (by simp) (frame_Ack.u_From x _)
theorem frame_Ack.g_From_N (x : frame_Ack) : x.enc[1]? = some (Value.int .i64 x.From.N) := (frame_Ack.s_From x).get (api_Num.g_N _)
theorem frame_Ack.u_From_N (x : frame_Ack) (v : Int) : Upd x.enc 1 (#[Value.int .i64 v]) (frame_Ack.enc { x with From := { x.From with N := v } }) := Upd.trans (o := 0) (o' := 1) (frame_Ack.s_From x) (api_Num.u_N _ v) (by simp) (frame_Ack.u_From x _)
theorem frame_Ack.g_To_Inc (x : frame_Ack) : x.enc[2]? = some (Value.int .i64 x.To.Inc) := (frame_Ack.s_To x).get (api_Num.g_Inc _)
theorem frame_Ack.u_To_Inc (x : frame_Ack) (v : Int) : Upd x.enc 2 (#[Value.int .i64 v]) (frame_Ack.enc { x with To := { x.To with Inc := v } }) := Upd.trans (o := 2) (o' := 0) (frame_Ack.s_To x) (api_Num.u_Inc _ v) (by simp) (frame_Ack.u_To x _)
theorem frame_Ack.g_To_N (x : frame_Ack) : x.enc[3]? = some (Value.int .i64 x.To.N) := (frame_Ack.s_To x).get (api_Num.g_N _)
theorem frame_Ack.u_To_N (x : frame_Ack) (v : Int) : Upd x.enc 3 (#[Value.int .i64 v]) (frame_Ack.enc { x with To := { x.To with N := v } }) := Upd.trans (o := 2) (o' := 1) (frame_Ack.s_To x) (api_Num.u_N _ v) (by simp) (frame_Ack.u_To x _)
def frame_Ack.zero : frame_Ack := ⟨api_Num.zero, api_Num.zero, 0⟩
theorem frame_Ack.inj {x y : frame_Ack} (h : x.enc = y.enc) : x = y := by
  have h0 := api_Num.inj (((frame_Ack.s_From x).2.symm.trans (by rw [h])).trans (frame_Ack.s_From y).2)
  have h1 := api_Num.inj (((frame_Ack.s_To x).2.symm.trans (by rw [h])).trans (frame_Ack.s_To y).2)
  have h2 := Option.some.inj (((frame_Ack.g_N x).symm.trans (by rw [h])).trans (frame_Ack.g_N y))
  simp only [Value.int.injEq, true_and] at h2
  cases x; cases y; simp only at h0 h1 h2; subst h0 h1 h2; rfl

structure frame_Setup where
  P : api_Path
  A : Idn
  B : Idn
  Trail : Slv
deriving DecidableEq
def frame_Setup.enc (x : frame_Setup) : Array Value := catA [(x.P).enc, (x.A).enc, (x.B).enc, #[x.Trail.v]]
theorem frame_Setup.size (x : frame_Setup) : x.enc.size = 50 := by rw [frame_Setup.enc, catA_size]; simp [szs, api_Path.size, Idn.size]
theorem frame_Setup.one (x : frame_Setup) : Ones x.enc := Ones.cat (by
  intro p hp
  simp only [List.mem_cons, List.not_mem_nil, or_false] at hp
  rcases hp with rfl | rfl | rfl | rfl
  · exact api_Path.one _
  · exact Idn.one _
  · exact Idn.one _
  · exact Ones.single rfl)
theorem frame_Setup.s_P (x : frame_Setup) : Sel x.enc 0 17 ((x.P).enc) := Sel.cat [] ((x.P).enc) [(x.A).enc, (x.B).enc, #[x.Trail.v]] (rfl) (api_Path.size _)
theorem frame_Setup.u_P (x : frame_Setup) (v : api_Path) : Upd x.enc 0 (v.enc) (frame_Setup.enc { x with P := v }) := Upd.cat [] ((x.P).enc) (v.enc) [(x.A).enc, (x.B).enc, #[x.Trail.v]] (rfl) (by simp [api_Path.size])
theorem frame_Setup.s_A (x : frame_Setup) : Sel x.enc 17 16 ((x.A).enc) := Sel.cat [(x.P).enc] ((x.A).enc) [(x.B).enc, #[x.Trail.v]] (by simp [szs, api_Path.size]) (Idn.size _)
theorem frame_Setup.u_A (x : frame_Setup) (v : Idn) : Upd x.enc 17 (v.enc) (frame_Setup.enc { x with A := v }) := Upd.cat [(x.P).enc] ((x.A).enc) (v.enc) [(x.B).enc, #[x.Trail.v]] (by simp [szs, api_Path.size]) (by simp [Idn.size])
theorem frame_Setup.s_B (x : frame_Setup) : Sel x.enc 33 16 ((x.B).enc) := Sel.cat [(x.P).enc, (x.A).enc] ((x.B).enc) [#[x.Trail.v]] (by simp [szs, api_Path.size, Idn.size]) (Idn.size _)
theorem frame_Setup.u_B (x : frame_Setup) (v : Idn) : Upd x.enc 33 (v.enc) (frame_Setup.enc { x with B := v }) := Upd.cat [(x.P).enc, (x.A).enc] ((x.B).enc) (v.enc) [#[x.Trail.v]] (by simp [szs, api_Path.size, Idn.size]) (by simp [Idn.size])
theorem frame_Setup.s_Trail (x : frame_Setup) : Sel x.enc 49 1 (#[x.Trail.v]) := Sel.cat [(x.P).enc, (x.A).enc, (x.B).enc] (#[x.Trail.v]) [] (by simp [szs, api_Path.size, Idn.size]) (rfl)
theorem frame_Setup.u_Trail (x : frame_Setup) (v : Slv) : Upd x.enc 49 (#[v.v]) (frame_Setup.enc { x with Trail := v }) := Upd.cat [(x.P).enc, (x.A).enc, (x.B).enc] (#[x.Trail.v]) (#[v.v]) [] (by simp [szs, api_Path.size, Idn.size]) (rfl)
theorem frame_Setup.g_Trail (x : frame_Setup) : x.enc[49]? = some (x.Trail.v) := (frame_Setup.s_Trail x).one
theorem frame_Setup.s_P_Who (x : frame_Setup) : Sel x.enc 0 16 (x.P.Who.enc) := (frame_Setup.s_P x).trans (api_Path.s_Who _)
theorem frame_Setup.u_P_Who (x : frame_Setup) (v : Idn) : Upd x.enc 0 (v.enc) (frame_Setup.enc { x with P := { x.P with Who := v } }) := Upd.trans (o := 0) (o' := 0) (frame_Setup.s_P x) (api_Path.u_Who _ v) (by simp [Idn.size]) (frame_Setup.u_P x _)
theorem frame_Setup.g_P_N (x : frame_Setup) : x.enc[16]? = some (Value.int .i64 x.P.N) := (frame_Setup.s_P x).get (api_Path.g_N _)
theorem frame_Setup.u_P_N (x : frame_Setup) (v : Int) : Upd x.enc 16 (#[Value.int .i64 v]) (frame_Setup.enc { x with P := { x.P with N := v } }) := Upd.trans (o := 0) (o' := 16) (frame_Setup.s_P x) (api_Path.u_N _ v) (by simp) (frame_Setup.u_P x _)
def frame_Setup.zero : frame_Setup := ⟨api_Path.zero, Idn.zero, Idn.zero, ⟨none, 0, 0⟩⟩
theorem frame_Setup.inj {x y : frame_Setup} (h : x.enc = y.enc) : x = y := by
  have h0 := api_Path.inj (((frame_Setup.s_P x).2.symm.trans (by rw [h])).trans (frame_Setup.s_P y).2)
  have h1 := Idn.enc_inj (((frame_Setup.s_A x).2.symm.trans (by rw [h])).trans (frame_Setup.s_A y).2)
  have h2 := Idn.enc_inj (((frame_Setup.s_B x).2.symm.trans (by rw [h])).trans (frame_Setup.s_B y).2)
  have h3 := Option.some.inj (((frame_Setup.g_Trail x).symm.trans (by rw [h])).trans (frame_Setup.g_Trail y))
  replace h3 := Slv.v_inj h3
  cases x; cases y; simp only at h0 h1 h2 h3; subst h0 h1 h2 h3; rfl

structure frame_Part where
  P : api_Path
  ToA : Bool
deriving DecidableEq
def frame_Part.enc (x : frame_Part) : Array Value := catA [(x.P).enc, #[Value.bool x.ToA]]
theorem frame_Part.size (x : frame_Part) : x.enc.size = 18 := by rw [frame_Part.enc, catA_size]; simp [szs, api_Path.size]
theorem frame_Part.one (x : frame_Part) : Ones x.enc := Ones.cat (by
  intro p hp
  simp only [List.mem_cons, List.not_mem_nil, or_false] at hp
  rcases hp with rfl | rfl
  · exact api_Path.one _
  · exact Ones.single rfl)
theorem frame_Part.pl (x : frame_Part) : Pl x.enc := Pl.cat (by
  intro p hp
  simp only [List.mem_cons, List.not_mem_nil, or_false] at hp
  rcases hp with rfl | rfl
  · exact api_Path.pl _
  · exact Pl.single rfl)
theorem frame_Part.s_P (x : frame_Part) : Sel x.enc 0 17 ((x.P).enc) := Sel.cat [] ((x.P).enc) [#[Value.bool x.ToA]] (rfl) (api_Path.size _)
theorem frame_Part.u_P (x : frame_Part) (v : api_Path) : Upd x.enc 0 (v.enc) (frame_Part.enc { x with P := v }) := Upd.cat [] ((x.P).enc) (v.enc) [#[Value.bool x.ToA]] (rfl) (by simp [api_Path.size])
theorem frame_Part.s_ToA (x : frame_Part) : Sel x.enc 17 1 (#[Value.bool x.ToA]) := Sel.cat [(x.P).enc] (#[Value.bool x.ToA]) [] (by simp [szs, api_Path.size]) (rfl)
theorem frame_Part.u_ToA (x : frame_Part) (v : Bool) : Upd x.enc 17 (#[Value.bool v]) (frame_Part.enc { x with ToA := v }) := Upd.cat [(x.P).enc] (#[Value.bool x.ToA]) (#[Value.bool v]) [] (by simp [szs, api_Path.size]) (rfl)
theorem frame_Part.g_ToA (x : frame_Part) : x.enc[17]? = some (Value.bool x.ToA) := (frame_Part.s_ToA x).one
theorem frame_Part.s_P_Who (x : frame_Part) : Sel x.enc 0 16 (x.P.Who.enc) := (frame_Part.s_P x).trans (api_Path.s_Who _)
theorem frame_Part.u_P_Who (x : frame_Part) (v : Idn) : Upd x.enc 0 (v.enc) (frame_Part.enc { x with P := { x.P with Who := v } }) := Upd.trans (o := 0) (o' := 0) (frame_Part.s_P x) (api_Path.u_Who _ v) (by simp [Idn.size]) (frame_Part.u_P x _)
theorem frame_Part.g_P_N (x : frame_Part) : x.enc[16]? = some (Value.int .i64 x.P.N) := (frame_Part.s_P x).get (api_Path.g_N _)
theorem frame_Part.u_P_N (x : frame_Part) (v : Int) : Upd x.enc 16 (#[Value.int .i64 v]) (frame_Part.enc { x with P := { x.P with N := v } }) := Upd.trans (o := 0) (o' := 16) (frame_Part.s_P x) (api_Path.u_N _ v) (by simp) (frame_Part.u_P x _)
def frame_Part.zero : frame_Part := ⟨api_Path.zero, false⟩
theorem frame_Part.inj {x y : frame_Part} (h : x.enc = y.enc) : x = y := by
  have h0 := api_Path.inj (((frame_Part.s_P x).2.symm.trans (by rw [h])).trans (frame_Part.s_P y).2)
  have h1 := Option.some.inj (((frame_Part.g_ToA x).symm.trans (by rw [h])).trans (frame_Part.g_ToA y))
  simp only [Value.bool.injEq] at h1
  cases x; cases y; simp only at h0 h1; subst h0 h1; rfl

structure frame_Peers where
  P : api_Path
  ToA : Bool
  IDs : Slv
deriving DecidableEq
def frame_Peers.enc (x : frame_Peers) : Array Value := catA [(x.P).enc, #[Value.bool x.ToA], #[x.IDs.v]]
theorem frame_Peers.size (x : frame_Peers) : x.enc.size = 19 := by rw [frame_Peers.enc, catA_size]; simp [szs, api_Path.size]
theorem frame_Peers.one (x : frame_Peers) : Ones x.enc := Ones.cat (by
  intro p hp
  simp only [List.mem_cons, List.not_mem_nil, or_false] at hp
  rcases hp with rfl | rfl | rfl
  · exact api_Path.one _
  · exact Ones.single rfl
  · exact Ones.single rfl)
theorem frame_Peers.s_P (x : frame_Peers) : Sel x.enc 0 17 ((x.P).enc) := Sel.cat [] ((x.P).enc) [#[Value.bool x.ToA], #[x.IDs.v]] (rfl) (api_Path.size _)
theorem frame_Peers.u_P (x : frame_Peers) (v : api_Path) : Upd x.enc 0 (v.enc) (frame_Peers.enc { x with P := v }) := Upd.cat [] ((x.P).enc) (v.enc) [#[Value.bool x.ToA], #[x.IDs.v]] (rfl) (by simp [api_Path.size])
theorem frame_Peers.s_ToA (x : frame_Peers) : Sel x.enc 17 1 (#[Value.bool x.ToA]) := Sel.cat [(x.P).enc] (#[Value.bool x.ToA]) [#[x.IDs.v]] (by simp [szs, api_Path.size]) (rfl)
theorem frame_Peers.u_ToA (x : frame_Peers) (v : Bool) : Upd x.enc 17 (#[Value.bool v]) (frame_Peers.enc { x with ToA := v }) := Upd.cat [(x.P).enc] (#[Value.bool x.ToA]) (#[Value.bool v]) [#[x.IDs.v]] (by simp [szs, api_Path.size]) (rfl)
theorem frame_Peers.g_ToA (x : frame_Peers) : x.enc[17]? = some (Value.bool x.ToA) := (frame_Peers.s_ToA x).one
theorem frame_Peers.s_IDs (x : frame_Peers) : Sel x.enc 18 1 (#[x.IDs.v]) := Sel.cat [(x.P).enc, #[Value.bool x.ToA]] (#[x.IDs.v]) [] (by simp [szs, api_Path.size]) (rfl)
theorem frame_Peers.u_IDs (x : frame_Peers) (v : Slv) : Upd x.enc 18 (#[v.v]) (frame_Peers.enc { x with IDs := v }) := Upd.cat [(x.P).enc, #[Value.bool x.ToA]] (#[x.IDs.v]) (#[v.v]) [] (by simp [szs, api_Path.size]) (rfl)
theorem frame_Peers.g_IDs (x : frame_Peers) : x.enc[18]? = some (x.IDs.v) := (frame_Peers.s_IDs x).one
theorem frame_Peers.s_P_Who (x : frame_Peers) : Sel x.enc 0 16 (x.P.Who.enc) := (frame_Peers.s_P x).trans (api_Path.s_Who _)
theorem frame_Peers.u_P_Who (x : frame_Peers) (v : Idn) : Upd x.enc 0 (v.enc) (frame_Peers.enc { x with P := { x.P with Who := v } }) := Upd.trans (o := 0) (o' := 0) (frame_Peers.s_P x) (api_Path.u_Who _ v) (by simp [Idn.size]) (frame_Peers.u_P x _)
theorem frame_Peers.g_P_N (x : frame_Peers) : x.enc[16]? = some (Value.int .i64 x.P.N) := (frame_Peers.s_P x).get (api_Path.g_N _)
theorem frame_Peers.u_P_N (x : frame_Peers) (v : Int) : Upd x.enc 16 (#[Value.int .i64 v]) (frame_Peers.enc { x with P := { x.P with N := v } }) := Upd.trans (o := 0) (o' := 16) (frame_Peers.s_P x) (api_Path.u_N _ v) (by simp) (frame_Peers.u_P x _)
def frame_Peers.zero : frame_Peers := ⟨api_Path.zero, false, ⟨none, 0, 0⟩⟩
theorem frame_Peers.inj {x y : frame_Peers} (h : x.enc = y.enc) : x = y := by
  have h0 := api_Path.inj (((frame_Peers.s_P x).2.symm.trans (by rw [h])).trans (frame_Peers.s_P y).2)
  have h1 := Option.some.inj (((frame_Peers.g_ToA x).symm.trans (by rw [h])).trans (frame_Peers.g_ToA y))
  simp only [Value.bool.injEq] at h1
  have h2 := Option.some.inj (((frame_Peers.g_IDs x).symm.trans (by rw [h])).trans (frame_Peers.g_IDs y))
  replace h2 := Slv.v_inj h2
  cases x; cases y; simp only at h0 h1 h2; subst h0 h1 h2; rfl

structure frame_Ask where
  Who : Idn
  Want : Idn
  Leg : Int
  P : api_Path
  ToA : Bool
  Trail : Slv
deriving DecidableEq
def frame_Ask.enc (x : frame_Ask) : Array Value := catA [(x.Who).enc, (x.Want).enc, #[Value.int .i64 x.Leg], (x.P).enc, #[Value.bool x.ToA], #[x.Trail.v]]
theorem frame_Ask.size (x : frame_Ask) : x.enc.size = 52 := by rw [frame_Ask.enc, catA_size]; simp [szs, Idn.size, api_Path.size]
theorem frame_Ask.one (x : frame_Ask) : Ones x.enc := Ones.cat (by
  intro p hp
  simp only [List.mem_cons, List.not_mem_nil, or_false] at hp
  rcases hp with rfl | rfl | rfl | rfl | rfl | rfl
  · exact Idn.one _
  · exact Idn.one _
  · exact Ones.single rfl
  · exact api_Path.one _
  · exact Ones.single rfl
  · exact Ones.single rfl)
theorem frame_Ask.s_Who (x : frame_Ask) : Sel x.enc 0 16 ((x.Who).enc) := Sel.cat [] ((x.Who).enc) [(x.Want).enc, #[Value.int .i64 x.Leg], (x.P).enc, #[Value.bool x.ToA], #[x.Trail.v]] (rfl) (Idn.size _)
theorem frame_Ask.u_Who (x : frame_Ask) (v : Idn) : Upd x.enc 0 (v.enc) (frame_Ask.enc { x with Who := v }) := Upd.cat [] ((x.Who).enc) (v.enc) [(x.Want).enc, #[Value.int .i64 x.Leg], (x.P).enc, #[Value.bool x.ToA], #[x.Trail.v]] (rfl) (by simp [Idn.size])
theorem frame_Ask.s_Want (x : frame_Ask) : Sel x.enc 16 16 ((x.Want).enc) := Sel.cat [(x.Who).enc] ((x.Want).enc) [#[Value.int .i64 x.Leg], (x.P).enc, #[Value.bool x.ToA], #[x.Trail.v]] (by simp [szs, Idn.size]) (Idn.size _)
theorem frame_Ask.u_Want (x : frame_Ask) (v : Idn) : Upd x.enc 16 (v.enc) (frame_Ask.enc { x with Want := v }) := Upd.cat [(x.Who).enc] ((x.Want).enc) (v.enc) [#[Value.int .i64 x.Leg], (x.P).enc, #[Value.bool x.ToA], #[x.Trail.v]] (by simp [szs, Idn.size]) (by simp [Idn.size])
theorem frame_Ask.s_Leg (x : frame_Ask) : Sel x.enc 32 1 (#[Value.int .i64 x.Leg]) := Sel.cat [(x.Who).enc, (x.Want).enc] (#[Value.int .i64 x.Leg]) [(x.P).enc, #[Value.bool x.ToA], #[x.Trail.v]] (by simp [szs, Idn.size]) (rfl)
theorem frame_Ask.u_Leg (x : frame_Ask) (v : Int) : Upd x.enc 32 (#[Value.int .i64 v]) (frame_Ask.enc { x with Leg := v }) := Upd.cat [(x.Who).enc, (x.Want).enc] (#[Value.int .i64 x.Leg]) (#[Value.int .i64 v]) [(x.P).enc, #[Value.bool x.ToA], #[x.Trail.v]] (by simp [szs, Idn.size]) (rfl)
theorem frame_Ask.g_Leg (x : frame_Ask) : x.enc[32]? = some (Value.int .i64 x.Leg) := (frame_Ask.s_Leg x).one
theorem frame_Ask.s_P (x : frame_Ask) : Sel x.enc 33 17 ((x.P).enc) := Sel.cat [(x.Who).enc, (x.Want).enc, #[Value.int .i64 x.Leg]] ((x.P).enc) [#[Value.bool x.ToA], #[x.Trail.v]] (by simp [szs, Idn.size]) (api_Path.size _)
theorem frame_Ask.u_P (x : frame_Ask) (v : api_Path) : Upd x.enc 33 (v.enc) (frame_Ask.enc { x with P := v }) := Upd.cat [(x.Who).enc, (x.Want).enc, #[Value.int .i64 x.Leg]] ((x.P).enc) (v.enc) [#[Value.bool x.ToA], #[x.Trail.v]] (by simp [szs, Idn.size]) (by simp [api_Path.size])
theorem frame_Ask.s_ToA (x : frame_Ask) : Sel x.enc 50 1 (#[Value.bool x.ToA]) := Sel.cat [(x.Who).enc, (x.Want).enc, #[Value.int .i64 x.Leg], (x.P).enc] (#[Value.bool x.ToA]) [#[x.Trail.v]] (by simp [szs, Idn.size, api_Path.size]) (rfl)
theorem frame_Ask.u_ToA (x : frame_Ask) (v : Bool) : Upd x.enc 50 (#[Value.bool v]) (frame_Ask.enc { x with ToA := v }) := Upd.cat [(x.Who).enc, (x.Want).enc, #[Value.int .i64 x.Leg], (x.P).enc] (#[Value.bool x.ToA]) (#[Value.bool v]) [#[x.Trail.v]] (by simp [szs, Idn.size, api_Path.size]) (rfl)
theorem frame_Ask.g_ToA (x : frame_Ask) : x.enc[50]? = some (Value.bool x.ToA) := (frame_Ask.s_ToA x).one
theorem frame_Ask.s_Trail (x : frame_Ask) : Sel x.enc 51 1 (#[x.Trail.v]) := Sel.cat [(x.Who).enc, (x.Want).enc, #[Value.int .i64 x.Leg], (x.P).enc, #[Value.bool x.ToA]] (#[x.Trail.v]) [] (by simp [szs, Idn.size, api_Path.size]) (rfl)
theorem frame_Ask.u_Trail (x : frame_Ask) (v : Slv) : Upd x.enc 51 (#[v.v]) (frame_Ask.enc { x with Trail := v }) := Upd.cat [(x.Who).enc, (x.Want).enc, #[Value.int .i64 x.Leg], (x.P).enc, #[Value.bool x.ToA]] (#[x.Trail.v]) (#[v.v]) [] (by simp [szs, Idn.size, api_Path.size]) (rfl)
theorem frame_Ask.g_Trail (x : frame_Ask) : x.enc[51]? = some (x.Trail.v) := (frame_Ask.s_Trail x).one
theorem frame_Ask.s_P_Who (x : frame_Ask) : Sel x.enc 33 16 (x.P.Who.enc) := (frame_Ask.s_P x).trans (api_Path.s_Who _)
theorem frame_Ask.u_P_Who (x : frame_Ask) (v : Idn) : Upd x.enc 33 (v.enc) (frame_Ask.enc { x with P := { x.P with Who := v } }) := Upd.trans (o := 33) (o' := 0) (frame_Ask.s_P x) (api_Path.u_Who _ v) (by simp [Idn.size]) (frame_Ask.u_P x _)
theorem frame_Ask.g_P_N (x : frame_Ask) : x.enc[49]? = some (Value.int .i64 x.P.N) := (frame_Ask.s_P x).get (api_Path.g_N _)
theorem frame_Ask.u_P_N (x : frame_Ask) (v : Int) : Upd x.enc 49 (#[Value.int .i64 v]) (frame_Ask.enc { x with P := { x.P with N := v } }) := Upd.trans (o := 33) (o' := 16) (frame_Ask.s_P x) (api_Path.u_N _ v) (by simp) (frame_Ask.u_P x _)
def frame_Ask.zero : frame_Ask := ⟨Idn.zero, Idn.zero, 0, api_Path.zero, false, ⟨none, 0, 0⟩⟩
theorem frame_Ask.inj {x y : frame_Ask} (h : x.enc = y.enc) : x = y := by
  have h0 := Idn.enc_inj (((frame_Ask.s_Who x).2.symm.trans (by rw [h])).trans (frame_Ask.s_Who y).2)
  have h1 := Idn.enc_inj (((frame_Ask.s_Want x).2.symm.trans (by rw [h])).trans (frame_Ask.s_Want y).2)
  have h2 := Option.some.inj (((frame_Ask.g_Leg x).symm.trans (by rw [h])).trans (frame_Ask.g_Leg y))
  simp only [Value.int.injEq, true_and] at h2
  have h3 := api_Path.inj (((frame_Ask.s_P x).2.symm.trans (by rw [h])).trans (frame_Ask.s_P y).2)
  have h4 := Option.some.inj (((frame_Ask.g_ToA x).symm.trans (by rw [h])).trans (frame_Ask.g_ToA y))
  simp only [Value.bool.injEq] at h4
  have h5 := Option.some.inj (((frame_Ask.g_Trail x).symm.trans (by rw [h])).trans (frame_Ask.g_Trail y))
  replace h5 := Slv.v_inj h5
  cases x; cases y; simp only at h0 h1 h2 h3 h4 h5; subst h0 h1 h2 h3 h4 h5; rfl

structure frame_Advert where
  ID : Idn
  Far : Int
deriving DecidableEq
def frame_Advert.enc (x : frame_Advert) : Array Value := catA [(x.ID).enc, #[Value.int .i64 x.Far]]
theorem frame_Advert.size (x : frame_Advert) : x.enc.size = 17 := by rw [frame_Advert.enc, catA_size]; simp [szs, Idn.size]
theorem frame_Advert.one (x : frame_Advert) : Ones x.enc := Ones.cat (by
  intro p hp
  simp only [List.mem_cons, List.not_mem_nil, or_false] at hp
  rcases hp with rfl | rfl
  · exact Idn.one _
  · exact Ones.single rfl)
theorem frame_Advert.pl (x : frame_Advert) : Pl x.enc := Pl.cat (by
  intro p hp
  simp only [List.mem_cons, List.not_mem_nil, or_false] at hp
  rcases hp with rfl | rfl
  · exact Idn.pl _
  · exact Pl.single rfl)
theorem frame_Advert.s_ID (x : frame_Advert) : Sel x.enc 0 16 ((x.ID).enc) := Sel.cat [] ((x.ID).enc) [#[Value.int .i64 x.Far]] (rfl) (Idn.size _)
theorem frame_Advert.u_ID (x : frame_Advert) (v : Idn) : Upd x.enc 0 (v.enc) (frame_Advert.enc { x with ID := v }) := Upd.cat [] ((x.ID).enc) (v.enc) [#[Value.int .i64 x.Far]] (rfl) (by simp [Idn.size])
theorem frame_Advert.s_Far (x : frame_Advert) : Sel x.enc 16 1 (#[Value.int .i64 x.Far]) := Sel.cat [(x.ID).enc] (#[Value.int .i64 x.Far]) [] (by simp [szs, Idn.size]) (rfl)
theorem frame_Advert.u_Far (x : frame_Advert) (v : Int) : Upd x.enc 16 (#[Value.int .i64 v]) (frame_Advert.enc { x with Far := v }) := Upd.cat [(x.ID).enc] (#[Value.int .i64 x.Far]) (#[Value.int .i64 v]) [] (by simp [szs, Idn.size]) (rfl)
theorem frame_Advert.g_Far (x : frame_Advert) : x.enc[16]? = some (Value.int .i64 x.Far) := (frame_Advert.s_Far x).one
def frame_Advert.zero : frame_Advert := ⟨Idn.zero, 0⟩
theorem frame_Advert.inj {x y : frame_Advert} (h : x.enc = y.enc) : x = y := by
  have h0 := Idn.enc_inj (((frame_Advert.s_ID x).2.symm.trans (by rw [h])).trans (frame_Advert.s_ID y).2)
  have h1 := Option.some.inj (((frame_Advert.g_Far x).symm.trans (by rw [h])).trans (frame_Advert.g_Far y))
  simp only [Value.int.injEq, true_and] at h1
  cases x; cases y; simp only at h0 h1; subst h0 h1; rfl

structure frame_Packet where
  Src : Idn
  Dst : Idn
  Req : Int
  Op : Int
  TTL : Int
  Itm : api_Item
  Text : Slv
deriving DecidableEq
def frame_Packet.enc (x : frame_Packet) : Array Value := catA [(x.Src).enc, (x.Dst).enc, #[Value.int .i64 x.Req], #[Value.int .i64 x.Op], #[Value.int .i64 x.TTL], (x.Itm).enc, #[x.Text.v]]
theorem frame_Packet.size (x : frame_Packet) : x.enc.size = 70 := by rw [frame_Packet.enc, catA_size]; simp [szs, Idn.size, api_Item.size]
theorem frame_Packet.one (x : frame_Packet) : Ones x.enc := Ones.cat (by
  intro p hp
  simp only [List.mem_cons, List.not_mem_nil, or_false] at hp
  rcases hp with rfl | rfl | rfl | rfl | rfl | rfl | rfl
  · exact Idn.one _
  · exact Idn.one _
  · exact Ones.single rfl
  · exact Ones.single rfl
  · exact Ones.single rfl
  · exact api_Item.one _
  · exact Ones.single rfl)
theorem frame_Packet.s_Src (x : frame_Packet) : Sel x.enc 0 16 ((x.Src).enc) := Sel.cat [] ((x.Src).enc) [(x.Dst).enc, #[Value.int .i64 x.Req], #[Value.int .i64 x.Op], #[Value.int .i64 x.TTL], (x.Itm).enc, #[x.Text.v]] (rfl) (Idn.size _)
theorem frame_Packet.u_Src (x : frame_Packet) (v : Idn) : Upd x.enc 0 (v.enc) (frame_Packet.enc { x with Src := v }) := Upd.cat [] ((x.Src).enc) (v.enc) [(x.Dst).enc, #[Value.int .i64 x.Req], #[Value.int .i64 x.Op], #[Value.int .i64 x.TTL], (x.Itm).enc, #[x.Text.v]] (rfl) (by simp [Idn.size])
theorem frame_Packet.s_Dst (x : frame_Packet) : Sel x.enc 16 16 ((x.Dst).enc) := Sel.cat [(x.Src).enc] ((x.Dst).enc) [#[Value.int .i64 x.Req], #[Value.int .i64 x.Op], #[Value.int .i64 x.TTL], (x.Itm).enc, #[x.Text.v]] (by simp [szs, Idn.size]) (Idn.size _)
theorem frame_Packet.u_Dst (x : frame_Packet) (v : Idn) : Upd x.enc 16 (v.enc) (frame_Packet.enc { x with Dst := v }) := Upd.cat [(x.Src).enc] ((x.Dst).enc) (v.enc) [#[Value.int .i64 x.Req], #[Value.int .i64 x.Op], #[Value.int .i64 x.TTL], (x.Itm).enc, #[x.Text.v]] (by simp [szs, Idn.size]) (by simp [Idn.size])
theorem frame_Packet.s_Req (x : frame_Packet) : Sel x.enc 32 1 (#[Value.int .i64 x.Req]) := Sel.cat [(x.Src).enc, (x.Dst).enc] (#[Value.int .i64 x.Req]) [#[Value.int .i64 x.Op], #[Value.int .i64 x.TTL], (x.Itm).enc, #[x.Text.v]] (by simp [szs, Idn.size]) (rfl)
theorem frame_Packet.u_Req (x : frame_Packet) (v : Int) : Upd x.enc 32 (#[Value.int .i64 v]) (frame_Packet.enc { x with Req := v }) := Upd.cat [(x.Src).enc, (x.Dst).enc] (#[Value.int .i64 x.Req]) (#[Value.int .i64 v]) [#[Value.int .i64 x.Op], #[Value.int .i64 x.TTL], (x.Itm).enc, #[x.Text.v]] (by simp [szs, Idn.size]) (rfl)
theorem frame_Packet.g_Req (x : frame_Packet) : x.enc[32]? = some (Value.int .i64 x.Req) := (frame_Packet.s_Req x).one
theorem frame_Packet.s_Op (x : frame_Packet) : Sel x.enc 33 1 (#[Value.int .i64 x.Op]) := Sel.cat [(x.Src).enc, (x.Dst).enc, #[Value.int .i64 x.Req]] (#[Value.int .i64 x.Op]) [#[Value.int .i64 x.TTL], (x.Itm).enc, #[x.Text.v]] (by simp [szs, Idn.size]) (rfl)
theorem frame_Packet.u_Op (x : frame_Packet) (v : Int) : Upd x.enc 33 (#[Value.int .i64 v]) (frame_Packet.enc { x with Op := v }) := Upd.cat [(x.Src).enc, (x.Dst).enc, #[Value.int .i64 x.Req]] (#[Value.int .i64 x.Op]) (#[Value.int .i64 v]) [#[Value.int .i64 x.TTL], (x.Itm).enc, #[x.Text.v]] (by simp [szs, Idn.size]) (rfl)
theorem frame_Packet.g_Op (x : frame_Packet) : x.enc[33]? = some (Value.int .i64 x.Op) := (frame_Packet.s_Op x).one
theorem frame_Packet.s_TTL (x : frame_Packet) : Sel x.enc 34 1 (#[Value.int .i64 x.TTL]) := Sel.cat [(x.Src).enc, (x.Dst).enc, #[Value.int .i64 x.Req], #[Value.int .i64 x.Op]] (#[Value.int .i64 x.TTL]) [(x.Itm).enc, #[x.Text.v]] (by simp [szs, Idn.size]) (rfl)
theorem frame_Packet.u_TTL (x : frame_Packet) (v : Int) : Upd x.enc 34 (#[Value.int .i64 v]) (frame_Packet.enc { x with TTL := v }) := Upd.cat [(x.Src).enc, (x.Dst).enc, #[Value.int .i64 x.Req], #[Value.int .i64 x.Op]] (#[Value.int .i64 x.TTL]) (#[Value.int .i64 v]) [(x.Itm).enc, #[x.Text.v]] (by simp [szs, Idn.size]) (rfl)
theorem frame_Packet.g_TTL (x : frame_Packet) : x.enc[34]? = some (Value.int .i64 x.TTL) := (frame_Packet.s_TTL x).one
theorem frame_Packet.s_Itm (x : frame_Packet) : Sel x.enc 35 34 ((x.Itm).enc) := Sel.cat [(x.Src).enc, (x.Dst).enc, #[Value.int .i64 x.Req], #[Value.int .i64 x.Op], #[Value.int .i64 x.TTL]] ((x.Itm).enc) [#[x.Text.v]] (by simp [szs, Idn.size]) (api_Item.size _)
theorem frame_Packet.u_Itm (x : frame_Packet) (v : api_Item) : Upd x.enc 35 (v.enc) (frame_Packet.enc { x with Itm := v }) := Upd.cat [(x.Src).enc, (x.Dst).enc, #[Value.int .i64 x.Req], #[Value.int .i64 x.Op], #[Value.int .i64 x.TTL]] ((x.Itm).enc) (v.enc) [#[x.Text.v]] (by simp [szs, Idn.size]) (by simp [api_Item.size])
theorem frame_Packet.s_Text (x : frame_Packet) : Sel x.enc 69 1 (#[x.Text.v]) := Sel.cat [(x.Src).enc, (x.Dst).enc, #[Value.int .i64 x.Req], #[Value.int .i64 x.Op], #[Value.int .i64 x.TTL], (x.Itm).enc] (#[x.Text.v]) [] (by simp [szs, Idn.size, api_Item.size]) (rfl)
theorem frame_Packet.u_Text (x : frame_Packet) (v : Slv) : Upd x.enc 69 (#[v.v]) (frame_Packet.enc { x with Text := v }) := Upd.cat [(x.Src).enc, (x.Dst).enc, #[Value.int .i64 x.Req], #[Value.int .i64 x.Op], #[Value.int .i64 x.TTL], (x.Itm).enc] (#[x.Text.v]) (#[v.v]) [] (by simp [szs, Idn.size, api_Item.size]) (rfl)
theorem frame_Packet.g_Text (x : frame_Packet) : x.enc[69]? = some (x.Text.v) := (frame_Packet.s_Text x).one
theorem frame_Packet.s_Itm_Key (x : frame_Packet) : Sel x.enc 35 16 (x.Itm.Key.enc) := (frame_Packet.s_Itm x).trans (api_Item.s_Key _)
theorem frame_Packet.u_Itm_Key (x : frame_Packet) (v : Idn) : Upd x.enc 35 (v.enc) (frame_Packet.enc { x with Itm := { x.Itm with Key := v } }) := Upd.trans (o := 35) (o' := 0) (frame_Packet.s_Itm x) (api_Item.u_Key _ v) (by simp [Idn.size]) (frame_Packet.u_Itm x _)
theorem frame_Packet.s_Itm_Ver (x : frame_Packet) : Sel x.enc 51 17 (x.Itm.Ver.enc) := (frame_Packet.s_Itm x).trans (api_Item.s_Ver _)
theorem frame_Packet.u_Itm_Ver (x : frame_Packet) (v : api_Ver) : Upd x.enc 51 (v.enc) (frame_Packet.enc { x with Itm := { x.Itm with Ver := v } }) := Upd.trans (o := 35) (o' := 16) (frame_Packet.s_Itm x) (api_Item.u_Ver _ v) (by simp [api_Ver.size]) (frame_Packet.u_Itm x _)
theorem frame_Packet.g_Itm_Ver_N (x : frame_Packet) : x.enc[51]? = some (Value.int .i64 x.Itm.Ver.N) := (frame_Packet.s_Itm x).get (api_Item.g_Ver_N _)
theorem frame_Packet.u_Itm_Ver_N (x : frame_Packet) (v : Int) : Upd x.enc 51 (#[Value.int .i64 v]) (frame_Packet.enc { x with Itm := { x.Itm with Ver := { x.Itm.Ver with N := v } } }) := Upd.trans (o := 35) (o' := 16) (frame_Packet.s_Itm x) (api_Item.u_Ver_N _ v) (by simp) (frame_Packet.u_Itm x _)
theorem frame_Packet.s_Itm_Ver_Who (x : frame_Packet) : Sel x.enc 52 16 (x.Itm.Ver.Who.enc) := (frame_Packet.s_Itm x).trans (api_Item.s_Ver_Who _)
theorem frame_Packet.u_Itm_Ver_Who (x : frame_Packet) (v : Idn) : Upd x.enc 52 (v.enc) (frame_Packet.enc { x with Itm := { x.Itm with Ver := { x.Itm.Ver with Who := v } } }) := Upd.trans (o := 35) (o' := 17) (frame_Packet.s_Itm x) (api_Item.u_Ver_Who _ v) (by simp [Idn.size]) (frame_Packet.u_Itm x _)
theorem frame_Packet.g_Itm_Val (x : frame_Packet) : x.enc[68]? = some (x.Itm.Val.v) := (frame_Packet.s_Itm x).get (api_Item.g_Val _)
theorem frame_Packet.u_Itm_Val (x : frame_Packet) (v : Slv) : Upd x.enc 68 (#[v.v]) (frame_Packet.enc { x with Itm := { x.Itm with Val := v } }) := Upd.trans (o := 35) (o' := 33) (frame_Packet.s_Itm x) (api_Item.u_Val _ v) (by simp) (frame_Packet.u_Itm x _)
def frame_Packet.zero : frame_Packet := ⟨Idn.zero, Idn.zero, 0, 0, 0, api_Item.zero, ⟨none, 0, 0⟩⟩
theorem frame_Packet.inj {x y : frame_Packet} (h : x.enc = y.enc) : x = y := by
  have h0 := Idn.enc_inj (((frame_Packet.s_Src x).2.symm.trans (by rw [h])).trans (frame_Packet.s_Src y).2)
  have h1 := Idn.enc_inj (((frame_Packet.s_Dst x).2.symm.trans (by rw [h])).trans (frame_Packet.s_Dst y).2)
  have h2 := Option.some.inj (((frame_Packet.g_Req x).symm.trans (by rw [h])).trans (frame_Packet.g_Req y))
  simp only [Value.int.injEq, true_and] at h2
  have h3 := Option.some.inj (((frame_Packet.g_Op x).symm.trans (by rw [h])).trans (frame_Packet.g_Op y))
  simp only [Value.int.injEq, true_and] at h3
  have h4 := Option.some.inj (((frame_Packet.g_TTL x).symm.trans (by rw [h])).trans (frame_Packet.g_TTL y))
  simp only [Value.int.injEq, true_and] at h4
  have h5 := api_Item.inj (((frame_Packet.s_Itm x).2.symm.trans (by rw [h])).trans (frame_Packet.s_Itm y).2)
  have h6 := Option.some.inj (((frame_Packet.g_Text x).symm.trans (by rw [h])).trans (frame_Packet.g_Text y))
  replace h6 := Slv.v_inj h6
  cases x; cases y; simp only at h0 h1 h2 h3 h4 h5 h6; subst h0 h1 h2 h3 h4 h5 h6; rfl

structure frame_Copy where
  P : api_Path
  ToA : Bool
  Itm : api_Item
deriving DecidableEq
def frame_Copy.enc (x : frame_Copy) : Array Value := catA [(x.P).enc, #[Value.bool x.ToA], (x.Itm).enc]
theorem frame_Copy.size (x : frame_Copy) : x.enc.size = 52 := by rw [frame_Copy.enc, catA_size]; simp [szs, api_Path.size, api_Item.size]
theorem frame_Copy.one (x : frame_Copy) : Ones x.enc := Ones.cat (by
  intro p hp
  simp only [List.mem_cons, List.not_mem_nil, or_false] at hp
  rcases hp with rfl | rfl | rfl
  · exact api_Path.one _
  · exact Ones.single rfl
  · exact api_Item.one _)
theorem frame_Copy.s_P (x : frame_Copy) : Sel x.enc 0 17 ((x.P).enc) := Sel.cat [] ((x.P).enc) [#[Value.bool x.ToA], (x.Itm).enc] (rfl) (api_Path.size _)
theorem frame_Copy.u_P (x : frame_Copy) (v : api_Path) : Upd x.enc 0 (v.enc) (frame_Copy.enc { x with P := v }) := Upd.cat [] ((x.P).enc) (v.enc) [#[Value.bool x.ToA], (x.Itm).enc] (rfl) (by simp [api_Path.size])
theorem frame_Copy.s_ToA (x : frame_Copy) : Sel x.enc 17 1 (#[Value.bool x.ToA]) := Sel.cat [(x.P).enc] (#[Value.bool x.ToA]) [(x.Itm).enc] (by simp [szs, api_Path.size]) (rfl)
theorem frame_Copy.u_ToA (x : frame_Copy) (v : Bool) : Upd x.enc 17 (#[Value.bool v]) (frame_Copy.enc { x with ToA := v }) := Upd.cat [(x.P).enc] (#[Value.bool x.ToA]) (#[Value.bool v]) [(x.Itm).enc] (by simp [szs, api_Path.size]) (rfl)
theorem frame_Copy.g_ToA (x : frame_Copy) : x.enc[17]? = some (Value.bool x.ToA) := (frame_Copy.s_ToA x).one
theorem frame_Copy.s_Itm (x : frame_Copy) : Sel x.enc 18 34 ((x.Itm).enc) := Sel.cat [(x.P).enc, #[Value.bool x.ToA]] ((x.Itm).enc) [] (by simp [szs, api_Path.size]) (api_Item.size _)
theorem frame_Copy.u_Itm (x : frame_Copy) (v : api_Item) : Upd x.enc 18 (v.enc) (frame_Copy.enc { x with Itm := v }) := Upd.cat [(x.P).enc, #[Value.bool x.ToA]] ((x.Itm).enc) (v.enc) [] (by simp [szs, api_Path.size]) (by simp [api_Item.size])
theorem frame_Copy.s_P_Who (x : frame_Copy) : Sel x.enc 0 16 (x.P.Who.enc) := (frame_Copy.s_P x).trans (api_Path.s_Who _)
theorem frame_Copy.u_P_Who (x : frame_Copy) (v : Idn) : Upd x.enc 0 (v.enc) (frame_Copy.enc { x with P := { x.P with Who := v } }) := Upd.trans (o := 0) (o' := 0) (frame_Copy.s_P x) (api_Path.u_Who _ v) (by simp [Idn.size]) (frame_Copy.u_P x _)
theorem frame_Copy.g_P_N (x : frame_Copy) : x.enc[16]? = some (Value.int .i64 x.P.N) := (frame_Copy.s_P x).get (api_Path.g_N _)
theorem frame_Copy.u_P_N (x : frame_Copy) (v : Int) : Upd x.enc 16 (#[Value.int .i64 v]) (frame_Copy.enc { x with P := { x.P with N := v } }) := Upd.trans (o := 0) (o' := 16) (frame_Copy.s_P x) (api_Path.u_N _ v) (by simp) (frame_Copy.u_P x _)
theorem frame_Copy.s_Itm_Key (x : frame_Copy) : Sel x.enc 18 16 (x.Itm.Key.enc) := (frame_Copy.s_Itm x).trans (api_Item.s_Key _)
theorem frame_Copy.u_Itm_Key (x : frame_Copy) (v : Idn) : Upd x.enc 18 (v.enc) (frame_Copy.enc { x with Itm := { x.Itm with Key := v } }) := Upd.trans (o := 18) (o' := 0) (frame_Copy.s_Itm x) (api_Item.u_Key _ v) (by simp [Idn.size]) (frame_Copy.u_Itm x _)
theorem frame_Copy.s_Itm_Ver (x : frame_Copy) : Sel x.enc 34 17 (x.Itm.Ver.enc) := (frame_Copy.s_Itm x).trans (api_Item.s_Ver _)
theorem frame_Copy.u_Itm_Ver (x : frame_Copy) (v : api_Ver) : Upd x.enc 34 (v.enc) (frame_Copy.enc { x with Itm := { x.Itm with Ver := v } }) := Upd.trans (o := 18) (o' := 16) (frame_Copy.s_Itm x) (api_Item.u_Ver _ v) (by simp [api_Ver.size]) (frame_Copy.u_Itm x _)
theorem frame_Copy.g_Itm_Ver_N (x : frame_Copy) : x.enc[34]? = some (Value.int .i64 x.Itm.Ver.N) := (frame_Copy.s_Itm x).get (api_Item.g_Ver_N _)
theorem frame_Copy.u_Itm_Ver_N (x : frame_Copy) (v : Int) : Upd x.enc 34 (#[Value.int .i64 v]) (frame_Copy.enc { x with Itm := { x.Itm with Ver := { x.Itm.Ver with N := v } } }) := Upd.trans (o := 18) (o' := 16) (frame_Copy.s_Itm x) (api_Item.u_Ver_N _ v) (by simp) (frame_Copy.u_Itm x _)
theorem frame_Copy.s_Itm_Ver_Who (x : frame_Copy) : Sel x.enc 35 16 (x.Itm.Ver.Who.enc) := (frame_Copy.s_Itm x).trans (api_Item.s_Ver_Who _)
theorem frame_Copy.u_Itm_Ver_Who (x : frame_Copy) (v : Idn) : Upd x.enc 35 (v.enc) (frame_Copy.enc { x with Itm := { x.Itm with Ver := { x.Itm.Ver with Who := v } } }) := Upd.trans (o := 18) (o' := 17) (frame_Copy.s_Itm x) (api_Item.u_Ver_Who _ v) (by simp [Idn.size]) (frame_Copy.u_Itm x _)
theorem frame_Copy.g_Itm_Val (x : frame_Copy) : x.enc[51]? = some (x.Itm.Val.v) := (frame_Copy.s_Itm x).get (api_Item.g_Val _)
theorem frame_Copy.u_Itm_Val (x : frame_Copy) (v : Slv) : Upd x.enc 51 (#[v.v]) (frame_Copy.enc { x with Itm := { x.Itm with Val := v } }) := Upd.trans (o := 18) (o' := 33) (frame_Copy.s_Itm x) (api_Item.u_Val _ v) (by simp) (frame_Copy.u_Itm x _)
def frame_Copy.zero : frame_Copy := ⟨api_Path.zero, false, api_Item.zero⟩
theorem frame_Copy.inj {x y : frame_Copy} (h : x.enc = y.enc) : x = y := by
  have h0 := api_Path.inj (((frame_Copy.s_P x).2.symm.trans (by rw [h])).trans (frame_Copy.s_P y).2)
  have h1 := Option.some.inj (((frame_Copy.g_ToA x).symm.trans (by rw [h])).trans (frame_Copy.g_ToA y))
  simp only [Value.bool.injEq] at h1
  have h2 := api_Item.inj (((frame_Copy.s_Itm x).2.symm.trans (by rw [h])).trans (frame_Copy.s_Itm y).2)
  cases x; cases y; simp only at h0 h1 h2; subst h0 h1 h2; rfl

structure frame_Got where
  P : api_Path
  ToA : Bool
  Key : Idn
  Ver : api_Ver
deriving DecidableEq
def frame_Got.enc (x : frame_Got) : Array Value := catA [(x.P).enc, #[Value.bool x.ToA], (x.Key).enc, (x.Ver).enc]
theorem frame_Got.size (x : frame_Got) : x.enc.size = 51 := by rw [frame_Got.enc, catA_size]; simp [szs, api_Path.size, Idn.size, api_Ver.size]
theorem frame_Got.one (x : frame_Got) : Ones x.enc := Ones.cat (by
  intro p hp
  simp only [List.mem_cons, List.not_mem_nil, or_false] at hp
  rcases hp with rfl | rfl | rfl | rfl
  · exact api_Path.one _
  · exact Ones.single rfl
  · exact Idn.one _
  · exact api_Ver.one _)
theorem frame_Got.pl (x : frame_Got) : Pl x.enc := Pl.cat (by
  intro p hp
  simp only [List.mem_cons, List.not_mem_nil, or_false] at hp
  rcases hp with rfl | rfl | rfl | rfl
  · exact api_Path.pl _
  · exact Pl.single rfl
  · exact Idn.pl _
  · exact api_Ver.pl _)
theorem frame_Got.s_P (x : frame_Got) : Sel x.enc 0 17 ((x.P).enc) := Sel.cat [] ((x.P).enc) [#[Value.bool x.ToA], (x.Key).enc, (x.Ver).enc] (rfl) (api_Path.size _)
theorem frame_Got.u_P (x : frame_Got) (v : api_Path) : Upd x.enc 0 (v.enc) (frame_Got.enc { x with P := v }) := Upd.cat [] ((x.P).enc) (v.enc) [#[Value.bool x.ToA], (x.Key).enc, (x.Ver).enc] (rfl) (by simp [api_Path.size])
theorem frame_Got.s_ToA (x : frame_Got) : Sel x.enc 17 1 (#[Value.bool x.ToA]) := Sel.cat [(x.P).enc] (#[Value.bool x.ToA]) [(x.Key).enc, (x.Ver).enc] (by simp [szs, api_Path.size]) (rfl)
theorem frame_Got.u_ToA (x : frame_Got) (v : Bool) : Upd x.enc 17 (#[Value.bool v]) (frame_Got.enc { x with ToA := v }) := Upd.cat [(x.P).enc] (#[Value.bool x.ToA]) (#[Value.bool v]) [(x.Key).enc, (x.Ver).enc] (by simp [szs, api_Path.size]) (rfl)
theorem frame_Got.g_ToA (x : frame_Got) : x.enc[17]? = some (Value.bool x.ToA) := (frame_Got.s_ToA x).one
theorem frame_Got.s_Key (x : frame_Got) : Sel x.enc 18 16 ((x.Key).enc) := Sel.cat [(x.P).enc, #[Value.bool x.ToA]] ((x.Key).enc) [(x.Ver).enc] (by simp [szs, api_Path.size]) (Idn.size _)
theorem frame_Got.u_Key (x : frame_Got) (v : Idn) : Upd x.enc 18 (v.enc) (frame_Got.enc { x with Key := v }) := Upd.cat [(x.P).enc, #[Value.bool x.ToA]] ((x.Key).enc) (v.enc) [(x.Ver).enc] (by simp [szs, api_Path.size]) (by simp [Idn.size])
theorem frame_Got.s_Ver (x : frame_Got) : Sel x.enc 34 17 ((x.Ver).enc) := Sel.cat [(x.P).enc, #[Value.bool x.ToA], (x.Key).enc] ((x.Ver).enc) [] (by simp [szs, api_Path.size, Idn.size]) (api_Ver.size _)
theorem frame_Got.u_Ver (x : frame_Got) (v : api_Ver) : Upd x.enc 34 (v.enc) (frame_Got.enc { x with Ver := v }) := Upd.cat [(x.P).enc, #[Value.bool x.ToA], (x.Key).enc] ((x.Ver).enc) (v.enc) [] (by simp [szs, api_Path.size, Idn.size]) (by simp [api_Ver.size])
theorem frame_Got.s_P_Who (x : frame_Got) : Sel x.enc 0 16 (x.P.Who.enc) := (frame_Got.s_P x).trans (api_Path.s_Who _)
theorem frame_Got.u_P_Who (x : frame_Got) (v : Idn) : Upd x.enc 0 (v.enc) (frame_Got.enc { x with P := { x.P with Who := v } }) := Upd.trans (o := 0) (o' := 0) (frame_Got.s_P x) (api_Path.u_Who _ v) (by simp [Idn.size]) (frame_Got.u_P x _)
theorem frame_Got.g_P_N (x : frame_Got) : x.enc[16]? = some (Value.int .i64 x.P.N) := (frame_Got.s_P x).get (api_Path.g_N _)
theorem frame_Got.u_P_N (x : frame_Got) (v : Int) : Upd x.enc 16 (#[Value.int .i64 v]) (frame_Got.enc { x with P := { x.P with N := v } }) := Upd.trans (o := 0) (o' := 16) (frame_Got.s_P x) (api_Path.u_N _ v) (by simp) (frame_Got.u_P x _)
theorem frame_Got.g_Ver_N (x : frame_Got) : x.enc[34]? = some (Value.int .i64 x.Ver.N) := (frame_Got.s_Ver x).get (api_Ver.g_N _)
theorem frame_Got.u_Ver_N (x : frame_Got) (v : Int) : Upd x.enc 34 (#[Value.int .i64 v]) (frame_Got.enc { x with Ver := { x.Ver with N := v } }) := Upd.trans (o := 34) (o' := 0) (frame_Got.s_Ver x) (api_Ver.u_N _ v) (by simp) (frame_Got.u_Ver x _)
theorem frame_Got.s_Ver_Who (x : frame_Got) : Sel x.enc 35 16 (x.Ver.Who.enc) := (frame_Got.s_Ver x).trans (api_Ver.s_Who _)
theorem frame_Got.u_Ver_Who (x : frame_Got) (v : Idn) : Upd x.enc 35 (v.enc) (frame_Got.enc { x with Ver := { x.Ver with Who := v } }) := Upd.trans (o := 34) (o' := 1) (frame_Got.s_Ver x) (api_Ver.u_Who _ v) (by simp [Idn.size]) (frame_Got.u_Ver x _)
def frame_Got.zero : frame_Got := ⟨api_Path.zero, false, Idn.zero, api_Ver.zero⟩
theorem frame_Got.inj {x y : frame_Got} (h : x.enc = y.enc) : x = y := by
  have h0 := api_Path.inj (((frame_Got.s_P x).2.symm.trans (by rw [h])).trans (frame_Got.s_P y).2)
  have h1 := Option.some.inj (((frame_Got.g_ToA x).symm.trans (by rw [h])).trans (frame_Got.g_ToA y))
  simp only [Value.bool.injEq] at h1
  have h2 := Idn.enc_inj (((frame_Got.s_Key x).2.symm.trans (by rw [h])).trans (frame_Got.s_Key y).2)
  have h3 := api_Ver.inj (((frame_Got.s_Ver x).2.symm.trans (by rw [h])).trans (frame_Got.s_Ver y).2)
  cases x; cases y; simp only at h0 h1 h2 h3; subst h0 h1 h2 h3; rfl

end Go.Fx
